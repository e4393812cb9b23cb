/-
  WHAT IS PROVED HERE: the law pelotonlaw11.EventParked returns true for every input, and what was there before the call stays.
-/
import Derived.Test.YtelphbfdibfmoaaEventParkedA
import Derived.Test.YtelphbfdibfmoaaEventParkedB
namespace Go.Proofs.Ytelphbfdibfmoaa
open Go.RowKit

theorem eventParked_walk (W : World) (a : Int) (_w0 : (Lit.int .i64 a).wf = true) (z : List Int) (hl : z.length = 4) (_w1 : ∀ x ∈ z, (Lit.int .i64 x).wf = true) (seen : Int) (_w2 : (Lit.int .i64 seen).wf = true) :
    Calls Try.prog 13 #[.int .i64 a, .agg (z.map (Value.int .i64)).toArray, .int .i64 seen] W fun e w' => e = .returned (.bool true) ∧ Below W.heap.size W w' := by
  obtain ⟨z0, z1, z2, z3, rfl⟩ := arr4 hl
  by_cases h : 0 ≤ a ∧ a < 4
  · obtain ⟨h0, h4⟩ := h
    obtain ⟨t, rfl⟩ := Int.eq_ofNat_of_zero_le h0
    exact parked_some W t (by omega) seen z0 z1 z2 z3
  · exact parked_none W a seen z0 z1 z2 z3 h
end Go.Proofs.Ytelphbfdibfmoaa
