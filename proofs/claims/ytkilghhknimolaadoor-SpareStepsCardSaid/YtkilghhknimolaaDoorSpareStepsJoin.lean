/-
  WHAT IS PROVED HERE: the walk of SpareSteps, for any spares and turns. Conditions: the table math/bits.deBruijn64tab lies as its initialiser lays it.
-/
import Derived.Test.YtkilghhknimolaaDoorSpareStepsWalk
namespace Go.Proofs.YtkilghhknimolaaDoor
open Go.RowKit

theorem spareSteps_walk (W : World) (hT : Tab W) (b : Int) (_w0 : (Lit.int .i64 b).wf = true) (m : Int) (w1 : (Lit.int .i64 m).wf = true) (A : Option Addr) (n c : Nat) (z : List Int) (_h : n ≤ maxLen) (F : Flat W A (n * 4) z) :
    Calls Tryd.prog 8 #[.int .i64 b, .int .i64 m, .slice A n c] W fun e w' => e = .returned (.bool true) ∧ Below W.heap.size W w' := by
  cases hr : rightB b m with
  | false => exact steps_wrong W hT b m (wf_range w1) hr A n c
  | true =>
    have h := hr
    unfold rightB at h
    rw [decide_eq_true_iff] at h
    obtain ⟨B, rfl⟩ := Int.eq_ofNat_of_zero_le (show 0 ≤ b by omega)
    obtain ⟨M, rfl⟩ := Int.eq_ofNat_of_zero_le (show 0 ≤ m by omega)
    by_cases hn : (300 : Int) < (n : Int)
    · exact steps_far W hT B M (by omega) (by omega) hr A n c hn
    · exact steps_near W hT B M (by omega) (by omega) hr A n c z (by omega) F
end Go.Proofs.YtkilghhknimolaaDoor
