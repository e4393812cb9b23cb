/-
  WHAT IS PROVED HERE: contracts of package event's Parked where there is no machine, or no wait. Conditions: as stated.
-/
import Derived.Test.YtelphbfdibfmoaaLaw11A
namespace Go.Proofs.Ytelphbfdibfmoaa
open Go.RowKit

theorem evparked_nil (a seen : Int) (w : World) :
    Calls Try.prog 44 #[.agg #[.int .i64 a], .pointer none, .int .i64 seen] w fun e w' => e = .returned (.bool false) ∧ Below w.heap.size w w' := by
  have hx := box1 w a
  have bel := (Below.refl _ w).alloc (Nat.le_refl _) (.cells #[.int .i64 a] 62)
  go_enter Try.func44, Try.ntmps44
  go_wp2_with fail
  go_quiet (fail)
  go_wp2
  go_ret
  exact ⟨rfl, below_drewN' bel _⟩

theorem wparked_nilx (m : Option Addr) (w : World) :
    Calls Try.prog 38 #[.pointer none, .pointer m] w fun e w' => e = .returned (.bool false) ∧ Below w.heap.size w w' := by
  go_enter Try.func38, Try.ntmps38
  go_wp2_with fail
  go_quiet (fail)
  go_wp2
  go_ret
  exact ⟨rfl, below_drewN' (Below.refl _ _) _⟩

set_option maxRecDepth 100000 in
set_option maxHeartbeats 1000000 in
theorem wparked_nilm (x : Nat) (a how seen : Int) (w : World) (hw : WaitB w x a how seen) :
    Calls Try.prog 38 #[.pointer (some ⟨x, 0, none⟩), .pointer none] w fun e w' => e = .returned (.bool false) ∧ Below w.heap.size w w' := by
  have c1 := Blk.cell hw
  by_cases h2 : how = 2
  · subst h2
    go_enter Try.func38, Try.ntmps38
    go_wp2_with fail
    go_still_tail 19, (by kernel_rfl)
    change wpList _ _ _ _ _ w.drew
    go_wp2_with fail
    refine (evparked_nil a seen _).mono ?_
    rintro e w2 ⟨rfl, hb2⟩
    go_wp2
    go_ret
    exact ⟨rfl, ⟨hb2.os, hb2.tape, hb2.output, hb2.size, hb2.block⟩⟩
  · have h2' : (how == 2) = false := by simpa using h2
    clear h2
    go_enter Try.func38, Try.ntmps38
    go_wp2_with fail
    go_quiet (fail)
    go_wp2
    go_ret
    exact ⟨rfl, below_drewN' (Below.refl _ _) _⟩
end Go.Proofs.Ytelphbfdibfmoaa
