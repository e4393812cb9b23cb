/-
  WHAT IS PROVED HERE: the contract of the reference's Right (pelotonref18). Conditions: the numbers have 64 bits.
-/
import Derived.Test.YtkilghhknimolaaDoorSpareJ
namespace Go.Proofs.YtkilghhknimolaaDoor
open Go.RowKit

theorem hasBit_zero (i : Int) : hasBit 0 i = false := by
  unfold hasBit
  have : u64 0 = 0 := by decide
  rw [this]
  simp
theorem rright_ok (b m : Int) (w : World) : Calls Tryd.prog 31 #[.int .i64 b, .int .i64 m] w fun e w' => e = .returned (.bool (rightB b m)) ∧ w = w' := by
  by_cases h1 : 1 ≤ b
  · have d1 : decide (1 ≤ b) = true := by simp [h1]
    by_cases h2 : b ≤ 16
    · have d2 : decide (b ≤ 16) = true := by simp [h2]
      by_cases h3 : 0 ≤ m
      · have d3 : decide (0 ≤ m) = true := by simp [h3]
        by_cases h4 : m ≤ 16
        · have d4 : decide (m ≤ 16) = true := by simp [h4]
          have hw : wrap64 (b + m) = b + m := by unfold wrap64; omega
          by_cases h5 : b + m ≤ 16
          · have d5 : decide (b + m ≤ 16) = true := by simp [h5]
            have hr : rightB b m = true := by unfold rightB; rw [decide_eq_true_iff]; omega
            rw [hr]
            go_enter Tryd.func31, Tryd.ntmps31
            go_wp2
            go_ret
            exact ⟨rfl, rfl⟩
          · have d5 : decide (b + m ≤ 16) = false := by simp [h5]
            have hr : rightB b m = false := by unfold rightB; rw [decide_eq_false_iff_not]; omega
            rw [hr]
            go_enter Tryd.func31, Tryd.ntmps31
            go_wp2
            go_ret
            exact ⟨rfl, rfl⟩
        · have d4 : decide (m ≤ 16) = false := by simp [h4]
          have hr : rightB b m = false := by unfold rightB; rw [decide_eq_false_iff_not]; omega
          rw [hr]
          go_enter Tryd.func31, Tryd.ntmps31
          go_wp2
          go_ret
          exact ⟨rfl, rfl⟩
      · have d3 : decide (0 ≤ m) = false := by simp [h3]
        have hr : rightB b m = false := by unfold rightB; rw [decide_eq_false_iff_not]; omega
        rw [hr]
        go_enter Tryd.func31, Tryd.ntmps31
        go_wp2
        go_ret
        exact ⟨rfl, rfl⟩
    · have d2 : decide (b ≤ 16) = false := by simp [h2]
      have hr : rightB b m = false := by unfold rightB; rw [decide_eq_false_iff_not]; omega
      rw [hr]
      go_enter Tryd.func31, Tryd.ntmps31
      go_wp2
      go_ret
      exact ⟨rfl, rfl⟩
  · have d1 : decide (1 ≤ b) = false := by simp [h1]
    have hr : rightB b m = false := by unfold rightB; rw [decide_eq_false_iff_not]; omega
    rw [hr]
    go_enter Tryd.func31, Tryd.ntmps31
    go_wp2
    go_ret
    exact ⟨rfl, rfl⟩
/-- The same machine, other spares. -/
theorem SpW.again {w0 w : World} {mb : MB} {b b' : Nat} {m m' sz : Int} {l : List Int} {wt on : Int} {ops : List (Option (Nat × OS))} (h : SpW w0 w mb b m sz l wt on ops) (hr : rightB b' m' = true) (n : Nat) : SpW w0 w mb b' m' sz l wt on (List.replicate n none) where
  mach := h.mach
  op k o q e := by
    rw [List.getElem?_replicate] at e
    split at e <;> cases e
  dist k k' o q q' _ e := by
    rw [List.getElem?_replicate] at e
    split at e <;> cases e
  tab := h.tab
  mbw := h.mbw
  bel := h.bel
  pos := h.pos
  right := hr
end Go.Proofs.YtkilghhknimolaaDoor
