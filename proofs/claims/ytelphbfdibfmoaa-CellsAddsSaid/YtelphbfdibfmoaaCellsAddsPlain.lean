/-
  WHAT IS PROVED HERE: plain arithmetic for the law CellsAdds: sums that go round, and the sum of a list that is turned round. No program in sight. Conditions: none.
-/
import Derived.WalkKit
namespace Go.Proofs.Ytelphbfdibfmoaa
open Go.RowKit

/-- The sum of the first k numbers. -/
def psum (z : List Int) (k : Nat) : Int := (z.take k).sum
theorem psum_zero (z : List Int) : psum z 0 = 0 := by simp [psum]
theorem psum_succ (z : List Int) (k : Nat) (h : k < z.length) : psum z (k + 1) = psum z k + z.getD k 0 := by
  unfold psum
  rw [List.take_succ_eq_append_getElem h, List.sum_append]
  simp [List.getD, h]
theorem wrap_add (a x : Int) : wrap64 (wrap64 a + x) = wrap64 (a + x) := by unfold wrap64; omega
theorem wrap_add_neg (a x : Int) : wrap64 (wrap64 a + wrap64 (-x)) = wrap64 (a - x) := by unfold wrap64; omega
theorem wrap_sub (a x : Int) : wrap64 (wrap64 a - x) = wrap64 (a - x) := by unfold wrap64; omega

/-- The sum of the first k numbers of the list that begins at t and goes round. -/
def rsum (z : List Int) (t : Nat) : Nat → Int
  | 0 => 0
  | k + 1 => rsum z t k + z.getD ((k + t) % z.length) 0

theorem rsum_eq (z : List Int) (t : Nat) (ht : t ≤ z.length) : ∀ k, k ≤ z.length →
    rsum z t k = if t + k ≤ z.length then psum z (t + k) - psum z t else psum z z.length - psum z t + psum z (t + k - z.length)
  | 0, _ => by simp [rsum, ht]
  | k + 1, hk => by
    have ih := rsum_eq z t ht k (by omega)
    unfold rsum
    by_cases h1 : t + k < z.length
    · rw [if_pos (by omega)] at ih
      have hm : (k + t) % z.length = t + k := by rw [Nat.add_comm]; exact Nat.mod_eq_of_lt h1
      rw [if_pos (by omega), ih, hm, ← Nat.add_assoc, psum_succ z (t + k) h1]
      omega
    · have hm : (k + t) % z.length = t + k - z.length := by
        have e : k + t = (t + k - z.length) + z.length := by omega
        rw [e, Nat.add_mod_right]
        exact Nat.mod_eq_of_lt (by omega)
      have e2 : t + (k + 1) - z.length = t + k - z.length + 1 := by omega
      rw [if_neg (by omega), hm, e2, psum_succ z (t + k - z.length) (by omega)]
      by_cases h2 : t + k ≤ z.length
      · have e3 : t + k = z.length := by omega
        rw [if_pos h2] at ih
        rw [ih, e3, Nat.sub_self, psum_zero]
        omega
      · rw [if_neg h2] at ih
        rw [ih]
        omega

theorem rsum_all (z : List Int) (t : Nat) (ht : t ≤ z.length) : rsum z t z.length = psum z z.length := by
  rw [rsum_eq z t ht _ (Nat.le_refl _)]
  by_cases h : t + z.length ≤ z.length
  · have : t = 0 := by omega
    subst this
    rw [if_pos h]; simp [psum_zero]
  · rw [if_neg h, Nat.add_sub_cancel]
    omega
end Go.Proofs.Ytelphbfdibfmoaa
