/-
  WHAT IS PROVED HERE: plain arithmetic: the bits of a number below 2^64 as a rising list, the lowest one taken off; a worker among bits. Conditions: none beyond what each theorem names.
-/
import Derived.Lib.TrailingZeros
import Derived.Laws.Bits64b
namespace Go.Proofs.YtkilghhknimolaaDoor

/-- The places of the bits of x, from n on, fewer than 64. -/
def bitsOf (x : Nat) : List Nat := (List.range 64).filter x.testBit
theorem mem_bitsOf {x i : Nat} : i ∈ bitsOf x ↔ i < 64 ∧ x.testBit i = true := by simp [bitsOf]
theorem bitsOf_zero : bitsOf 0 = [] := by simp [bitsOf]
theorem low_parts {x : Nat} (h0 : x ≠ 0) (h : x < 18446744073709551616) : ∃ m, x = 2 ^ Lib.ctz 64 x * (2 * m + 1) ∧ Lib.ctz 64 x < 64 := by
  have := Lib.ctzFrom_spec 64 x (by omega) h
  unfold Lib.ctz
  rw [if_neg h0]
  exact this
theorem testBit_low {t m i : Nat} : (2 ^ t * (2 * m + 1)).testBit i = (decide (i = t) || (decide (t < i) && m.testBit (i - t - 1))) := by
  rw [Nat.mul_comm, Nat.testBit_mul_two_pow]
  by_cases h : t ≤ i
  · by_cases e : i = t
    · subst e; simp [Nat.testBit_zero]
    · obtain ⟨j, rfl⟩ : ∃ j, i = t + (j + 1) := ⟨i - t - 1, by omega⟩
      have e1 : t + (j + 1) - t = j + 1 := by omega
      have e2 : t + (j + 1) - t - 1 = j := by omega
      rw [e1, Nat.testBit_succ, show (2 * m + 1) / 2 = m by omega]
      simp
  · have a : ¬ i = t := by omega
    have b : ¬ t < i := by omega
    simp [h, a, b]
theorem testBit_next {t m i : Nat} : (2 ^ (t + 1) * m).testBit i = (decide (t < i) && m.testBit (i - t - 1)) := by
  rw [Nat.mul_comm, Nat.testBit_mul_two_pow]
  by_cases h : t < i
  · rw [show i - (t + 1) = i - t - 1 by omega]
    have : t + 1 ≤ i := h
    simp [h, this]
  · have : ¬ t + 1 ≤ i := by omega
    simp [h, this]
/-- The lowest bit is taken off by 'x & (x - 1)'. -/
theorem and_pred {t m : Nat} : (2 ^ t * (2 * m + 1)) &&& (2 ^ t * (2 * m + 1) - 1) = 2 ^ (t + 1) * m := by
  have hp : 0 < 2 ^ t := Nat.pow_pos (by omega)
  have e : 2 ^ t * (2 * m + 1) - 1 = 2 ^ (t + 1) * m + (2 ^ t - 1) := by
    rw [Nat.pow_succ, Nat.mul_add, Nat.mul_one, Nat.mul_assoc]; omega
  apply Nat.eq_of_testBit_eq
  intro i
  rw [Nat.testBit_and, testBit_low, testBit_next, e]
  have h2 : (2 ^ (t + 1) * m + (2 ^ t - 1)).testBit i = (decide (i < t) || (decide (t < i) && m.testBit (i - t - 1))) := by
    rw [Nat.testBit_two_pow_mul_add _ (by rw [Nat.pow_succ]; omega)]
    by_cases h : i < t + 1
    · rw [if_pos h]
      have a : ¬ t < i := by omega
      rw [Nat.testBit_two_pow_sub_one]
      simp [a]
    · rw [if_neg h]
      have a : t < i := by omega
      have b : ¬ i < t := by omega
      rw [show i - (t + 1) = i - t - 1 by omega]
      simp [a, b]
  rw [h2]
  by_cases a : i = t
  · subst a; simp
  · by_cases b : t < i
    · have c : ¬ i < t := by omega
      simp [a, b, c]
    · simp [a, b]
theorem bitsOf_next {x : Nat} (h0 : x ≠ 0) (h : x < 18446744073709551616) : bitsOf x = Lib.ctz 64 x :: bitsOf (x &&& (x - 1)) ∧ x &&& (x - 1) < x := by
  obtain ⟨m, hm, ht⟩ := low_parts h0 h
  generalize Lib.ctz 64 x = t at *
  subst hm
  rw [and_pred]
  refine ⟨?_, ?_⟩
  · unfold bitsOf
    have hlow : ∀ y : Nat, (∀ i, i < t → y.testBit i = false) → (List.range t).filter y.testBit = [] := by
      intro y hy
      rw [List.filter_eq_nil_iff]
      intro i hi
      simp [hy i (List.mem_range.1 hi)]
    have hl1 := hlow (2 ^ t * (2 * m + 1)) (fun i hi => by
      rw [testBit_low]
      have a : ¬ i = t := by omega
      have b : ¬ t < i := by omega
      simp [a, b])
    have hl2 := hlow (2 ^ (t + 1) * m) (fun i hi => by
      rw [testBit_next]
      have b : ¬ t < i := by omega
      simp [b])
    have ht1 : (2 ^ t * (2 * m + 1)).testBit t = true := by rw [testBit_low]; simp
    have ht2 : (2 ^ (t + 1) * m).testBit t = false := by rw [testBit_next]; simp
    have hrest : ((List.range (63 - t)).map (fun i => t + (1 + i))).filter (2 ^ t * (2 * m + 1)).testBit = ((List.range (63 - t)).map (fun i => t + (1 + i))).filter (2 ^ (t + 1) * m).testBit := by
      apply List.filter_congr
      intro i hi
      obtain ⟨j, _, rfl⟩ := List.mem_map.1 hi
      rw [testBit_low, testBit_next]
      simp
    have hr : List.range 64 = List.range t ++ (t :: (List.range (63 - t)).map (fun i => t + (1 + i))) := by
      rw [show (64 : Nat) = t + (1 + (63 - t)) by omega, List.range_add, List.range_add]
      simp [List.range_one]
    rw [hr, List.filter_append, List.filter_append, hl1, hl2, List.filter_cons, List.filter_cons, ht1, ht2, hrest]
    rfl
  · rw [Nat.pow_succ, Nat.mul_assoc]
    have hp : 0 < 2 ^ t := Nat.pow_pos (by omega)
    rw [Nat.mul_add]
    omega

/-- The bits of a 64-bit number, as one below 2^64. -/
def u64 (z : Int) : Nat := (z % 18446744073709551616).toNat
theorem u64_lt (z : Int) : u64 z < 18446744073709551616 := by unfold u64; omega
theorem u64_cast (z : Int) : (u64 z : Int) = z % 18446744073709551616 := by unfold u64; omega
/-- A worker is among bits. -/
def hasBit (z w : Int) : Bool := decide (0 ≤ w ∧ w < 64) && (u64 z).testBit w.toNat
theorem testBit_shift (z : Int) (w : Nat) (hw : w < 64) : (u64 z).testBit w = decide (z / (2 ^ w : Nat) % 2 = 1) := by
  rw [Nat.testBit_eq_decide_div_mod_eq]
  have hp : 0 < 2 ^ w := Nat.pow_pos (by omega)
  have e : ((u64 z / 2 ^ w % 2 : Nat) : Int) = z / (2 ^ w : Nat) % 2 := by
    rw [Int.natCast_emod, Int.natCast_ediv, u64_cast]
    obtain ⟨d, hd⟩ : ∃ d, (18446744073709551616 : Int) = (2 ^ w : Nat) * (2 * (2 ^ d : Nat)) := by
      refine ⟨63 - w, ?_⟩
      have : (18446744073709551616 : Nat) = 2 ^ w * (2 * 2 ^ (63 - w)) := by
        rw [← Nat.pow_succ', ← Nat.pow_add, show w + (63 - w).succ = 64 by omega]
      have h2 := congrArg (fun n : Nat => (n : Int)) this
      simp only [Int.natCast_mul] at h2
      exact h2
    have hz : z % 18446744073709551616 = z + (2 ^ w : Nat) * (2 * (2 ^ d : Nat) * -(z / 18446744073709551616)) := by
      rw [← Int.mul_assoc, ← hd]
      omega
    rw [hz, Int.add_mul_ediv_left _ _ (by omega), Int.mul_assoc, show ((2 : Nat) : Int) = 2 from rfl, Int.add_mul_emod_self_left]
  by_cases h : u64 z / 2 ^ w % 2 = 1
  · rw [decide_eq_true h, decide_eq_true (by omega)]
  · rw [decide_eq_false h, decide_eq_false (by omega)]
end Go.Proofs.YtkilghhknimolaaDoor
