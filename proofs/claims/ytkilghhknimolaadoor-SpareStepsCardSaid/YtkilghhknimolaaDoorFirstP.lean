/-
  WHAT IS PROVED HERE: plain facts of First: where it lies, what is below it; that bits from n on do not matter; that the powers at a number's bits make up the number. Conditions: none beyond what each theorem names.
-/
import Derived.Test.YtkilghhknimolaaDoorRefF
namespace Go.Proofs.YtkilghhknimolaaDoor
open Go.RowKit

theorem hasBit_nat (z : Int) {k : Nat} (hk : k < 64) : hasBit z k = (u64 z).testBit k := by
  unfold hasBit; rw [decide_eq_true (by omega), Int.toNat_natCast]; rfl
theorem firstOf_cases (z n : Int) : (∃ k : Nat, firstOf z n = k ∧ k < 64 ∧ (k : Int) < n ∧ (∀ i, i < k → (u64 z).testBit i = true) ∧ (u64 z).testBit k = false) ∨ (firstOf z n = -1 ∧ ∀ i : Nat, i < 64 → (i : Int) < n → (u64 z).testBit i = true) := by
  obtain ⟨a, b, c⟩ := comp_low (u64_lt z)
  unfold firstOf
  generalize Lib.ctz 64 (18446744073709551615 - u64 z) = t at *
  by_cases h : min n 64 ≤ (t : Int)
  · rw [if_pos h]
    exact .inr ⟨rfl, fun i h1 h2 => a i (by omega)⟩
  · rw [if_neg h]
    exact .inl ⟨t, rfl, by omega, by omega, a, b (by omega)⟩
theorem firstOf_congr {z y n : Int} (h : ∀ i : Nat, i < 64 → (i : Int) < n → (u64 z).testBit i = (u64 y).testBit i) : firstOf y n = firstOf z n := by
  rcases firstOf_cases z n with ⟨k, e, h1, h2, h3, h4⟩ | ⟨e, h1⟩
  · rw [e]
    exact firstOf_hit h1 h2 (fun i hi => by rw [← h i (by omega) (by omega)]; exact h3 i hi) (by rw [← h k h1 h2]; exact h4)
  · rw [e]
    by_cases hn : n ≤ 0
    · exact firstOf_none (k := 0) (by omega) (.inr (by omega)) (fun i hi => by omega)
    · obtain ⟨k, hk⟩ : ∃ k : Nat, (k : Int) = min n 64 := ⟨(min n 64).toNat, by omega⟩
      exact firstOf_none (k := k) (by omega) (by omega) (fun i hi => by rw [← h i (by omega) (by omega)]; exact h1 i (by omega) (by omega))
theorem ofInt_u64 (z : Int) : (BitVec.ofInt 64 z).toNat = u64 z := by
  rw [BitVec.toNat_ofInt]; rfl
theorem u64_wrap (z : Int) : u64 (IntKind.i64.wrap z) = u64 z := by
  unfold u64; rw [IntKind.wrap_i64]; omega
theorem u64_nat {x : Nat} (hx : x < 18446744073709551616) : u64 (x : Int) = x := by unfold u64; omega
theorem u64_or (a b : Int) : u64 (bits .or .i64 a b) = u64 a ||| u64 b := by
  have e : bits .or .i64 a b = IntKind.i64.wrap ((BitVec.ofInt 64 a ||| BitVec.ofInt 64 b).toNat : Nat) := rfl
  have hl : u64 a ||| u64 b < 2 ^ 64 := Nat.or_lt_two_pow (u64_lt a) (u64_lt b)
  rw [e, u64_wrap, BitVec.toNat_or, ofInt_u64, ofInt_u64, u64_nat (by omega)]
/-- The bits of 'more' from n on, laid beside z's: those below n are z's. -/
theorem or_high {z more : Int} {n i : Nat} (hi : i < n) : (u64 (bits .or .i64 z (IntKind.i64.wrap (IntKind.u64.wrap ((u64 more : Int) / 2 ^ n * 2 ^ n))))).testBit i = (u64 z).testBit i := by
  have e : ((u64 more : Int) / 2 ^ n * 2 ^ n) = ((u64 more / 2 ^ n * 2 ^ n : Nat) : Int) := by simp
  have hl : u64 more / 2 ^ n * 2 ^ n < 18446744073709551616 := Nat.lt_of_le_of_lt (Nat.div_mul_le_self _ _) (u64_lt more)
  rw [u64_or, u64_wrap, e, IntKind.wrap_u64, show ((u64 more / 2 ^ n * 2 ^ n : Nat) : Int) % 18446744073709551616 = ((u64 more / 2 ^ n * 2 ^ n : Nat) : Int) by omega, u64_nat hl, Nat.testBit_or, Nat.testBit_mul_two_pow]
  have : ¬ n ≤ i := by omega
  simp [this]
theorem wrap_i64' (y : Int) : wrap64 y = IntKind.i64.wrap y := by
  rw [IntKind.wrap_i64]; unfold wrap64; omega
theorem or_high' {z more : Int} {n i : Nat} (hi : i < n) : (u64 (bits .or .i64 z (wrap64 (IntKind.u64.wrap ((u64 more : Int) / 2 ^ n * 2 ^ n))))).testBit i = (u64 z).testBit i := by
  rw [wrap_i64']; exact or_high hi
/-- The powers at the bits below k. -/
def powSum (l : List Int) : Nat := (l.map fun i => 2 ^ i.toNat).sum
theorem powSum_append (l m : List Int) : powSum (l ++ m) = powSum l + powSum m := by simp [powSum]
theorem powSum_memTo (x : Nat) : ∀ k, powSum (memTo x k) = x % 2 ^ k := by
  intro k
  induction k with
  | zero => simp [memTo, powSum, Nat.mod_one]
  | succ k ih =>
    rw [memTo_succ, powSum_append, ih, Nat.pow_succ, Nat.mod_mul]
    have hb := Nat.testBit_eq_decide_div_mod_eq (x := x) (i := k)
    cases h : x.testBit k with
    | true =>
      rw [h] at hb
      have h1 : x / 2 ^ k % 2 = 1 := of_decide_eq_true hb.symm
      rw [h1]; simp [powSum]
    | false =>
      rw [h] at hb
      have h1 : ¬ x / 2 ^ k % 2 = 1 := of_decide_eq_false hb.symm
      have h2 : x / 2 ^ k % 2 = 0 := by omega
      rw [h2]; simp [powSum]
theorem powSum_members (z : Int) : powSum (membersOf z) = u64 z := by
  have h := powSum_memTo (u64 z) 64
  rw [Nat.mod_eq_of_lt (u64_lt z)] at h
  exact h
end Go.Proofs.YtkilghhknimolaaDoor
