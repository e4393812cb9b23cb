/-
  WHAT IS PROVED HERE: contracts of idle's Has and First. Conditions: the table math/bits.deBruijn64tab lies as its initialiser lays it; numbers are 64-bit numbers.
-/
import Derived.Test.YtkilghhknimolaaDoorIdleA
namespace Go.Proofs.YtkilghhknimolaaDoor
open Go.RowKit

theorem i64_and1 (n : Int) : bits .and .i64 n 1 = n % 2 := by
  have h1 : (BitVec.ofInt 64 1).toNat = 2 ^ 1 - 1 := by decide
  have key : (BitVec.ofInt 64 n &&& BitVec.ofInt 64 1).toNat = (n % ((2 ^ 64 : Nat) : Int)).toNat % 2 ^ 1 := by
    rw [BitVec.toNat_and, BitVec.toNat_ofInt, h1, Nat.and_two_pow_sub_one_eq_mod]
  show IntKind.i64.wrap ((BitVec.ofInt 64 n &&& BitVec.ofInt 64 1).toNat : Nat) = n % 2
  rw [key, IntKind.wrap_i64]
  omega
theorem xor_all (a : Nat) (ha : a < 18446744073709551616) : 18446744073709551615 ^^^ a = 18446744073709551615 - a := by
  have e1 : (18446744073709551615 : Nat) = 2 ^ 64 - 1 := by decide
  have e2 : 18446744073709551615 - a = 2 ^ 64 - (a + 1) := by omega
  apply Nat.eq_of_testBit_eq
  intro i
  rw [e2, e1, Nat.testBit_xor, Nat.testBit_two_pow_sub_one, Nat.testBit_two_pow_sub_succ (by omega)]
  by_cases h : i < 64
  · simp [h]
  · have : a.testBit i = false := Nat.testBit_lt_two_pow (Nat.lt_of_lt_of_le ha (by
      have : 2 ^ 64 ≤ 2 ^ i := Nat.pow_le_pow_right (by decide) (by omega)
      omega))
    simp [h, this]
theorem u64_xor (a : Nat) (ha : a < 18446744073709551616) : bits .xor .u64 18446744073709551615 (a : Int) = ((18446744073709551615 - a : Nat) : Int) := by
  have h1 : (BitVec.ofInt 64 (18446744073709551615 : Int)).toNat = 18446744073709551615 := by decide
  have h2 : (BitVec.ofInt 64 (a : Int)).toNat = a := by
    rw [BitVec.ofInt_natCast, BitVec.toNat_ofNat]; exact Nat.mod_eq_of_lt (by omega)
  show IntKind.u64.wrap ((BitVec.ofInt 64 (18446744073709551615 : Int) ^^^ BitVec.ofInt 64 (a : Int)).toNat : Int) = _
  rw [BitVec.toNat_xor, h1, h2, xor_all a ha, IntKind.wrap_u64]
  omega
theorem wrap_u64_cast (z : Int) : IntKind.u64.wrap z = (u64 z : Int) := by rw [IntKind.wrap_u64, u64_cast]
/-- The lowest worker of the first n that is not among bits. -/
def firstOf (z n : Int) : Int := if min n 64 ≤ (Lib.ctz 64 (18446744073709551615 - u64 z) : Int) then -1 else (Lib.ctz 64 (18446744073709551615 - u64 z) : Int)
theorem has_ok (z v : Int) (w : World) :
    Calls Tryd.prog 18 #[.int .i64 z, .int .i64 v] w fun e w' => e = .returned (.bool (hasBit z v)) ∧ w = w' := by
  by_cases h0 : 0 ≤ v
  · by_cases h1 : v < 64
    · obtain ⟨k, rfl⟩ : ∃ k : Nat, v = k := ⟨v.toNat, by omega⟩
      go_enter Tryd.func18, Tryd.ntmps18
      go_wp2
      go_ret
      refine ⟨ret_bool ?_, rfl⟩
      unfold hasBit
      rw [i64_and1, decide_eq_true ⟨h0, h1⟩, Bool.true_and, Int.toNat_natCast, testBit_shift z k (by omega)]
      have e : ((2 ^ k : Nat) : Int) = (2 : Int) ^ k := by simp
      rw [e]
      by_cases h : z / 2 ^ k % 2 = 1
      · rw [decide_eq_true h, h]; rfl
      · rw [decide_eq_false h]; simp [h]
    · go_enter Tryd.func18, Tryd.ntmps18
      go_wp2
      go_ret
      exact ⟨ret_bool (by unfold hasBit; rw [decide_eq_false (by omega)]; rfl), rfl⟩
  · go_enter Tryd.func18, Tryd.ntmps18
    go_wp2
    go_ret
    exact ⟨ret_bool (by unfold hasBit; rw [decide_eq_false (by omega)]; rfl), rfl⟩
theorem first_ok (z n : Int) (w : World) (hT : Tab w) :
    Calls Tryd.prog 21 #[.int .i64 z, .int .i64 n] w fun e w' => e = .returned (.int .i64 (firstOf z n)) ∧ w = w' := by
  have hs : IntKind.u64.signed = false := rfl
  have hm : IntKind.u64.max = 18446744073709551615 := rfl
  have hx := u64_xor (u64 z) (u64_lt z)
  have htz := tz_ok (18446744073709551615 - u64 z) (by omega) w hT
  unfold firstOf
  obtain ⟨t, ht⟩ : ∃ t, Lib.ctz 64 (18446744073709551615 - u64 z) = t := ⟨_, rfl⟩
  rw [ht] at htz ⊢
  obtain ⟨r, hr⟩ : ∃ r, (if min n 64 ≤ (t : Int) then -1 else (t : Int)) = r := ⟨_, rfl⟩
  rw [hr]
  have HR := Lib.hid hr
  have HTZ := Lib.hid htz
  have HX := Lib.hid hx
  clear htz hx ht hT hr
  go_enter Tryd.func21, Tryd.ntmps21
  go_wp2_with fail
  rw [wrap_u64_cast, HX.out]
  refine HTZ.out.mono ?_
  rintro e w' ⟨rfl, rfl⟩
  by_cases h64 : n ≤ 64
  · go_wp2
    all_goals
      go_ret
      exact ⟨ret_int (by rw [← HR.out]; first | rw [if_pos (by omega)] | rw [if_neg (by omega)]), rfl⟩
  · go_wp2
    all_goals
      go_ret
      exact ⟨ret_int (by rw [← HR.out]; first | rw [if_pos (by omega)] | rw [if_neg (by omega)]), rfl⟩
end Go.Proofs.YtkilghhknimolaaDoor
