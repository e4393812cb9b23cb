/-
  WHAT IS PROVED HERE: plain facts of the lowest bit that is not set; the contracts of the reference's Has and First (pelotonref12). Conditions: none.
-/
import Derived.Test.YtkilghhknimolaaDoorRefM
namespace Go.Proofs.YtkilghhknimolaaDoor
open Go.RowKit

/-- The lowest place below 64 whose bit is not set (64: all are). -/
theorem comp_low {x : Nat} (hx : x < 18446744073709551616) : (∀ i, i < Lib.ctz 64 (18446744073709551615 - x) → x.testBit i = true) ∧ (Lib.ctz 64 (18446744073709551615 - x) < 64 → x.testBit (Lib.ctz 64 (18446744073709551615 - x)) = false) ∧ Lib.ctz 64 (18446744073709551615 - x) ≤ 64 := by
  have e2 : 18446744073709551615 - x = 2 ^ 64 - (x + 1) := by omega
  have hb : ∀ i, (18446744073709551615 - x).testBit i = (decide (i < 64) && !x.testBit i) := fun i => by
    rw [e2, Nat.testBit_two_pow_sub_succ (by omega)]
  by_cases h0 : 18446744073709551615 - x = 0
  · have ht : Lib.ctz 64 (18446744073709551615 - x) = 64 := by unfold Lib.ctz; rw [if_pos h0]
    rw [ht]
    refine ⟨fun i hi => ?_, fun h => by omega, Nat.le_refl _⟩
    have := hb i
    rw [h0, Nat.zero_testBit, decide_eq_true hi, Bool.true_and] at this
    cases hxi : x.testBit i with
    | true => rfl
    | false => rw [hxi] at this; cases this
  · obtain ⟨m, hm, ht⟩ := low_parts h0 (by omega)
    generalize Lib.ctz 64 (18446744073709551615 - x) = t at *
    refine ⟨fun i hi => ?_, fun _ => ?_, by omega⟩
    · have := hb i
      rw [hm, testBit_low, decide_eq_true (by omega : i < 64), Bool.true_and] at this
      have a : ¬ i = t := by omega
      have b : ¬ t < i := by omega
      cases hxi : x.testBit i with
      | true => rfl
      | false => rw [hxi] at this; simp [a, b] at this
    · have := hb t
      rw [hm, testBit_low, decide_eq_true ht, Bool.true_and] at this
      cases hxi : x.testBit t with
      | true => rw [hxi] at this; simp at this
      | false => rfl
/-- What First tells: the least place below n and 64 whose bit is not set. -/
theorem firstOf_hit {z n : Int} {k : Nat} (hk : k < 64) (hn : (k : Int) < n) (h1 : ∀ i, i < k → (u64 z).testBit i = true) (h2 : (u64 z).testBit k = false) : firstOf z n = k := by
  obtain ⟨a, b, c⟩ := comp_low (u64_lt z)
  unfold firstOf
  generalize Lib.ctz 64 (18446744073709551615 - u64 z) = t at *
  have e : t = k := by
    rcases Nat.lt_trichotomy t k with h | h | h
    · have := h1 t h
      rw [b (by omega)] at this
      cases this
    · exact h
    · have := a k h
      rw [h2] at this
      cases this
  subst e
  rw [if_neg (by omega)]
theorem firstOf_none {z n : Int} {k : Nat} (hk : k ≤ 64) (hn : 64 ≤ k ∨ n ≤ k) (h1 : ∀ i, i < k → (u64 z).testBit i = true) : firstOf z n = -1 := by
  obtain ⟨a, b, c⟩ := comp_low (u64_lt z)
  unfold firstOf
  generalize Lib.ctz 64 (18446744073709551615 - u64 z) = t at *
  have e : k ≤ t := by
    rcases Nat.lt_or_ge t k with h | h
    · have := h1 t h
      rw [b (by omega)] at this
      cases this
    · exact h
  rw [if_pos (by omega)]
theorem rhas_ok (z v : Int) (w : World) :
    Calls Tryd.prog 19 #[.int .i64 z, .int .i64 v] w fun e w' => e = .returned (.bool (hasBit z v)) ∧ Below w.heap.size w w' := by
  by_cases h0 : v < 0
  · have hv : hasBit z v = false := by unfold hasBit; rw [decide_eq_false (by omega)]; rfl
    rw [hv]
    have d1 : decide (v < 0) = true := by simp; omega
    go_enter Tryd.func19, Tryd.ntmps19
    go_wp2
    go_ret
    exact ⟨rfl, Below.refl _ w⟩
  · have d1 : decide (v < 0) = false := by simp; omega
    by_cases h1 : 63 < v
    · have hv : hasBit z v = false := by unfold hasBit; rw [decide_eq_false (by omega)]; rfl
      rw [hv]
      have d2 : decide (63 < v) = true := by simp; omega
      go_enter Tryd.func19, Tryd.ntmps19
      go_wp2
      go_ret
      exact ⟨rfl, Below.refl _ w⟩
    · have d2 : decide (63 < v) = false := by simp; omega
      obtain ⟨k, rfl⟩ : ∃ k : Nat, v = k := ⟨v.toNat, by omega⟩
      have hk : k < 64 := by omega
      have hv : hasBit z k = (u64 z).testBit k := by unfold hasBit; rw [decide_eq_true (by omega), Int.toNat_natCast]; rfl
      rw [hv]
      obtain ⟨b, hb⟩ : ∃ b, (u64 z).testBit k = b := ⟨_, rfl⟩
      rw [hb]
      have HB := Lib.hid hb
      have hki : (k : Int) < 64 := by omega
      clear h0 h1 hv hb
      go_enter Tryd.func19, Tryd.ntmps19
      go_wp2_with fail
      refine (rbits_ok z w).mono ?_
      rintro e w2 ⟨g, cap, rfl, hr, hg, hbl⟩
      have c1 : w2.cell? ⟨g, k, none⟩ = some (.bool b) := hr.cell (by rw [get_bvs, ← HB.out]; simp [bitsTo, hk])
      have hrm := hr.room
      rw [length_bvs, length_bitsTo] at hrm
      clear hr
      go_wp2_with fail
      go_ret
      exact ⟨rfl, hbl⟩
set_option maxRecDepth 20000 in
set_option maxHeartbeats 1000000 in
theorem rfirst_ok (z n : Int) (w : World) :
    Calls Tryd.prog 22 #[.int .i64 z, .int .i64 n] w fun e w' => e = .returned (.int .i64 (firstOf z n)) ∧ Below w.heap.size w w' := by
  obtain ⟨r, hr⟩ : ∃ r, firstOf z n = r := ⟨_, rfl⟩
  rw [hr]
  have HR := Lib.hid hr
  clear hr
  go_enter Tryd.func22, Tryd.ntmps22
  go_wp2_with fail
  refine (rbits_ok z w).mono ?_
  rintro e w2 ⟨g, cap, rfl, hr, hg, hbl⟩
  have hrm := hr.room
  rw [length_bvs, length_bitsTo] at hrm
  go_wp2_with fail
  go_loopw [6] (fun i wr => ∃ k : Nat, k ≤ 64 ∧ i = .int .i64 k ∧ (∀ i, i < k → (u64 z).testBit i = true) ∧ wr = w2) (fun i _ => 64 - (intOf i).toNat)
  case atStart => exact ⟨0, by omega, rfl, fun i hi => by omega, rfl⟩
  case round =>
    obtain ⟨k, hk, rfl, hall, rfl⟩ := hrel
    have HALL := Lib.hid hall
    clear hall
    by_cases hlt : k < 64
    · have d1 : decide ((k : Int) < 64) = true := by simp; omega
      by_cases hn : (k : Int) < n
      · have d2 : decide ((k : Int) < n) = true := by simp; omega
        obtain ⟨b, hb⟩ : ∃ b, (u64 z).testBit k = b := ⟨_, rfl⟩
        have c1 : wr.cell? ⟨g, k, none⟩ = some (.bool b) := hr.cell (by rw [get_bvs, ← hb]; simp [bitsTo, hlt])
        have HB := Lib.hid hb
        have hki : (k : Int) < 64 := by omega
        clear hb
        cases b with
        | true =>
          go_wp2_with fail
          go_roundw
          case rel => exact ⟨k + 1, by omega, by go_num, fun i hi => by
            by_cases e : i = k
            · rw [e]; exact HB.out
            · exact HALL.out i (by omega), by first | trivial | rfl⟩
          case measure => simp [intOf]; omega
        | false =>
          go_wp2_with fail
          go_ret
          exact ⟨ret_int (by rw [← HR.out]; exact (firstOf_hit hlt hn HALL.out HB.out).symm), hbl⟩
      · have d2 : decide ((k : Int) < n) = false := by simp; omega
        have HN := Lib.hid hn
        clear hn
        go_wp2_with fail
        go_ret
        exact ⟨ret_int (by rw [← HR.out]; exact (firstOf_none hk (.inr (by have := HN.out; omega)) HALL.out).symm), hbl⟩
    · have d1 : decide ((k : Int) < 64) = false := by simp; omega
      go_wp2_with fail
      go_ret
      exact ⟨ret_int (by rw [← HR.out]; exact (firstOf_none hk (.inl (by omega)) HALL.out).symm), hbl⟩
end Go.Proofs.YtkilghhknimolaaDoor
