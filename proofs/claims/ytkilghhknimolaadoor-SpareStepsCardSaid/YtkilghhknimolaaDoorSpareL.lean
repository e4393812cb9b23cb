/-
  WHAT IS PROVED HERE: plain facts of spares' bits as a list of sixteen: count, pick, flip, who is there. Conditions: none beyond what each theorem names.
-/
import Derived.Test.YtkilghhknimolaaDoorSpareK
import Derived.Test.YtkilghhknimolaaDoorMovesP
namespace Go.Proofs.YtkilghhknimolaaDoor
open Go.RowKit

theorem bitsNat_lt16 {L : List Bool} (h : L.length = 16) : bitsNat L < 65536 := by
  have := bitsNat_lt L
  rw [h] at this
  exact this
theorem u64_bits16 {L : List Bool} (h : L.length = 16) : u64 (bitsNat L : Int) = bitsNat L := u64_nat (by have := bitsNat_lt16 h; omega)
theorem range_getD : ∀ (L : List Bool) (d : Nat), ((List.range (L.length + d)).filter fun j => L.getD j false).length = L.count true := by
  intro L
  induction L with
  | nil => intro d; simp
  | cons b L ih =>
    intro d
    rw [List.length_cons, Nat.add_right_comm, List.range_succ_eq_map, List.filter_cons, List.count_cons, List.filter_map, ← ih d]
    cases b <;> simp [Function.comp_def]
theorem cnt_bits {L : List Bool} (h : L.length = 16) : cnt (bitsNat L : Int) = (L.count true : Nat) := by
  unfold cnt membersOf
  rw [List.length_map, u64_bits16 h]
  unfold bitsOf
  have e : (fun j => (bitsNat L).testBit j) = fun j => L.getD j false := funext (bitsNat_testBit L)
  have := range_getD L 48
  rw [h] at this
  rw [show (bitsNat L).testBit = fun j => L.getD j false from e]
  exact congrArg _ this
theorem u64_baseV {b : Nat} (hb : b ≤ 16) (j : Nat) : (u64 (baseV b)).testBit j = decide (j < b) := by
  have hp : 2 ^ b ≤ 65536 := Nat.pow_le_pow_right (by omega) hb
  have hp1 : 0 < 2 ^ b := Nat.pow_pos (by omega)
  have e : baseV b = ((2 ^ b - 1 : Nat) : Int) := by unfold baseV; omega
  rw [e, u64_nat (by omega), Nat.testBit_two_pow_sub_one]
theorem pick_bits {L : List Bool} (h : L.length = 16) {b k : Nat} (hb : b ≤ k) (hk : k < 16) (h1 : ∀ j, b ≤ j → j < k → L.getD j false = true) (h2 : L.getD k false = false) : pickV (bitsNat L : Int) b = k := by
  unfold pickV
  refine firstOf_hit (by omega) (by omega) (fun i hi => ?_) ?_
  · rw [u64_or, Nat.testBit_or, u64_bits16 h, bitsNat_testBit, u64_baseV (by omega)]
    by_cases hi2 : i < b
    · simp [hi2]
    · rw [h1 i (by omega) hi]; rfl
  · rw [u64_or, Nat.testBit_or, u64_bits16 h, bitsNat_testBit, u64_baseV (by omega), h2]
    simp; omega
theorem bits_eq_nat {x n : Nat} {z : Int} (hz : z = IntKind.i64.wrap (x : Nat)) (hx : x = n) (hn : n < 65536) : z = n := by
  rw [hz, hx, IntKind.wrap_i64]; omega
theorem flip_bits {L : List Bool} (h : L.length = 16) {k : Nat} (hk : k < 16) (v : Bool) (hv : L.getD k false = !v) : flipV (bitsNat L : Int) k = (bitsNat (L.set k v) : Nat) := by
  have hl : (L.set k v).length = 16 := by rw [List.length_set, h]
  have hp : 2 ^ k ≤ 32768 := Nat.pow_le_pow_right (n := 2) (i := k) (j := 15) (by omega) (by omega)
  unfold flipV
  refine bits_eq_nat (x := (BitVec.ofInt 64 (bitsNat L : Int) ^^^ BitVec.ofInt 64 (IntKind.i64.wrap (2 ^ k))).toNat) rfl ?_ (bitsNat_lt16 hl)
  have e2 : ((2 : Int) ^ k) = ((2 ^ k : Nat) : Int) := by simp
  rw [BitVec.toNat_xor, ofInt_u64, ofInt_u64, u64_wrap, e2, u64_bits16 h, u64_nat (x := 2 ^ k) (by omega)]
  refine Nat.eq_of_testBit_eq fun j => ?_
  rw [Nat.testBit_xor, bitsNat_testBit, bitsNat_testBit, Nat.testBit_two_pow]
  by_cases e : k = j
  · subst e
    rw [hv]
    simp [List.getD_eq_getElem?_getD, List.getElem?_set_self (show k < L.length by omega)]
  · simp [List.getD_eq_getElem?_getD, List.getElem?_set_ne e, e]
/-- All that are there: the base, and those that step in. -/
def fullL (b : Nat) (L : List Bool) : List Bool := List.replicate b true ++ L.drop b
theorem length_fullL {b : Nat} {L : List Bool} (h : L.length = 16) (hb : b ≤ 16) : (fullL b L).length = 16 := by
  unfold fullL; rw [List.length_append, List.length_replicate, List.length_drop]; omega
theorem fullL_getD {b : Nat} {L : List Bool} (j : Nat) : (fullL b L).getD j false = (decide (j < b) || L.getD j false) := by
  unfold fullL
  by_cases h : j < b
  · rw [List.getD_eq_getElem?_getD, List.getElem?_append_left (by rw [List.length_replicate]; exact h), List.getElem?_replicate, if_pos h]; simp [h]
  · rw [List.getD_eq_getElem?_getD, List.getElem?_append_right (by rw [List.length_replicate]; omega), List.length_replicate, List.getElem?_drop, show b + (j - b) = j by omega, List.getD_eq_getElem?_getD]
    simp [h]
theorem bitsV_bits {b : Nat} {L : List Bool} (h : L.length = 16) (hb : b ≤ 16) : bitsV b (bitsNat L : Int) = (bitsNat (fullL b L) : Nat) := by
  unfold bitsV
  refine bits_eq_nat (x := (BitVec.ofInt 64 (baseV b) ||| BitVec.ofInt 64 (bitsNat L : Int)).toNat) rfl ?_ (bitsNat_lt16 (length_fullL h hb))
  rw [BitVec.toNat_or, ofInt_u64, ofInt_u64, u64_bits16 h]
  refine Nat.eq_of_testBit_eq fun j => ?_
  rw [Nat.testBit_or, bitsNat_testBit, bitsNat_testBit, u64_baseV hb, fullL_getD]
theorem hasBit_bits {L : List Bool} (h : L.length = 16) (i : Int) : hasBit (bitsNat L : Int) i = (decide (0 ≤ i ∧ i < 16) && L.getD i.toNat false) := by
  unfold hasBit
  rw [u64_bits16 h, bitsNat_testBit]
  by_cases h1 : 0 ≤ i ∧ i < 16
  · rw [decide_eq_true h1, decide_eq_true (show 0 ≤ i ∧ i < 64 by omega)]
  · rw [decide_eq_false h1]
    by_cases h2 : 0 ≤ i ∧ i < 64
    · have : L.getD i.toNat false = false := by rw [List.getD_eq_getElem?_getD, List.getElem?_eq_none (by omega)]; rfl
      rw [this]; simp
    · rw [decide_eq_false h2]
/-- A list whose true ones lie from b on, below b + m. -/
structure InL (b m : Nat) (L : List Bool) : Prop where
  len : L.length = 16
  here : ∀ j, L.getD j false = true → b ≤ j ∧ j < b + m
theorem InL.set {b m : Nat} {L : List Bool} (h : InL b m L) {k : Nat} (h1 : b ≤ k) (h2 : k < b + m) (v : Bool) : InL b m (L.set k v) where
  len := by rw [List.length_set, h.len]
  here j hj := by
    by_cases e : k = j
    · omega
    · rw [List.getD_eq_getElem?_getD, List.getElem?_set_ne e, ← List.getD_eq_getElem?_getD] at hj
      exact h.here j hj
theorem count_set (L : List Bool) (k : Nat) (v w : Bool) (hv : L[k]? = some w) : (L.set k v).count true + w.toNat = L.count true + v.toNat := by
  induction L generalizing k with
  | nil => simp at hv
  | cons a L ih =>
    cases k with
    | zero =>
      simp only [List.getElem?_cons_zero, Option.some.injEq] at hv
      subst hv
      simp only [List.set_cons_zero, List.count_cons]
      cases a <;> cases v <;> simp
    | succ k =>
      have := ih k (by simpa using hv)
      simp only [List.set_cons_succ, List.count_cons]
      omega
theorem getD_getElem? {L : List Bool} {k : Nat} (h : k < L.length) : L[k]? = some (L.getD k false) := by
  rw [List.getD_eq_getElem?_getD, List.getElem?_eq_getElem h]; rfl
/-- Fewer than m: one is not there; the least. -/
theorem InL.room : ∀ (d : Nat) {b : Nat} {L : List Bool}, b + d ≤ 16 → L.length = 16 → (∀ j, j < b → L.getD j false = false) → L.count true < d → ∃ k, b ≤ k ∧ k < b + d ∧ (∀ j, b ≤ j → j < k → L.getD j false = true) ∧ L.getD k false = false := by
  intro d
  induction d with
  | zero => intro b L _ _ _ h; omega
  | succ d ih =>
    intro b L hb hl hz hc
    cases h : L.getD b false with
    | false => exact ⟨b, by omega, by omega, fun j _ _ => by omega, h⟩
    | true =>
      have hs := count_set L b false true (by rw [getD_getElem? (by omega), h])
      simp at hs
      obtain ⟨k, k1, k2, k3, k4⟩ := ih (b := b + 1) (L := L.set b false) (by omega) (by rw [List.length_set, hl]) (by
        intro j hj
        by_cases e : b = j
        · subst e; rw [List.getD_eq_getElem?_getD, List.getElem?_set_self (by omega)]; rfl
        · rw [List.getD_eq_getElem?_getD, List.getElem?_set_ne e, ← List.getD_eq_getElem?_getD]; exact hz j (by omega)) (by omega)
      refine ⟨k, by omega, by omega, fun j h1 h2 => ?_, ?_⟩
      · by_cases e : b = j
        · subst e; exact h
        · have := k3 j (by omega) h2
          rw [List.getD_eq_getElem?_getD, List.getElem?_set_ne e, ← List.getD_eq_getElem?_getD] at this; exact this
      · rw [List.getD_eq_getElem?_getD, List.getElem?_set_ne (by omega), ← List.getD_eq_getElem?_getD] at k4; exact k4
theorem InL.pick {b m : Nat} {L : List Bool} (h : InL b m L) (hm : b + m ≤ 16) (hc : L.count true < m) : ∃ k, b ≤ k ∧ k < b + m ∧ (∀ j, b ≤ j → j < k → L.getD j false = true) ∧ L.getD k false = false ∧ pickV (bitsNat L : Int) b = k := by
  obtain ⟨k, k1, k2, k3, k4⟩ := InL.room m (b := b) (L := L) hm h.len (fun j hj => by
    cases e : L.getD j false with
    | false => rfl
    | true => have := h.here j e; omega) hc
  exact ⟨k, k1, k2, k3, k4, pick_bits h.len k1 (by omega) k3 k4⟩
theorem count_fullL {b m : Nat} {L : List Bool} (h : InL b m L) (hb : b ≤ 16) : (fullL b L).count true = b + L.count true := by
  have e : L.take b = List.replicate b false := by
    refine List.ext_getElem (by simp [h.len]; omega) fun i h1 h2 => ?_
    rw [List.getElem_take, List.getElem_replicate]
    simp at h1
    cases hc : L[i] with
    | false => rfl
    | true =>
      have := h.here i (by rw [List.getD_eq_getElem?_getD, List.getElem?_eq_getElem (by omega), hc]; rfl)
      omega
  have : L.count true = (L.drop b).count true := by
    conv => lhs; rw [← List.take_append_drop b L]
    rw [List.count_append, e, List.count_replicate]; simp
  unfold fullL
  rw [List.count_append, List.count_replicate, this]; simp
theorem bitsNat_inj {L L' : List Bool} (h : L.length = 16) (h' : L'.length = 16) (e : (bitsNat L : Int) = bitsNat L') : L = L' := by
  have e' : bitsNat L = bitsNat L' := by omega
  refine List.ext_getElem (by omega) fun i h1 h2 => ?_
  have := congrArg (fun x => x.testBit i) e'
  simp only [bitsNat_testBit, List.getD_eq_getElem?_getD, List.getElem?_eq_getElem h1, List.getElem?_eq_getElem h2, Option.getD_some] at this
  exact this
theorem count_le {b m : Nat} {L : List Bool} (h : InL b m L) : L.count true ≤ m := by
  by_cases hc : L.count true ≤ m
  · exact hc
  · exfalso
    have e := range_getD L 0
    rw [Nat.add_zero, h.len] at e
    have hsub : ((List.range 16).filter fun j => L.getD j false).length ≤ ((List.range m).map fun i => b + i).length := by
      refine List.Nodup.length_le_of_subset ?_ ?_
      · exact List.nodup_range.filter _
      · intro j hj
        rw [List.mem_filter] at hj
        have := h.here j hj.2
        rw [List.mem_map]
        exact ⟨j - b, by rw [List.mem_range]; omega, by omega⟩
    rw [List.length_map, List.length_range] at hsub
    omega
end Go.Proofs.YtkilghhknimolaaDoor
