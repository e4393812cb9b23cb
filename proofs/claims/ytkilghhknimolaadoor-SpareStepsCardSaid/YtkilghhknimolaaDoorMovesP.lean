/-
  WHAT IS PROVED HERE: plain facts of a number made up of given bits; what the law pelotonlaw12.IdleMoves keeps in memory ('MvW'). Conditions: none beyond what each theorem names.
-/
import Derived.Test.YtkilghhknimolaaDoorAwakeI
import Derived.Test.YtkilghhknimolaaDoorFirstP
namespace Go.Proofs.YtkilghhknimolaaDoor
open Go.RowKit

def bitsNat : List Bool → Nat
  | [] => 0
  | b :: l => b.toNat + 2 * bitsNat l
theorem bitsNat_testBit : ∀ (l : List Bool) (j : Nat), (bitsNat l).testBit j = l.getD j false := by
  intro l
  induction l with
  | nil => intro j; simp [bitsNat]
  | cons b l ih =>
    intro j
    cases j with
    | zero => rw [Nat.testBit_zero]; cases b <;> simp [bitsNat]
    | succ j =>
      rw [Nat.testBit_succ]
      have : bitsNat (b :: l) / 2 = bitsNat l := by cases b <;> simp [bitsNat] <;> omega
      rw [this, ih]
      simp
theorem bitsNat_lt : ∀ l : List Bool, bitsNat l < 2 ^ l.length := by
  intro l
  induction l with
  | nil => simp [bitsNat]
  | cons b l ih =>
    rw [List.length_cons, Nat.pow_succ]
    cases b <;> simp [bitsNat] <;> omega
theorem bitsNat_on : ∀ (l : List Bool) (j : Nat), l[j]? = some false → bitsNat (l.set j true) = bitsNat l + 2 ^ j := by
  intro l
  induction l with
  | nil => intro j h; simp at h
  | cons b l ih =>
    intro j h
    cases j with
    | zero => simp at h; subst h; simp [bitsNat]; omega
    | succ j =>
      have := ih j (by simpa using h)
      rw [List.set_cons_succ, Nat.pow_succ]
      simp only [bitsNat]
      omega
theorem bitsNat_off : ∀ (l : List Bool) (j : Nat), l[j]? = some true → bitsNat (l.set j false) + 2 ^ j = bitsNat l := by
  intro l
  induction l with
  | nil => intro j h; simp at h
  | cons b l ih =>
    intro j h
    cases j with
    | zero => simp at h; subst h; simp [bitsNat]; omega
    | succ j =>
      have := ih j (by simpa using h)
      rw [List.set_cons_succ, Nat.pow_succ]
      simp only [bitsNat]
      omega
theorem bitsNat_u64 {l : List Bool} (h : l.length = 17) : u64 (bitsNat l : Int) = bitsNat l := by
  have := bitsNat_lt l
  rw [h] at this
  exact u64_nat (by omega)
theorem memTo_past {l : List Bool} (h : l.length = 17) : ∀ d, memTo (bitsNat l) (17 + d) = memTo (bitsNat l) 17 := by
  intro d
  induction d with
  | zero => rfl
  | succ d ih =>
    rw [← Nat.add_assoc, memTo_succ, ih, bitsNat_testBit]
    have : l.getD (17 + d) false = false := by
      rw [List.getD_eq_getElem?_getD, List.getElem?_eq_none (by omega)]; rfl
    rw [this]; simp
theorem members_bits {l : List Bool} (h : l.length = 17) : membersOf (bitsNat l : Int) = memTo (bitsNat l) 17 := by
  have h2 : membersOf (bitsNat l : Int) = memTo (u64 (bitsNat l : Int)) 64 := rfl
  rw [h2, bitsNat_u64 h]
  exact memTo_past h 47
theorem pow_le16 {k : Nat} (hk : k ≤ 16) : 2 ^ k ≤ 65536 := Nat.pow_le_pow_right (by omega) hk
theorem enter_val {v k : Nat} (hv : v < 131072) (hk : k ≤ 16) : wrap64 ((v : Int) + IntKind.i64.wrap (1 * 2 ^ k)) = ((v + 2 ^ k : Nat) : Int) := by
  have e : ((1 : Int) * 2 ^ k) = ((2 ^ k : Nat) : Int) := by simp
  have := pow_le16 hk
  rw [e]
  generalize 2 ^ k = P at *
  rw [IntKind.wrap_i64]
  unfold wrap64
  omega
theorem leave_val {v k : Nat} (hv : v < 131072) (hk : k ≤ 16) : wrap64 (((v + 2 ^ k : Nat) : Int) + IntKind.i64.wrap (-1 * 2 ^ k)) = (v : Int) := by
  have e : ((-1 : Int) * 2 ^ k) = -((2 ^ k : Nat) : Int) := by simp
  have := pow_le16 hk
  rw [e]
  generalize 2 ^ k = P at *
  rw [IntKind.wrap_i64]
  unfold wrap64
  omega
/-- A machine of 16 workers with two sets; the second one is 32. -/
structure Mv (st : MS) (v : Int) : Prop where
  cell : st.cellOf 0 = v
  other : st.cellOf 1 = 32
  g0 : st.isGiven 0 = true
  g1 : st.isGiven 1 = true
  len : st.steps.length = 17
theorem Mv.go {st : MS} {v : Int} (h : Mv st v) (i x : Int) : Mv ((st.did i).putAt 0 x) x := by
  have hg := MS.isGiven_lt h.g0
  have hg1 := MS.isGiven_lt h.g1
  refine ⟨?_, ?_, ?_, ?_, ?_⟩
  · unfold MS.cellOf MS.putAt MS.did
    rw [if_pos (by simpa using hg)]
    show ((st.cells.set 0 x)[0]?).getD 0 = x
    rw [List.getElem?_set_self (by omega)]
    rfl
  · have := h.other
    unfold MS.cellOf at this ⊢
    unfold MS.putAt MS.did
    rw [if_pos hg1] at this
    rw [if_pos (by simpa using hg1)]
    show ((st.cells.set 0 x)[1]?).getD 0 = 32
    rw [List.getElem?_set_ne (by omega)]
    exact this
  · have := h.g0; simpa [MS.isGiven, MS.putAt, MS.did] using this
  · have := h.g1; simpa [MS.isGiven, MS.putAt, MS.did] using this
  · have := h.len; simpa [MS.putAt, MS.did] using this
theorem Mv.did {st : MS} {v : Int} (h : Mv st v) (i : Int) : Mv (st.did i) v :=
  ⟨h.cell, h.other, h.g0, h.g1, by have := h.len; simpa [MS.did] using this⟩
theorem Mv.caller {st : MS} {v : Int} (h : Mv st v) {k : Nat} (hk : k ≤ 16) : st.isCaller k = true := by
  unfold MS.isCaller; rw [h.len]; simp; omega
theorem Mv.steps {st : MS} {v : Int} (h : Mv st v) {k : Nat} (hk : k ≤ 16) (x : Int) : ((st.did k).putAt 0 x).stepsOf k = wrap64 (st.stepsOf k + 1) := by
  unfold MS.stepsOf
  rw [if_pos (by simp [MS.putAt, MS.did, h.len]; omega), if_pos (by rw [h.len]; omega)]
  show ((st.steps.set (k : Int).toNat (wrap64 (st.steps[(k : Int).toNat]?.getD 0 + 1)))[(k : Int).toNat]?).getD 0 = _
  rw [List.getElem?_set_self (by rw [h.len]; omega)]
  rfl
/-- What the law keeps. -/
structure MvW (W w : World) (mb : MB) (bs bt bi : Nat) (st : MS) (l : List Bool) : Prop where
  m : MachP w mb st
  s : Blk w bs 71 [.int .i64 0]
  t : Blk w bt 71 [.int .i64 1]
  i : Blk w bi 75 (bvs l)
  ns : ¬ mb.has bs
  nt : ¬ mb.has bt
  ni : ¬ mb.has bi
  mw : ∀ q, mb.has q → W.heap.size ≤ q
  iw : W.heap.size ≤ bi
  bel : Below W.heap.size W w
  len : l.length = 17
  mv : Mv st (bitsNat l)
theorem MvW.same {W w w' : World} {mb : MB} {bs bt bi : Nat} {st st' : MS} {l : List Bool} (h : MvW W w mb bs bt bi st l) (hk : Kept mb.has w w') (hm : MachP w' mb st') (hv : Mv st' (bitsNat l)) : MvW W w' mb bs bt bi st' l :=
  ⟨hm, h.s.kept hk h.ns, h.t.kept hk h.nt, h.i.kept hk h.ni, h.ns, h.nt, h.ni, h.mw, h.iw, h.bel.trans (hk.below h.bel.size h.mw), h.len, hv⟩
theorem MvW.below {W w w' : World} {mb : MB} {bs bt bi : Nat} {st : MS} {l : List Bool} (h : MvW W w mb bs bt bi st l) (hb : Below w.heap.size w w') : MvW W w' mb bs bt bi st l :=
  h.same (Kept.of_below hb) (h.m.kept (Kept.of_below (S := fun _ => False) hb) (fun _ _ => id)) h.mv
/-- Worker k goes in, or out. -/
theorem MvW.turn {W w w' : World} {mb : MB} {bs bt bi k : Nat} {st st' : MS} {l : List Bool} {b : Bool} (h : MvW W w mb bs bt bi st l) (hts : bs ≠ bi) (htt : bt ≠ bi) (hk : Kept mb.has w w') (hm : MachP w' mb st') (hv : Mv st' (bitsNat (l.set k b))) :
    MvW W (w'.setCell ⟨bi, k, none⟩ (.bool b)) mb bs bt bi st' (l.set k b) := by
  have hset : Kept (fun q => q = bi) w' (w'.setCell ⟨bi, k, none⟩ (.bool b)) := (Kept.refl (fun q => q = bi) w').setCell (p := ⟨bi, k, none⟩) (.inl rfl) _
  have hb : Below W.heap.size W w' := h.bel.trans (hk.below h.bel.size h.mw)
  refine ⟨hm.kept hset (fun q hq e => h.ni (e ▸ hq)), (h.s.kept hk h.ns).kept hset hts, (h.t.kept hk h.nt).kept hset htt, ?_, h.ns, h.nt, h.ni, h.mw, h.iw, hb.trans (hset.below hb.size (fun q e => by rw [e]; exact h.iw)), by rw [List.length_set]; exact h.len, hv⟩
  have := (h.i.kept hk h.ni).set k (.bool b)
  have e : (bvs l).set k (.bool b) = bvs (l.set k b) := by simp [bvs, List.map_set]
  rwa [e] at this
end Go.Proofs.YtkilghhknimolaaDoor
