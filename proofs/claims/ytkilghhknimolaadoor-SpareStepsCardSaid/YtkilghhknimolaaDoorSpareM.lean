/-
  WHAT IS PROVED HERE: what a run of an operation that nobody comes between does; what the laws SpareRests and SpareAlone keep in memory ('RsO'), and its calls in these words. Conditions: as in the contracts.
-/
import Derived.Test.YtkilghhknimolaaDoorSpareL
namespace Go.Proofs.YtkilghhknimolaaDoor
open Go.RowKit

/-- A number that is far from 64 bits. -/
def Small (x : Int) : Prop := -1000 ≤ x ∧ x ≤ 1000
theorem wrap_small {x : Int} (h : Small x) : wrap64 x = x := by unfold Small at h; unfold wrap64; omega
section
variable {b : Nat} {m : Int}
theorem runs1 {s s1 : PS} (h0 : OkP s) (e1 : stepP b m s = s1) (z : s1.q.ph = 0) : itP b m 1 s = s1 ∧ Runs b m s 1 :=
  ⟨e1, by omega, by omega, (fun k hk => by
    obtain rfl : k = 0 := by omega
    exact h0), (by simp only [itP]; rw [e1]; exact z)⟩
theorem runs2 {s s1 s2 : PS} (h0 : OkP s) (e1 : stepP b m s = s1) (h1 : OkP s1) (e2 : stepP b m s1 = s2) (z : s2.q.ph = 0) : itP b m 2 s = s2 ∧ Runs b m s 2 := by
  refine ⟨by simp only [itP]; rw [e1, e2], by omega, by omega, fun k hk => ?_, by simp only [itP]; rw [e1, e2]; exact z⟩
  have : k = 0 ∨ k = 1 := by omega
  rcases this with rfl | rfl
  · exact h0
  · simp only [itP]; rw [e1]; exact h1
theorem runs3 {s s1 s2 s3 : PS} (h0 : OkP s) (e1 : stepP b m s = s1) (h1 : OkP s1) (e2 : stepP b m s1 = s2) (h2 : OkP s2) (e3 : stepP b m s2 = s3) (z : s3.q.ph = 0) : itP b m 3 s = s3 ∧ Runs b m s 3 := by
  refine ⟨by simp only [itP]; rw [e1, e2, e3], by omega, by omega, fun k hk => ?_, by simp only [itP]; rw [e1, e2, e3]; exact z⟩
  have : k = 0 ∨ k = 1 ∨ k = 2 := by omega
  rcases this with rfl | rfl | rfl
  · exact h0
  · simp only [itP]; rw [e1]; exact h1
  · simp only [itP]; rw [e1, e2]; exact h2
end
section
variable {b m : Nat} {L : List Bool} {wt : Int}
theorem block_yes (h : InL b m L) (hm : b + m ≤ 16) (hw : Small (wt + 1)) (hc : L.count true < m) (hd : (L.count true : Int) < wt + 1) :
    ∃ k, b ≤ k ∧ k < b + m ∧ (∀ j, b ≤ j → j < k → L.getD j false = true) ∧ L.getD k false = false ∧
      itP b m 3 ⟨wt, bitsNat L, begQ 0 0⟩ = ⟨wt + 1, (bitsNat (L.set k true) : Nat), ⟨k, wt + 1, bitsNat L, k, 0⟩⟩ ∧ Runs b m ⟨wt, bitsNat L, begQ 0 0⟩ 3 := by
  obtain ⟨k, k1, k2, k3, k4, k5⟩ := h.pick hm hc
  refine ⟨k, k1, k2, k3, k4, runs3 (s1 := ⟨wt + 1, bitsNat L, ⟨0, wt + 1, 0, -1, 4⟩⟩) (s2 := ⟨wt + 1, bitsNat L, ⟨k, wt + 1, bitsNat L, -1, 6⟩⟩) ?_ ?_ ?_ ?_ ?_ ?_ rfl⟩
  · exact ⟨by simp [begQ], by simp [begQ], fun e => by simp [begQ] at e⟩
  · simp only [stepP, begQ]; rw [wrap_small hw]
  · exact ⟨by simp, by simp, fun e => by simp at e⟩
  · simp only [stepP]
    rw [if_pos ⟨by rw [cnt_bits h.len]; omega, by rw [cnt_bits h.len]; exact hd⟩, k5]
  · exact ⟨by simp, by simp, fun _ => ⟨by simp, by simp; omega⟩⟩
  · simp only [stepP]
    rw [if_pos trivial, Int.toNat_natCast, flip_bits h.len (by omega) true (by simpa using k4)]
theorem block_no (h : InL b m L) (hw : Small (wt + 1)) (hc : ¬ (L.count true < m ∧ (L.count true : Int) < wt + 1)) :
    itP b m 2 ⟨wt, bitsNat L, begQ 0 0⟩ = ⟨wt + 1, bitsNat L, ⟨0, wt + 1, bitsNat L, -1, 0⟩⟩ ∧ Runs b m ⟨wt, bitsNat L, begQ 0 0⟩ 2 := by
  refine runs2 (s1 := ⟨wt + 1, bitsNat L, ⟨0, wt + 1, 0, -1, 4⟩⟩) ?_ ?_ ?_ ?_ rfl
  · exact ⟨by simp [begQ], by simp [begQ], fun e => by simp [begQ] at e⟩
  · simp only [stepP, begQ]; rw [wrap_small hw]
  · exact ⟨by simp, by simp, fun e => by simp at e⟩
  · simp only [stepP]
    rw [if_neg]
    rw [cnt_bits h.len]
    omega
theorem resume_run (hw : Small (wt - 1)) :
    itP b m 1 ⟨wt, bitsNat L, begQ 1 0⟩ = ⟨wt - 1, bitsNat L, ⟨0, 0, 0, -1, 0⟩⟩ ∧ Runs b m ⟨wt, bitsNat L, begQ 1 0⟩ 1 := by
  refine runs1 ?_ ?_ rfl
  · exact ⟨by simp [begQ], by simp [begQ], fun e => by simp [begQ] at e⟩
  · simp only [stepP, begQ]; rw [show wt + -1 = wt - 1 by omega, wrap_small hw]
theorem retire_yes (h : InL b m L) (hm : b + m ≤ 16) (k : Nat) (hk : L.getD k false = true) (hd : wt < (L.count true : Int)) :
    b ≤ k ∧ k < b + m ∧ itP b m 3 ⟨wt, bitsNat L, begQ 2 k⟩ = ⟨wt, (bitsNat (L.set k false) : Nat), ⟨k, wt, bitsNat L, k, 0⟩⟩ ∧ Runs b m ⟨wt, bitsNat L, begQ 2 k⟩ 3 := by
  obtain ⟨k1, k2⟩ := h.here k hk
  refine ⟨k1, k2, runs3 (s1 := ⟨wt, bitsNat L, ⟨k, wt, 0, -1, 5⟩⟩) (s2 := ⟨wt, bitsNat L, ⟨k, wt, bitsNat L, -1, 6⟩⟩) ?_ ?_ ?_ ?_ ?_ ?_ rfl⟩
  · exact ⟨by simp [begQ], by simp [begQ], fun e => by simp [begQ] at e⟩
  · simp only [stepP, begQ]
  · exact ⟨by simp, by simp, fun e => by simp at e⟩
  · simp only [stepP]
    rw [if_pos]
    rw [hasBit_bits h.len, cnt_bits h.len, Int.toNat_natCast, hk, decide_eq_true hd, decide_eq_true (by omega)]
    rfl
  · exact ⟨by simp, by simp, fun _ => ⟨by simp, by simp; omega⟩⟩
  · simp only [stepP]
    rw [if_pos trivial, Int.toNat_natCast, flip_bits h.len (by omega) false (by simpa using hk)]
theorem retire_no (h : InL b m L) (x : Int) (hd : ¬ (hasBit (bitsNat L : Int) x = true ∧ wt < (L.count true : Int))) :
    itP b m 2 ⟨wt, bitsNat L, begQ 2 x⟩ = ⟨wt, bitsNat L, ⟨x, wt, bitsNat L, -1, 0⟩⟩ ∧ Runs b m ⟨wt, bitsNat L, begQ 2 x⟩ 2 := by
  refine runs2 (s1 := ⟨wt, bitsNat L, ⟨x, wt, 0, -1, 5⟩⟩) ?_ ?_ ?_ ?_ rfl
  · exact ⟨by simp [begQ], by simp [begQ], fun e => by simp [begQ] at e⟩
  · simp only [stepP, begQ]
  · exact ⟨by simp, by simp, fun e => by simp at e⟩
  · simp only [stepP]
    rw [if_neg]
    rw [cnt_bits h.len]
    simp only [Bool.and_eq_true, decide_eq_true_eq]
    exact hd
end
/-- Those from lo on, below hi. -/
def gapL (lo hi : Nat) : List Bool := (List.range 16).map fun j => decide (lo ≤ j ∧ j < hi)
theorem length_gapL (lo hi : Nat) : (gapL lo hi).length = 16 := by simp [gapL]
theorem gapL_getD (lo hi j : Nat) (hh : hi ≤ 16) : (gapL lo hi).getD j false = decide (lo ≤ j ∧ j < hi) := by
  unfold gapL
  rw [List.getD_eq_getElem?_getD, List.getElem?_map]
  by_cases h : j < 16
  · rw [List.getElem?_range h]; rfl
  · rw [List.getElem?_eq_none (by simp; omega)]
    simp; omega
theorem list16_ext {L L' : List Bool} (h : L.length = 16) (h' : L'.length = 16) (e : ∀ j, L.getD j false = L'.getD j false) : L = L' := by
  refine List.ext_getElem (by omega) fun i h1 h2 => ?_
  have := e i
  simpa [List.getD_eq_getElem?_getD, List.getElem?_eq_getElem h1, List.getElem?_eq_getElem h2] using this
theorem set_getD {L : List Bool} {k : Nat} (hk : k < L.length) (v : Bool) (j : Nat) : (L.set k v).getD j false = if k = j then v else L.getD j false := by
  by_cases e : k = j
  · subst e; rw [if_pos rfl, List.getD_eq_getElem?_getD, List.getElem?_set_self hk]; rfl
  · rw [if_neg e, List.getD_eq_getElem?_getD, List.getElem?_set_ne e, ← List.getD_eq_getElem?_getD]
theorem gapL_on {lo hi : Nat} (h : lo ≤ hi) (hh : hi < 16) : (gapL lo hi).set hi true = gapL lo (hi + 1) := by
  refine list16_ext (by rw [List.length_set, length_gapL]) (length_gapL _ _) fun j => ?_
  rw [set_getD (by rw [length_gapL]; exact hh), gapL_getD _ _ _ (by omega), gapL_getD _ _ _ (by omega)]
  by_cases e : hi = j
  · rw [if_pos e]; simp; omega
  · rw [if_neg e]; exact decide_eq_decide.2 (by omega)
theorem gapL_off {lo hi : Nat} (h : lo < hi) (hh : hi ≤ 16) : (gapL lo hi).set lo false = gapL (lo + 1) hi := by
  refine list16_ext (by rw [List.length_set, length_gapL]) (length_gapL _ _) fun j => ?_
  rw [set_getD (by rw [length_gapL]; omega), gapL_getD _ _ _ hh, gapL_getD _ _ _ hh]
  by_cases e : lo = j
  · rw [if_pos e]; simp; omega
  · rw [if_neg e]; exact decide_eq_decide.2 (by omega)
theorem count_gapL (lo : Nat) : ∀ d, lo + d ≤ 16 → (gapL lo (lo + d)).count true = d := by
  intro d
  induction d with
  | zero =>
    intro _
    rw [List.count_eq_zero]
    intro h
    unfold gapL at h
    rw [List.mem_map] at h
    obtain ⟨j, _, hj⟩ := h
    simp at hj
    omega
  | succ d ih =>
    intro h
    have := ih (by omega)
    have e := count_set (gapL lo (lo + d)) (lo + d) true false (by rw [getD_getElem? (by rw [length_gapL]; omega), gapL_getD _ _ _ (by omega)]; simp)
    rw [gapL_on (by omega) (by omega)] at e
    simp at e
    rw [← Nat.add_assoc]
    omega
theorem gapL_in {b m lo hi : Nat} (h1 : b ≤ lo) (h2 : hi ≤ b + m) (hh : hi ≤ 16) : InL b m (gapL lo hi) where
  len := length_gapL _ _
  here j hj := by
    rw [gapL_getD _ _ _ hh] at hj
    simp at hj
    omega
/-- What is kept: a machine, spares' struct, the last operation. -/
structure RsO (W w : World) (mb : MB) (bS b m : Nat) (wt : Int) (L : List Bool) (x : Option (Nat × OS)) : Prop where
  sp : ∃ l : List Int, l.length = 4 ∧ SpW W w mb b m 2 l wt (bitsNat L : Nat) [x]
  bs : Blk w bS 42 [.int .i64 0, .int .i64 b, .int .i64 m]
  nb : ¬ mb.has bS
  ne : ∀ o q, x = some (o, q) → o ≠ bS
  inl : InL b m L
section
variable {W w w' : World} {mb : MB} {bS b m : Nat} {wt : Int} {L : List Bool} {x : Option (Nat × OS)} {o : Nat} {q : OS}
theorem RsO.below (h : RsO W w mb bS b m wt L x) (hb : Below w.heap.size w w') : RsO W w' mb bS b m wt L x := by
  obtain ⟨l, hl, hs⟩ := h.sp
  exact ⟨⟨l, hl, hs.below hb⟩, h.bs.below hb h.bs.lt, h.nb, h.ne, h.inl⟩
theorem RsO.free (h : RsO W w mb bS b m wt L x) : RsO W w mb bS b m wt L none := by
  obtain ⟨l, hl, hs⟩ := h.sp
  exact ⟨⟨l, hl, hs.again hs.right 1⟩, h.bs, h.nb, (fun _ _ e => by cases e), h.inl⟩
theorem RsO.bel (h : RsO W w mb bS b m wt L x) : Below W.heap.size W w := by
  obtain ⟨l, hl, hs⟩ := h.sp
  exact hs.bel
theorem RsO.tab (h : RsO W w mb bS b m wt L x) : Tab w := by
  obtain ⟨l, hl, hs⟩ := h.sp
  exact hs.tab
theorem RsO.nums (h : RsO W w mb bS b m wt L x) : 1 ≤ b ∧ b ≤ 16 ∧ b + m ≤ 16 := by
  obtain ⟨l, hl, hs⟩ := h.sp
  have := hs.nums
  omega
theorem RsO.lay (h : RsO W w mb bS b m wt L x) (hb : Below w.heap.size w w') (ho : w.heap.size ≤ o) (hq : OpQ w' o b m q) : RsO W w' mb bS b m wt L (some (o, q)) := by
  obtain ⟨l, hl, hs⟩ := h.sp
  exact ⟨⟨l, hl, hs.lay hb ho hq 0⟩, h.bs.below hb h.bs.lt, h.nb, (fun o1 q1 e => by cases e; have := h.bs.lt; omega), h.inl⟩
theorem RsO.block (h : RsO W w mb bS b m wt L x) :
    Calls Tryd.prog 44 #[.agg #[.int .i64 0, .int .i64 b, .int .i64 m]] w fun e w' => ∃ o, e = .returned (.pointer (some ⟨o, 0, none⟩)) ∧ RsO W w' mb bS b m wt L (some (o, begQ 0 0)) := by
  refine (block_ok 0 b m w).mono ?_
  rintro e w' ⟨o, he, ho, hq, hb⟩
  exact ⟨o, he, h.lay hb ho hq⟩
theorem RsO.resume (h : RsO W w mb bS b m wt L x) :
    Calls Tryd.prog 46 #[.agg #[.int .i64 0, .int .i64 b, .int .i64 m]] w fun e w' => ∃ o, e = .returned (.pointer (some ⟨o, 0, none⟩)) ∧ RsO W w' mb bS b m wt L (some (o, begQ 1 0)) := by
  refine (resume_ok 0 b m w).mono ?_
  rintro e w' ⟨o, he, ho, hq, hb⟩
  exact ⟨o, he, h.lay hb ho hq⟩
theorem RsO.retire (h : RsO W w mb bS b m wt L x) (self : Int) :
    Calls Tryd.prog 45 #[.agg #[.int .i64 0, .int .i64 b, .int .i64 m], .int .i64 self] w fun e w' => ∃ o, e = .returned (.pointer (some ⟨o, 0, none⟩)) ∧ RsO W w' mb bS b m wt L (some (o, begQ 2 self)) := by
  refine (retire_ok 0 b m self w).mono ?_
  rintro e w' ⟨o, he, ho, hq, hb⟩
  exact ⟨o, he, h.lay hb ho hq⟩
theorem RsO.begin (h : RsO W w mb bS b m wt L x) (self dv : Int) (kd : Nat) (hk3 : kd < 3) (hk : (wrap64 (dv.tmod 3 + 3)).tmod 3 = (kd : Int)) :
    Calls Tryd.prog 27 #[.agg #[.int .i64 0, .int .i64 b, .int .i64 m], .int .i64 dv, .int .i64 self] w fun e w' => ∃ o, e = .returned (.pointer (some ⟨o, 0, none⟩)) ∧ RsO W w' mb bS b m wt L (some (o, begQ kd self)) ∧ Below w.heap.size w w' := by
  refine (begin_ok b m self dv kd hk3 hk w).mono ?_
  rintro e w' ⟨o, he, ho, hq, hb⟩
  exact ⟨o, he, h.lay hb ho hq, hb⟩
theorem RsO.run (h : RsO W w mb bS b m wt L (some (o, q))) {n : Nat} {wt' : Int} {L' : List Bool} {q' : OS} (hr : itP b m n ⟨wt, bitsNat L, q⟩ = ⟨wt', (bitsNat L' : Nat), q'⟩ ∧ Runs b m ⟨wt, bitsNat L, q⟩ n) (hi : InL b m L') (i : Int) (g : 0 ≤ i ∧ i < 4) (v : Int) (hv : (n : Int) = v) :
    Calls Tryd.prog 43 #[.pointer (some ⟨mb.p, 0, none⟩), .pointer (some ⟨o, 0, none⟩), .int .i64 i] w fun e w' => e = .returned (.int .i64 v) ∧ RsO W w' mb bS b m wt' L' (some (o, q')) ∧ Kept (fun k => mb.has k ∨ k = o) w w' := by
  obtain ⟨l, hl, hs⟩ := h.sp
  refine (hs.run (k := 0) rfl n _ hr.1 hr.2 i (by omega) v hv).mono ?_
  rintro e w' ⟨he, hw, hk⟩
  refine ⟨he, ⟨⟨_, by rw [length_dlN]; exact hl, hw⟩, h.bs.kept hk ?_, h.nb, (fun o1 q2 e => by cases e; exact h.ne o q rfl), hi⟩, hk⟩
  rintro (e | e)
  · exact h.nb e
  · exact h.ne o q rfl e.symm
theorem RsO.moved (h : RsO W w mb bS b m wt L (some (o, q))) (v : Int) (hv : q.mv = v) :
    Calls Tryd.prog 26 #[.pointer (some ⟨o, 0, none⟩)] w fun e w' => e = .returned (.int .i64 v) ∧ w = w' := by
  obtain ⟨l, hl, hs⟩ := h.sp
  exact hs.moved (k := 0) rfl v hv
theorem RsO.step_end (h : RsO W w mb bS b m wt L (some (o, q))) (hz : q.ph = 0) (i : Int) :
    Calls Tryd.prog 25 #[.pointer (some ⟨o, 0, none⟩), .pointer (some ⟨mb.p, 0, none⟩), .int .i64 i] w fun e w' => e = .returned (.tuple #[.bool true, .int .i64 0]) ∧ RsO W w' mb bS b m wt L (some (o, q)) ∧ Below w.heap.size w w' := by
  obtain ⟨l, hl, hs⟩ := h.sp
  refine (hs.step_end (k := 0) rfl hz i).mono ?_
  rintro e w' ⟨he, _, hb⟩
  exact ⟨he, h.below hb, hb⟩
theorem RsO.bits (h : RsO W w mb bS b m wt L x) :
    Calls Tryd.prog 28 #[.agg #[.int .i64 0, .int .i64 b, .int .i64 m], .pointer (some ⟨mb.p, 0, none⟩)] w fun e w' => e = .returned (.int .i64 (bitsNat (fullL b L) : Nat)) ∧ RsO W w' mb bS b m wt L x ∧ Below w.heap.size w w' := by
  have hn := h.nums
  obtain ⟨l, hl, hs⟩ := h.sp
  refine (hs.bits _ (bitsV_bits h.inl.len hn.2.1)).mono ?_
  rintro e w' ⟨he, _, hb⟩
  exact ⟨he, h.below hb, hb⟩
theorem RsO.blocked (h : RsO W w mb bS b m wt L x) :
    Calls Tryd.prog 30 #[.agg #[.int .i64 0, .int .i64 b, .int .i64 m], .pointer (some ⟨mb.p, 0, none⟩)] w fun e w' => e = .returned (.int .i64 wt) ∧ RsO W w' mb bS b m wt L x ∧ Below w.heap.size w w' := by
  obtain ⟨l, hl, hs⟩ := h.sp
  refine hs.blocked.mono ?_
  rintro e w' ⟨he, _, hb⟩
  exact ⟨he, h.below hb, hb⟩
theorem RsO.isOn (h : RsO W w mb bS b m wt L x) (j : Nat) (hj : j < 16) :
    Calls Tryd.prog 29 #[.agg #[.int .i64 0, .int .i64 b, .int .i64 m], .pointer (some ⟨mb.p, 0, none⟩), .int .i64 j] w fun e w' => e = .returned (.bool (decide (j < b) || L.getD j false)) ∧ RsO W w' mb bS b m wt L x ∧ Below w.heap.size w w' := by
  have hn := h.nums
  obtain ⟨l, hl, hs⟩ := h.sp
  refine (hs.isOn j (decide (j < b) || L.getD j false) ?_).mono ?_
  · rw [bitsV_bits h.inl.len hn.2.1, hasBit_bits (length_fullL h.inl.len hn.2.1), Int.toNat_natCast, fullL_getD, decide_eq_true (by omega)]
    rfl
  · rintro e w' ⟨he, _, hb⟩
    exact ⟨he, h.below hb, hb⟩
end
end Go.Proofs.YtkilghhknimolaaDoor
