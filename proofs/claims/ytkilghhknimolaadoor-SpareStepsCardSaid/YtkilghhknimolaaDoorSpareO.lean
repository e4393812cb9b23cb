/-
  WHAT IS PROVED HERE: an operation that is under way ('OpI'), and what its next step does, as plain facts; what the laws SpareCaps and SpareSteps keep in memory ('Ex': a machine, operations in slots, and blocks beside them), and their calls in these words. Conditions: as in the contracts.
-/
import Derived.Test.YtkilghhknimolaaDoorSpareN
namespace Go.Proofs.YtkilghhknimolaaDoor
open Go.RowKit

/-- An operation under way (kind 0 a Block, 1 a Resume, 2 a Retire of sf). -/
structure OpI (b m kd : Nat) (sf : Int) (q : OS) : Prop where
  mv : q.mv = -1
  at_ : (kd = 0 ∧ (q.ph = 1 ∨ q.ph = 4 ∨ (q.ph = 6 ∧ ∃ (Lq : List Bool) (k : Nat), InL b m Lq ∧ q.on = (bitsNat Lq : Nat) ∧ q.self = k ∧ b ≤ k ∧ k < b + m ∧ Lq.getD k false = false))) ∨
    (kd = 1 ∧ q.ph = 2) ∨
    (kd = 2 ∧ q.self = sf ∧ (q.ph = 3 ∨ q.ph = 5 ∨ (q.ph = 6 ∧ ∃ (Lq : List Bool) (k : Nat), InL b m Lq ∧ q.on = (bitsNat Lq : Nat) ∧ q.self = k ∧ b ≤ k ∧ k < b + m ∧ Lq.getD k false = true)))
theorem OpI.beg (b m kd : Nat) (hk : kd < 3) (sf : Int) : OpI b m kd sf (begQ kd sf) := by
  have hcase : kd = 0 ∨ kd = 1 ∨ kd = 2 := by omega
  rcases hcase with rfl | rfl | rfl
  · exact ⟨rfl, .inl ⟨rfl, .inl rfl⟩⟩
  · exact ⟨rfl, .inr (.inl ⟨rfl, rfl⟩)⟩
  · exact ⟨rfl, .inr (.inr ⟨rfl, rfl, .inl rfl⟩)⟩
/-- What the first step adds to those that wait. -/
def dwt (ph : Nat) : Int := if ph = 1 then 1 else if ph = 2 then -1 else 0
theorem OpI.ok {b m kd : Nat} {sf : Int} {q : OS} (h : OpI b m kd sf q) (hm : b + m ≤ 16) (wt on : Int) : OkP ⟨wt, on, q⟩ := by
  rcases h.at_ with ⟨rfl, h1 | h1 | ⟨h1, Lq, k, _, _, hs, h2, h3, _⟩⟩ | ⟨rfl, h1⟩ | ⟨rfl, _, h1 | h1 | ⟨h1, Lq, k, _, _, hs, h2, h3, _⟩⟩
  all_goals exact ⟨by dsimp only; omega, by dsimp only; omega, fun e => by dsimp only at e ⊢; omega⟩
/-- What a step comes to. -/
def StepR (b m kd : Nat) (sf : Int) (L L' : List Bool) (q' : OS) : Prop :=
  (q'.ph ≠ 0 ∧ 4 ≤ q'.ph ∧ q'.mv = -1 ∧ L' = L ∧ OpI b m kd sf q') ∨ (q'.ph = 0 ∧ q'.mv = -1 ∧ L' = L) ∨
  (q'.ph = 0 ∧ ∃ k : Nat, q'.mv = k ∧ b ≤ k ∧ k < b + m ∧ ((kd = 0 ∧ L.getD k false = false ∧ L' = L.set k true) ∨ (kd = 2 ∧ sf = k ∧ L.getD k false = true ∧ L' = L.set k false)))
theorem OpI.step {b m kd : Nat} {sf : Int} {q : OS} (h : OpI b m kd sf q) (hm : b + m ≤ 16) {L : List Bool} (hL : InL b m L) {wt : Int} (hw : -900 ≤ wt ∧ wt ≤ 900) :
    ∃ (L' : List Bool) (q' : OS), stepP b m ⟨wt, bitsNat L, q⟩ = ⟨wt + dwt q.ph, (bitsNat L' : Nat), q'⟩ ∧ InL b m L' ∧ StepR b m kd sf L L' q' := by
  obtain ⟨self, wait, on, mv, ph⟩ := q
  have hmv := h.mv
  dsimp only at hmv
  subst hmv
  rcases h.at_ with ⟨rfl, h1 | h1 | ⟨h1, Lq, k, hi, ho, hs, h2, h3, h4⟩⟩ | ⟨rfl, h1⟩ | ⟨rfl, hsf, h1 | h1 | ⟨h1, Lq, k, hi, ho, hs, h2, h3, h4⟩⟩
  · dsimp only at h1
    subst h1
    refine ⟨L, ⟨self, wt + 1, on, -1, 4⟩, ?_, hL, .inl ⟨by simp, by simp, rfl, rfl, rfl, .inl ⟨rfl, .inr (.inl rfl)⟩⟩⟩
    simp only [stepP, dwt]
    rw [wrap_small (show Small (wt + 1) by unfold Small; omega)]
    simp
  · dsimp only at h1
    subst h1
    by_cases hc : L.count true < m ∧ (L.count true : Int) < wait
    · obtain ⟨k, k1, k2, k3, k4, k5⟩ := hL.pick hm hc.1
      refine ⟨L, ⟨k, wait, bitsNat L, -1, 6⟩, ?_, hL, .inl ⟨by simp, by simp, rfl, rfl, rfl, .inl ⟨rfl, .inr (.inr ⟨rfl, L, k, hL, rfl, rfl, k1, k2, k4⟩)⟩⟩⟩
      simp only [stepP, dwt]
      rw [if_pos ⟨by rw [cnt_bits hL.len]; omega, by rw [cnt_bits hL.len]; exact hc.2⟩, k5]
      simp
    · refine ⟨L, ⟨self, wait, bitsNat L, -1, 0⟩, ?_, hL, .inr (.inl ⟨rfl, rfl, rfl⟩)⟩
      simp only [stepP, dwt]
      rw [if_neg (by rw [cnt_bits hL.len]; omega)]
      simp
  · dsimp only at h1 ho hs
    subst h1 ho hs
    by_cases hc : (bitsNat L : Int) = bitsNat Lq
    · have e := bitsNat_inj hL.len hi.len hc
      subst e
      refine ⟨L.set k true, ⟨k, wait, bitsNat L, k, 0⟩, ?_, hL.set h2 h3 true, .inr (.inr ⟨rfl, k, rfl, h2, h3, .inl ⟨rfl, h4, rfl⟩⟩)⟩
      simp only [stepP, dwt]
      rw [if_pos trivial, Int.toNat_natCast, flip_bits hL.len (by omega) true (by simpa using h4)]
      simp
    · refine ⟨L, ⟨k, wait, bitsNat Lq, -1, 0⟩, ?_, hL, .inr (.inl ⟨rfl, rfl, rfl⟩)⟩
      simp only [stepP, dwt]
      rw [if_neg hc]
      simp
  · dsimp only at h1
    subst h1
    refine ⟨L, ⟨self, wait, on, -1, 0⟩, ?_, hL, .inr (.inl ⟨rfl, rfl, rfl⟩)⟩
    simp only [stepP, dwt]
    rw [wrap_small (show Small (wt + -1) by unfold Small; omega)]
    simp
  · dsimp only at h1 hsf
    subst h1 hsf
    refine ⟨L, ⟨self, wt, on, -1, 5⟩, ?_, hL, .inl ⟨by simp, by simp, rfl, rfl, rfl, .inr (.inr ⟨rfl, rfl, .inr (.inl rfl)⟩)⟩⟩
    simp only [stepP, dwt]
    simp
  · dsimp only at h1 hsf
    subst h1 hsf
    by_cases hc : (hasBit (bitsNat L : Int) self && decide (wait < cnt (bitsNat L : Int))) = true
    · have hb := hc
      rw [Bool.and_eq_true, hasBit_bits hL.len, Bool.and_eq_true, decide_eq_true_eq] at hb
      obtain ⟨k, rfl⟩ := Int.eq_ofNat_of_zero_le hb.1.1.1
      rw [Int.toNat_natCast] at hb
      have := hL.here k hb.1.2
      refine ⟨L, ⟨k, wait, bitsNat L, -1, 6⟩, ?_, hL, .inl ⟨by simp, by simp, rfl, rfl, rfl, .inr (.inr ⟨rfl, rfl, .inr (.inr ⟨rfl, L, k, hL, rfl, rfl, this.1, this.2, hb.1.2⟩)⟩)⟩⟩
      simp only [stepP, dwt]
      rw [if_pos hc]
      simp
    · refine ⟨L, ⟨self, wait, bitsNat L, -1, 0⟩, ?_, hL, .inr (.inl ⟨rfl, rfl, rfl⟩)⟩
      simp only [stepP, dwt]
      rw [if_neg hc]
      simp
  · dsimp only at h1 ho hs hsf
    subst h1 ho hs
    by_cases hc : (bitsNat L : Int) = bitsNat Lq
    · have e := bitsNat_inj hL.len hi.len hc
      subst e
      refine ⟨L.set k false, ⟨k, wait, bitsNat L, k, 0⟩, ?_, hL.set h2 h3 false, .inr (.inr ⟨rfl, k, rfl, h2, h3, .inr ⟨rfl, hsf.symm, h4, rfl⟩⟩)⟩
      simp only [stepP, dwt]
      rw [if_pos trivial, Int.toNat_natCast, flip_bits hL.len (by omega) false (by simpa using h4)]
      simp
    · refine ⟨L, ⟨k, wait, bitsNat Lq, -1, 0⟩, ?_, hL, .inr (.inl ⟨rfl, rfl, rfl⟩)⟩
      simp only [stepP, dwt]
      rw [if_neg hc]
      simp
/-- A block beside the machine: its number, its type, its cells. -/
abbrev BB := Nat × TypeId × List Value
/-- What is kept: a machine, operations in slots, blocks beside them. -/
structure Ex (W w : World) (mb : MB) (b m : Nat) (wt : Int) (L : List Bool) (ops : List (Option (Nat × OS))) (bl : List BB) : Prop where
  sp : ∃ l : List Int, l.length = 4 ∧ SpW W w mb b m 2 l wt (bitsNat L : Nat) ops
  inl : InL b m L
  blk : ∀ (i g : Nat) (t : TypeId) (cs : List Value), bl[i]? = some (g, t, cs) → Blk w g t cs ∧ ¬ mb.has g ∧ W.heap.size ≤ g ∧ ∀ (k o : Nat) (q : OS), ops[k]? = some (some (o, q)) → o ≠ g
  dist : ∀ (i j g : Nat) (t t' : TypeId) (cs cs' : List Value), i ≠ j → bl[i]? = some (g, t, cs) → bl[j]? = some (g, t', cs') → False
section
variable {W w w' : World} {mb : MB} {b m : Nat} {wt : Int} {L : List Bool} {ops : List (Option (Nat × OS))} {bl : List BB}
theorem Ex.nums (h : Ex W w mb b m wt L ops bl) : 1 ≤ b ∧ b ≤ 16 ∧ b + m ≤ 16 := by
  obtain ⟨l, hl, hs⟩ := h.sp
  have := hs.nums
  omega
theorem Ex.bel (h : Ex W w mb b m wt L ops bl) : Below W.heap.size W w := by
  obtain ⟨l, hl, hs⟩ := h.sp
  exact hs.bel
theorem Ex.tab (h : Ex W w mb b m wt L ops bl) : Tab w := by
  obtain ⟨l, hl, hs⟩ := h.sp
  exact hs.tab
theorem Ex.below (h : Ex W w mb b m wt L ops bl) (hb : Below w.heap.size w w') : Ex W w' mb b m wt L ops bl := by
  obtain ⟨l, hl, hs⟩ := h.sp
  refine ⟨⟨l, hl, hs.below hb⟩, h.inl, fun i g t cs e => ?_, h.dist⟩
  obtain ⟨h1, h2⟩ := h.blk i g t cs e
  exact ⟨h1.below hb h1.lt, h2⟩
theorem Ex.olt (h : Ex W w mb b m wt L ops bl) {k o : Nat} {q : OS} (e : ops[k]? = some (some (o, q))) : o < w.heap.size := by
  obtain ⟨l, hl, hs⟩ := h.sp
  exact (hs.op k o q e).1.lt
/-- A cell of a block beside is written. -/
theorem Ex.store (h : Ex W w mb b m wt L ops bl) (i : Nat) {g : Nat} {t : TypeId} {cs : List Value} (e : bl[i]? = some (g, t, cs)) (j : Nat) (v : Value) : Ex W (w.setCell ⟨g, j, none⟩ v) mb b m wt L ops (bl.set i (g, t, cs.set j v)) := by
  obtain ⟨h1, h2, h3, h4⟩ := h.blk i g t cs e
  have hk : Kept (fun k => k = g) w (w.setCell ⟨g, j, none⟩ v) := (Kept.refl (fun k => k = g) w).setCell (p := ⟨g, j, none⟩) (.inl rfl) _
  obtain ⟨l, hl, hs⟩ := h.sp
  refine ⟨⟨l, hl, hs.apart hk (fun k e => by subst e; exact ⟨h2, h3⟩) (fun k o q e => h4 k o q e)⟩, h.inl, fun i' g' t' cs' e' => ?_, fun i' j' g' t' t2 cs' cs2 hne e1 e2 => ?_⟩
  · rw [List.getElem?_set] at e'
    split at e'
    · split at e'
      · cases e'
        exact ⟨h1.set j v, h2, h3, h4⟩
      · cases e'
    · rename_i hne
      obtain ⟨k1, k2⟩ := h.blk i' g' t' cs' e'
      exact ⟨k1.kept hk (fun e2 => by subst e2; exact h.dist i i' _ _ _ _ _ hne e e'), k2⟩
  · rw [List.getElem?_set] at e1 e2
    split at e1
    · rename_i hi
      subst hi
      split at e1
      · cases e1
        rw [if_neg hne] at e2
        exact h.dist _ _ _ _ _ _ _ hne e e2
      · cases e1
    · split at e2
      · rename_i hj
        subst hj
        split at e2
        · cases e2
          exact h.dist _ _ _ _ _ _ _ hne e1 e
        · cases e2
      · exact h.dist _ _ _ _ _ _ _ hne e1 e2
/-- A new block beside. -/
theorem Ex.more (h : Ex W w mb b m wt L ops bl) (hb : Below w.heap.size w w') {g : Nat} {t : TypeId} {cs : List Value} (hg : w.heap.size ≤ g) (hn : Blk w' g t cs) : Ex W w' mb b m wt L ops (bl ++ [(g, t, cs)]) := by
  have h' := h.below hb
  have hfar : ∀ (i g' : Nat) (t' : TypeId) (cs' : List Value), bl[i]? = some (g', t', cs') → g' < g := fun i g' t' cs' e => by have := (h.blk i g' t' cs' e).1.lt; omega
  obtain ⟨l, hl, hs⟩ := h.sp
  refine ⟨h'.sp, h.inl, fun i g' t' cs' e => ?_, fun i j g' t1 t2 c1 c2 hne e1 e2 => ?_⟩
  · by_cases hi : i < bl.length
    · rw [List.getElem?_append_left hi] at e
      exact h'.blk i g' t' cs' e
    · rw [List.getElem?_append_right (by omega)] at e
      have hi0 : i - bl.length = 0 := by
        by_cases h0 : i - bl.length = 0
        · exact h0
        · rw [List.getElem?_eq_none (by simp; omega)] at e; cases e
      rw [hi0] at e
      simp at e
      obtain ⟨rfl, rfl, rfl⟩ := e
      exact ⟨hn, fun e => by have := hs.mach.lt _ e; omega, Nat.le_trans h.bel.size hg, fun k o q e => by have := h.olt e; omega⟩
  · have hcase : ∀ (i g' : Nat) (t' : TypeId) (cs' : List Value), (bl ++ [(g, t, cs)])[i]? = some (g', t', cs') → bl[i]? = some (g', t', cs') ∨ (i = bl.length ∧ g' = g) := by
      intro i g' t' cs' e
      by_cases hi : i < bl.length
      · rw [List.getElem?_append_left hi] at e; exact .inl e
      · rw [List.getElem?_append_right (by omega)] at e
        have hi0 : i - bl.length = 0 := by
          by_cases h0 : i - bl.length = 0
          · exact h0
          · rw [List.getElem?_eq_none (by simp; omega)] at e; cases e
        rw [hi0] at e
        simp at e
        exact .inr ⟨by omega, e.1.symm⟩
    rcases hcase i g' t1 c1 e1 with a | ⟨a1, a2⟩
    · rcases hcase j g' t2 c2 e2 with c | ⟨c3, c4⟩
      · exact h.dist i j g' t1 t2 c1 c2 hne a c
      · have := hfar i g' t1 c1 a; omega
    · rcases hcase j g' t2 c2 e2 with c | ⟨c3, c4⟩
      · have := hfar j g' t2 c2 c; omega
      · omega
theorem Ex.alloc (h : Ex W w mb b m wt L ops bl) (t : TypeId) (cs : List Value) : Ex W (w.alloc (.cells cs.toArray t)) mb b m wt L ops (bl ++ [(w.heap.size, t, cs)]) :=
  h.more ((Below.refl _ _).alloc (Nat.le_refl _) _) (Nat.le_refl _) (Blk.new w t cs)
/-- An operation begins in slot k. -/
theorem Ex.begin (h : Ex W w mb b m wt L ops bl) (k : Nat) (self dv : Int) (kd : Nat) (hk3 : kd < 3) (hk : (wrap64 (dv.tmod 3 + 3)).tmod 3 = (kd : Int)) :
    Calls Tryd.prog 27 #[.agg #[.int .i64 0, .int .i64 b, .int .i64 m], .int .i64 dv, .int .i64 self] w fun e w' => ∃ o, e = .returned (.pointer (some ⟨o, 0, none⟩)) ∧ Ex W w' mb b m wt L (ops.set k (some (o, begQ kd self))) bl := by
  refine (begin_ok b m self dv kd hk3 hk w).mono ?_
  rintro e w' ⟨o, he, ho, hq, hb⟩
  obtain ⟨l, hl, hs⟩ := h.sp
  refine ⟨o, he, ⟨l, hl, hs.lay hb ho hq k⟩, h.inl, fun i g t cs e => ?_, h.dist⟩
  obtain ⟨h1, h2, h3, h4⟩ := h.blk i g t cs e
  refine ⟨h1.below hb h1.lt, h2, h3, fun k' o' q' e' => ?_⟩
  rw [List.getElem?_set] at e'
  split at e'
  · split at e'
    · cases e'
      have := h1.lt
      omega
    · cases e'
  · exact h4 k' o' q' e'
theorem Ex.turn (h : Ex W w mb b m wt L ops bl) {k o : Nat} {q q' : OS} (e : ops[k]? = some (some (o, q))) {wt' : Int} {L' : List Bool} (hk : Kept (fun k => mb.has k ∨ k = o) w w') {l' : List Int} (hl' : l'.length = 4) (hs' : SpW W w' mb b m 2 l' wt' (bitsNat L' : Nat) (ops.set k (some (o, q')))) (hi : InL b m L') : Ex W w' mb b m wt' L' (ops.set k (some (o, q'))) bl := by
  refine ⟨⟨l', hl', hs'⟩, hi, fun i g t cs e1 => ?_, h.dist⟩
  obtain ⟨h1, h2, h3, h4⟩ := h.blk i g t cs e1
  refine ⟨h1.kept hk ?_, h2, h3, fun k' o' q2 e' => ?_⟩
  · rintro (e2 | e2)
    · exact h2 e2
    · exact h4 k o q e e2.symm
  · rw [List.getElem?_set] at e'
    split at e'
    · split at e'
      · cases e'
        exact h4 k o q e
      · cases e'
    · exact h4 k' o' q2 e'
theorem Ex.step (h : Ex W w mb b m wt L ops bl) {k o : Nat} {q q' : OS} (e : ops[k]? = some (some (o, q))) {L' : List Bool} {wt' : Int} (hs : OkP ⟨wt, bitsNat L, q⟩) (hst : stepP b m ⟨wt, bitsNat L, q⟩ = ⟨wt', (bitsNat L' : Nat), q'⟩) (hi : InL b m L') (i : Int) (g : 0 ≤ i ∧ i < 4) (dn : Bool) (hdn : (q'.ph == 0) = dn) :
    Calls Tryd.prog 25 #[.pointer (some ⟨o, 0, none⟩), .pointer (some ⟨mb.p, 0, none⟩), .int .i64 i] w fun e w' => e = .returned (.tuple #[.bool dn, .int .i64 0]) ∧ Ex W w' mb b m wt' L' (ops.set k (some (o, q'))) bl := by
  obtain ⟨l, hl, hsp⟩ := h.sp
  refine (hsp.step e hs i (by omega) _ hst dn hdn).mono ?_
  rintro e' w' ⟨he, hw, hk⟩
  exact ⟨he, h.turn e hk (by rw [length_dl]; exact hl) hw hi⟩
theorem Ex.moved (h : Ex W w mb b m wt L ops bl) {k o : Nat} {q : OS} (e : ops[k]? = some (some (o, q))) (v : Int) (hv : q.mv = v) :
    Calls Tryd.prog 26 #[.pointer (some ⟨o, 0, none⟩)] w fun e w' => e = .returned (.int .i64 v) ∧ w = w' := by
  obtain ⟨l, hl, hs⟩ := h.sp
  exact hs.moved e v hv
theorem Ex.bits (h : Ex W w mb b m wt L ops bl) :
    Calls Tryd.prog 28 #[.agg #[.int .i64 0, .int .i64 b, .int .i64 m], .pointer (some ⟨mb.p, 0, none⟩)] w fun e w' => e = .returned (.int .i64 (bitsNat (fullL b L) : Nat)) ∧ Below w.heap.size w w' := by
  have hn := h.nums
  obtain ⟨l, hl, hs⟩ := h.sp
  refine (hs.bits _ (bitsV_bits h.inl.len hn.2.1)).mono ?_
  rintro e w' ⟨he, _, hb⟩
  exact ⟨he, hb⟩
theorem Ex.blocked (h : Ex W w mb b m wt L ops bl) :
    Calls Tryd.prog 30 #[.agg #[.int .i64 0, .int .i64 b, .int .i64 m], .pointer (some ⟨mb.p, 0, none⟩)] w fun e w' => e = .returned (.int .i64 wt) ∧ Below w.heap.size w w' := by
  obtain ⟨l, hl, hs⟩ := h.sp
  refine hs.blocked.mono ?_
  rintro e w' ⟨he, _, hb⟩
  exact ⟨he, hb⟩
theorem Ex.isOn (h : Ex W w mb b m wt L ops bl) (j : Int) (v : Bool) (hv : (decide (0 ≤ j ∧ j < 16) && (fullL b L).getD j.toNat false) = v) :
    Calls Tryd.prog 29 #[.agg #[.int .i64 0, .int .i64 b, .int .i64 m], .pointer (some ⟨mb.p, 0, none⟩), .int .i64 j] w fun e w' => e = .returned (.bool v) ∧ Below w.heap.size w w' := by
  have hn := h.nums
  obtain ⟨l, hl, hs⟩ := h.sp
  refine (hs.isOn j v ?_).mono ?_
  · rw [bitsV_bits h.inl.len hn.2.1, hasBit_bits (length_fullL h.inl.len hn.2.1)]
    exact hv
  · rintro e w' ⟨he, _, hb⟩
    exact ⟨he, hb⟩
/-- A cell of a block beside. -/
theorem Ex.cell (h : Ex W w mb b m wt L ops bl) (i : Nat) {g : Nat} {t : TypeId} {cs : List Value} (e : bl[i]? = some (g, t, cs)) (j : Nat) {v : Value} (hv : cs[j]? = some v) : w.cell? ⟨g, j, none⟩ = some v := by
  rw [(h.blk i g t cs e).1.cell j, hv]
theorem Ex.frozen (h : Ex W w mb b m wt L ops bl) (i : Nat) {g : Nat} {t : TypeId} {cs : List Value} (e : bl[i]? = some (g, t, cs)) (j : Nat) : w.frozen? ⟨g, j, none⟩ = false := (h.blk i g t cs e).1.frozen j
end
def ptrOf : Option (Nat × OS) → Value
  | none => .pointer none
  | some (o, _) => .pointer (some ⟨o, 0, none⟩)
end Go.Proofs.YtkilghhknimolaaDoor
