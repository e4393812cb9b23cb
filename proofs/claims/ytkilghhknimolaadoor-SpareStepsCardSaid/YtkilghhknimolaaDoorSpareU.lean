/-
  WHAT IS PROVED HERE: what the law SpareSteps keeps in memory ('El': as 'Ex', the workers' steps named), and its calls in these words. Conditions: as in the contracts.
-/
import Derived.Test.YtkilghhknimolaaDoorSpareT
namespace Go.Proofs.YtkilghhknimolaaDoor
open Go.RowKit

/-- What is kept: a machine, operations in slots, blocks beside them. -/
structure El (W w : World) (mb : MB) (b m : Nat) (l : List Int) (wt : Int) (L : List Bool) (ops : List (Option (Nat × OS))) (bl : List BB) : Prop where
  sp : l.length = 4 ∧ SpW W w mb b m 2 l wt (bitsNat L : Nat) ops
  inl : InL b m L
  blk : ∀ (i g : Nat) (t : TypeId) (cs : List Value), bl[i]? = some (g, t, cs) → Blk w g t cs ∧ ¬ mb.has g ∧ W.heap.size ≤ g ∧ ∀ (k o : Nat) (q : OS), ops[k]? = some (some (o, q)) → o ≠ g
  dist : ∀ (i j g : Nat) (t t' : TypeId) (cs cs' : List Value), i ≠ j → bl[i]? = some (g, t, cs) → bl[j]? = some (g, t', cs') → False
section
variable {W w w' : World} {mb : MB} {b m : Nat} {l : List Int} {wt : Int} {L : List Bool} {ops : List (Option (Nat × OS))} {bl : List BB}
theorem El.nums (h : El W w mb b m l wt L ops bl) : 1 ≤ b ∧ b ≤ 16 ∧ b + m ≤ 16 := by
  obtain ⟨hl, hs⟩ := h.sp
  have := hs.nums
  omega
theorem El.bel (h : El W w mb b m l wt L ops bl) : Below W.heap.size W w := by
  obtain ⟨hl, hs⟩ := h.sp
  exact hs.bel
theorem El.tab (h : El W w mb b m l wt L ops bl) : Tab w := by
  obtain ⟨hl, hs⟩ := h.sp
  exact hs.tab
theorem El.below (h : El W w mb b m l wt L ops bl) (hb : Below w.heap.size w w') : El W w' mb b m l wt L ops bl := by
  obtain ⟨hl, hs⟩ := h.sp
  refine ⟨⟨hl, hs.below hb⟩, h.inl, fun i g t cs e => ?_, h.dist⟩
  obtain ⟨h1, h2⟩ := h.blk i g t cs e
  exact ⟨h1.below hb h1.lt, h2⟩
theorem El.olt (h : El W w mb b m l wt L ops bl) {k o : Nat} {q : OS} (e : ops[k]? = some (some (o, q))) : o < w.heap.size := by
  obtain ⟨hl, hs⟩ := h.sp
  exact (hs.op k o q e).1.lt
/-- A cell of a block beside is written. -/
theorem El.store (h : El W w mb b m l wt L ops bl) (i : Nat) {g : Nat} {t : TypeId} {cs : List Value} (e : bl[i]? = some (g, t, cs)) (j : Nat) (v : Value) : El W (w.setCell ⟨g, j, none⟩ v) mb b m l wt L ops (bl.set i (g, t, cs.set j v)) := by
  obtain ⟨h1, h2, h3, h4⟩ := h.blk i g t cs e
  have hk : Kept (fun k => k = g) w (w.setCell ⟨g, j, none⟩ v) := (Kept.refl (fun k => k = g) w).setCell (p := ⟨g, j, none⟩) (.inl rfl) _
  obtain ⟨hl, hs⟩ := h.sp
  refine ⟨⟨hl, hs.apart hk (fun k e => by subst e; exact ⟨h2, h3⟩) (fun k o q e => h4 k o q e)⟩, h.inl, fun i' g' t' cs' e' => ?_, fun i' j' g' t' t2 cs' cs2 hne e1 e2 => ?_⟩
  · rw [List.getElem?_set] at e'
    split at e'
    · split at e'
      · cases e'
        exact ⟨h1.set j v, h2, h3, h4⟩
      · cases e'
    · rename_i hne
      obtain ⟨k1, k2⟩ := h.blk i' g' t' cs' e'
      exact ⟨k1.kept hk (fun e2 => by subst e2; exact h.dist i i' _ _ _ _ _ hne e e'), k2⟩
  · rw [List.getElem?_set] at e1 e2
    split at e1
    · rename_i hi
      subst hi
      split at e1
      · cases e1
        rw [if_neg hne] at e2
        exact h.dist _ _ _ _ _ _ _ hne e e2
      · cases e1
    · split at e2
      · rename_i hj
        subst hj
        split at e2
        · cases e2
          exact h.dist _ _ _ _ _ _ _ hne e1 e
        · cases e2
      · exact h.dist _ _ _ _ _ _ _ hne e1 e2
/-- A new block beside. -/
theorem El.more (h : El W w mb b m l wt L ops bl) (hb : Below w.heap.size w w') {g : Nat} {t : TypeId} {cs : List Value} (hg : w.heap.size ≤ g) (hn : Blk w' g t cs) : El W w' mb b m l wt L ops (bl ++ [(g, t, cs)]) := by
  have h' := h.below hb
  have hfar : ∀ (i g' : Nat) (t' : TypeId) (cs' : List Value), bl[i]? = some (g', t', cs') → g' < g := fun i g' t' cs' e => by have := (h.blk i g' t' cs' e).1.lt; omega
  obtain ⟨hl, hs⟩ := h.sp
  refine ⟨h'.sp, h.inl, fun i g' t' cs' e => ?_, fun i j g' t1 t2 c1 c2 hne e1 e2 => ?_⟩
  · by_cases hi : i < bl.length
    · rw [List.getElem?_append_left hi] at e
      exact h'.blk i g' t' cs' e
    · rw [List.getElem?_append_right (by omega)] at e
      have hi0 : i - bl.length = 0 := by
        by_cases h0 : i - bl.length = 0
        · exact h0
        · rw [List.getElem?_eq_none (by simp; omega)] at e; cases e
      rw [hi0] at e
      simp at e
      obtain ⟨rfl, rfl, rfl⟩ := e
      exact ⟨hn, fun e => by have := hs.mach.lt _ e; omega, Nat.le_trans h.bel.size hg, fun k o q e => by have := h.olt e; omega⟩
  · have hcase : ∀ (i g' : Nat) (t' : TypeId) (cs' : List Value), (bl ++ [(g, t, cs)])[i]? = some (g', t', cs') → bl[i]? = some (g', t', cs') ∨ (i = bl.length ∧ g' = g) := by
      intro i g' t' cs' e
      by_cases hi : i < bl.length
      · rw [List.getElem?_append_left hi] at e; exact .inl e
      · rw [List.getElem?_append_right (by omega)] at e
        have hi0 : i - bl.length = 0 := by
          by_cases h0 : i - bl.length = 0
          · exact h0
          · rw [List.getElem?_eq_none (by simp; omega)] at e; cases e
        rw [hi0] at e
        simp at e
        exact .inr ⟨by omega, e.1.symm⟩
    rcases hcase i g' t1 c1 e1 with a | ⟨a1, a2⟩
    · rcases hcase j g' t2 c2 e2 with c | ⟨c3, c4⟩
      · exact h.dist i j g' t1 t2 c1 c2 hne a c
      · have := hfar i g' t1 c1 a; omega
    · rcases hcase j g' t2 c2 e2 with c | ⟨c3, c4⟩
      · have := hfar j g' t2 c2 c; omega
      · omega
theorem El.alloc (h : El W w mb b m l wt L ops bl) (t : TypeId) (cs : List Value) : El W (w.alloc (.cells cs.toArray t)) mb b m l wt L ops (bl ++ [(w.heap.size, t, cs)]) :=
  h.more ((Below.refl _ _).alloc (Nat.le_refl _) _) (Nat.le_refl _) (Blk.new w t cs)
/-- An operation begins in slot k. -/
theorem El.begin (h : El W w mb b m l wt L ops bl) (k : Nat) (self dv : Int) (kd : Nat) (hk3 : kd < 3) (hk : (wrap64 (dv.tmod 3 + 3)).tmod 3 = (kd : Int)) :
    Calls Tryd.prog 27 #[.agg #[.int .i64 0, .int .i64 b, .int .i64 m], .int .i64 dv, .int .i64 self] w fun e w' => ∃ o, e = .returned (.pointer (some ⟨o, 0, none⟩)) ∧ El W w' mb b m l wt L (ops.set k (some (o, begQ kd self))) bl := by
  refine (begin_ok b m self dv kd hk3 hk w).mono ?_
  rintro e w' ⟨o, he, ho, hq, hb⟩
  obtain ⟨hl, hs⟩ := h.sp
  refine ⟨o, he, ⟨hl, hs.lay hb ho hq k⟩, h.inl, fun i g t cs e => ?_, h.dist⟩
  obtain ⟨h1, h2, h3, h4⟩ := h.blk i g t cs e
  refine ⟨h1.below hb h1.lt, h2, h3, fun k' o' q' e' => ?_⟩
  rw [List.getElem?_set] at e'
  split at e'
  · split at e'
    · cases e'
      have := h1.lt
      omega
    · cases e'
  · exact h4 k' o' q' e'
theorem El.turn (h : El W w mb b m l wt L ops bl) {k o : Nat} {q q' : OS} (e : ops[k]? = some (some (o, q))) {wt' : Int} {L' : List Bool} (hk : Kept (fun k => mb.has k ∨ k = o) w w') {l' : List Int} (hl' : l'.length = 4) (hs' : SpW W w' mb b m 2 l' wt' (bitsNat L' : Nat) (ops.set k (some (o, q')))) (hi : InL b m L') : El W w' mb b m l' wt' L' (ops.set k (some (o, q'))) bl := by
  refine ⟨⟨hl', hs'⟩, hi, fun i g t cs e1 => ?_, h.dist⟩
  obtain ⟨h1, h2, h3, h4⟩ := h.blk i g t cs e1
  refine ⟨h1.kept hk ?_, h2, h3, fun k' o' q2 e' => ?_⟩
  · rintro (e2 | e2)
    · exact h2 e2
    · exact h4 k o q e e2.symm
  · rw [List.getElem?_set] at e'
    split at e'
    · split at e'
      · cases e'
        exact h4 k o q e
      · cases e'
    · exact h4 k' o' q2 e'
theorem El.step (h : El W w mb b m l wt L ops bl) {k o : Nat} {q q' : OS} (e : ops[k]? = some (some (o, q))) {L' : List Bool} {wt' : Int} (hs : OkP ⟨wt, bitsNat L, q⟩) (hst : stepP b m ⟨wt, bitsNat L, q⟩ = ⟨wt', (bitsNat L' : Nat), q'⟩) (hi : InL b m L') (i : Int) (g : 0 ≤ i ∧ i < 4) (dn : Bool) (hdn : (q'.ph == 0) = dn) :
    Calls Tryd.prog 25 #[.pointer (some ⟨o, 0, none⟩), .pointer (some ⟨mb.p, 0, none⟩), .int .i64 i] w fun e w' => e = .returned (.tuple #[.bool dn, .int .i64 0]) ∧ El W w' mb b m (dl l i) wt' L' (ops.set k (some (o, q'))) bl := by
  obtain ⟨hl, hsp⟩ := h.sp
  refine (hsp.step e hs i (by omega) _ hst dn hdn).mono ?_
  rintro e' w' ⟨he, hw, hk⟩
  exact ⟨he, h.turn e hk (by rw [length_dl]; exact hl) hw hi⟩
theorem El.moved (h : El W w mb b m l wt L ops bl) {k o : Nat} {q : OS} (e : ops[k]? = some (some (o, q))) (v : Int) (hv : q.mv = v) :
    Calls Tryd.prog 26 #[.pointer (some ⟨o, 0, none⟩)] w fun e w' => e = .returned (.int .i64 v) ∧ w = w' := by
  obtain ⟨hl, hs⟩ := h.sp
  exact hs.moved e v hv
theorem El.bits (h : El W w mb b m l wt L ops bl) :
    Calls Tryd.prog 28 #[.agg #[.int .i64 0, .int .i64 b, .int .i64 m], .pointer (some ⟨mb.p, 0, none⟩)] w fun e w' => e = .returned (.int .i64 (bitsNat (fullL b L) : Nat)) ∧ Below w.heap.size w w' := by
  have hn := h.nums
  obtain ⟨hl, hs⟩ := h.sp
  refine (hs.bits _ (bitsV_bits h.inl.len hn.2.1)).mono ?_
  rintro e w' ⟨he, _, hb⟩
  exact ⟨he, hb⟩
theorem El.blocked (h : El W w mb b m l wt L ops bl) :
    Calls Tryd.prog 30 #[.agg #[.int .i64 0, .int .i64 b, .int .i64 m], .pointer (some ⟨mb.p, 0, none⟩)] w fun e w' => e = .returned (.int .i64 wt) ∧ Below w.heap.size w w' := by
  obtain ⟨hl, hs⟩ := h.sp
  refine hs.blocked.mono ?_
  rintro e w' ⟨he, _, hb⟩
  exact ⟨he, hb⟩
theorem El.isOn (h : El W w mb b m l wt L ops bl) (j : Int) (v : Bool) (hv : (decide (0 ≤ j ∧ j < 16) && (fullL b L).getD j.toNat false) = v) :
    Calls Tryd.prog 29 #[.agg #[.int .i64 0, .int .i64 b, .int .i64 m], .pointer (some ⟨mb.p, 0, none⟩), .int .i64 j] w fun e w' => e = .returned (.bool v) ∧ Below w.heap.size w w' := by
  have hn := h.nums
  obtain ⟨hl, hs⟩ := h.sp
  refine (hs.isOn j v ?_).mono ?_
  · rw [bitsV_bits h.inl.len hn.2.1, hasBit_bits (length_fullL h.inl.len hn.2.1)]
    exact hv
  · rintro e w' ⟨he, _, hb⟩
    exact ⟨he, hb⟩
/-- A cell of a block beside. -/
theorem El.cell (h : El W w mb b m l wt L ops bl) (i : Nat) {g : Nat} {t : TypeId} {cs : List Value} (e : bl[i]? = some (g, t, cs)) (j : Nat) {v : Value} (hv : cs[j]? = some v) : w.cell? ⟨g, j, none⟩ = some v := by
  rw [(h.blk i g t cs e).1.cell j, hv]
theorem El.frozen (h : El W w mb b m l wt L ops bl) (i : Nat) {g : Nat} {t : TypeId} {cs : List Value} (e : bl[i]? = some (g, t, cs)) (j : Nat) : w.frozen? ⟨g, j, none⟩ = false := (h.blk i g t cs e).1.frozen j
theorem El.step_no (h : El W w mb b m l wt L ops bl) {k o : Nat} {q : OS} (e : ops[k]? = some (some (o, q))) (hs : OkP ⟨wt, bitsNat L, q⟩) (i : Int) (g : ¬ (0 ≤ i ∧ i < 4)) :
    Calls Tryd.prog 25 #[.pointer (some ⟨o, 0, none⟩), .pointer (some ⟨mb.p, 0, none⟩), .int .i64 i] w fun e w' => e = .returned (.tuple #[.bool false, .int .i64 10]) ∧ El W w' mb b m l wt L (ops.set k (some (o, q))) bl := by
  obtain ⟨hl, hsp⟩ := h.sp
  refine (hsp.step_no e hs i (by omega)).mono ?_
  rintro e' w' ⟨he, hw, hk⟩
  exact ⟨he, h.turn e hk hl hw h.inl⟩
theorem El.step_end (h : El W w mb b m l wt L ops bl) {k o : Nat} {q : OS} (e : ops[k]? = some (some (o, q))) (hs : q.ph = 0) (i : Int) :
    Calls Tryd.prog 25 #[.pointer (some ⟨o, 0, none⟩), .pointer (some ⟨mb.p, 0, none⟩), .int .i64 i] w fun e w' => e = .returned (.tuple #[.bool true, .int .i64 0]) ∧ El W w' mb b m l wt L ops bl := by
  obtain ⟨hl, hsp⟩ := h.sp
  refine (hsp.step_end e hs i).mono ?_
  rintro e' w' ⟨he, _, hb⟩
  exact ⟨he, h.below hb⟩
/-- Two blocks beside are written. -/
theorem El.two (h : El W w mb b m l wt L ops bl) (i j : Nat) {g g' : Nat} {t t' : TypeId} {cs cs' ds ds' : List Value} (hij : i ≠ j) (e1 : bl[i]? = some (g, t, cs)) (e2 : bl[j]? = some (g', t', cs')) (hk : Kept (fun k => k = g ∨ k = g') w w') (b1 : Blk w' g t ds) (b2 : Blk w' g' t' ds') : El W w' mb b m l wt L ops ((bl.set i (g, t, ds)).set j (g', t', ds')) := by
  obtain ⟨h1, h2, h3, h4⟩ := h.blk i g t cs e1
  obtain ⟨k1, k2, k3, k4⟩ := h.blk j g' t' cs' e2
  obtain ⟨hl, hs⟩ := h.sp
  have hcase : ∀ (a x : Nat) (y : TypeId) (z : List Value), ((bl.set i (g, t, ds)).set j (g', t', ds'))[a]? = some (x, y, z) → (a = j ∧ x = g' ∧ y = t' ∧ z = ds') ∨ (a ≠ j ∧ a = i ∧ x = g ∧ y = t ∧ z = ds) ∨ (a ≠ j ∧ a ≠ i ∧ bl[a]? = some (x, y, z)) := by
    intro a x y z e
    rw [List.getElem?_set] at e
    split at e
    · rename_i ha
      split at e
      · cases e
        exact .inl ⟨ha.symm, rfl, rfl, rfl⟩
      · cases e
    · rename_i ha
      rw [List.getElem?_set] at e
      split at e
      · rename_i hb
        split at e
        · cases e
          exact .inr (.inl ⟨fun q => ha q.symm, hb.symm, rfl, rfl, rfl⟩)
        · cases e
      · rename_i hb
        exact .inr (.inr ⟨fun q => ha q.symm, fun q => hb q.symm, e⟩)
  have hold : ∀ (a x : Nat) (y : TypeId) (z : List Value), ((bl.set i (g, t, ds)).set j (g', t', ds'))[a]? = some (x, y, z) → ∃ y' z', bl[a]? = some (x, y', z') := by
    intro a x y z e
    rcases hcase a x y z e with ⟨rfl, rfl, -, -⟩ | ⟨-, rfl, rfl, -, -⟩ | ⟨-, -, e3⟩
    · exact ⟨_, _, e2⟩
    · exact ⟨_, _, e1⟩
    · exact ⟨_, _, e3⟩
  refine ⟨⟨hl, hs.apart hk (fun k e => by rcases e with rfl | rfl; exact ⟨h2, h3⟩; exact ⟨k2, k3⟩) (fun k o q e e' => by rcases e' with e' | e'; exact h4 k o q e e'; exact k4 k o q e e')⟩, h.inl, fun a x y z e => ?_, fun a a' x y y' z z' hne f1 f2 => ?_⟩
  · rcases hcase a x y z e with ⟨rfl, rfl, rfl, rfl⟩ | ⟨_, rfl, rfl, rfl, rfl⟩ | ⟨n1, n2, e3⟩
    · exact ⟨b2, k2, k3, k4⟩
    · exact ⟨b1, h2, h3, h4⟩
    · obtain ⟨m1, m2⟩ := h.blk a x y z e3
      refine ⟨m1.kept hk ?_, m2⟩
      rintro (rfl | rfl)
      · exact h.dist a i _ _ _ _ _ n2 e3 e1
      · exact h.dist a j _ _ _ _ _ n1 e3 e2
  · obtain ⟨_, _, p1⟩ := hold a x y z f1
    obtain ⟨_, _, p2⟩ := hold a' x y' z' f2
    exact h.dist a a' x _ _ _ _ hne p1 p2
theorem El.blt (h : El W w mb b m l wt L ops bl) {i g : Nat} {t : TypeId} {cs : List Value} (e : bl[i]? = some (g, t, cs)) : Blk w g t cs := (h.blk i g t cs e).1
end
end Go.Proofs.YtkilghhknimolaaDoor
