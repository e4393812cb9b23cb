/-
  WHAT IS PROVED HERE: what an operation of SpareAlone comes to ('Outc'); what that law keeps in memory ('AlO'), and its calls in these words. Conditions: as in the contracts.
-/
import Derived.Test.YtkilghhknimolaaDoorSpareRestsWalk
namespace Go.Proofs.YtkilghhknimolaaDoor
open Go.RowKit

/-- What a Block comes to. -/
def OutB (b m : Nat) (wt : Int) (L : List Bool) (n : Nat) (L' : List Bool) (want : Int) : Prop :=
  (L.count true < m ∧ (L.count true : Int) < wt + 1 ∧ n = 3 ∧ ∃ k : Nat, want = k ∧ b ≤ k ∧ k < b + m ∧ (∀ j, b ≤ j → j < k → L.getD j false = true) ∧ L.getD k false = false ∧ L' = L.set k true) ∨
  (¬ (L.count true < m ∧ (L.count true : Int) < wt + 1) ∧ n = 2 ∧ want = -1 ∧ L' = L)
/-- What a Retire comes to. -/
def OutT (self wt : Int) (L : List Bool) (n : Nat) (L' : List Bool) (want : Int) : Prop :=
  (∃ k : Nat, self = k ∧ want = k ∧ k < 16 ∧ L.getD k false = true ∧ wt < (L.count true : Int) ∧ n = 3 ∧ L' = L.set k false) ∨
  (¬ (hasBit (bitsNat L : Int) self = true ∧ wt < (L.count true : Int)) ∧ n = 2 ∧ want = -1 ∧ L' = L)
def OutA (b m kd : Nat) (self wt : Int) (L : List Bool) (n : Nat) (wt' : Int) (L' : List Bool) (want : Int) : Prop :=
  (kd = 0 ∧ wt' = wt + 1 ∧ OutB b m wt L n L' want) ∨ (kd = 1 ∧ wt' = wt - 1 ∧ n = 1 ∧ want = -1 ∧ L' = L) ∨ (kd = 2 ∧ wt' = wt ∧ OutT self wt L n L' want)
structure Outc (b m kd : Nat) (sf wt : Int) (L : List Bool) (n : Nat) (q' : OS) (wt' : Int) (L' : List Bool) (want : Int) : Prop where
  mv : q'.mv = want
  ph : q'.ph = 0
  run : itP b m n ⟨wt, bitsNat L, begQ kd sf⟩ = ⟨wt', (bitsNat L' : Nat), q'⟩ ∧ Runs b m ⟨wt, bitsNat L, begQ kd sf⟩ n
  inl : InL b m L'
  out : OutA b m kd sf wt L n wt' L' want
theorem outc {b m : Nat} {L : List Bool} (h : InL b m L) (hm : b + m ≤ 16) (kd : Nat) (hk : kd < 3) (self wt : Int) (hw : -900 ≤ wt ∧ wt ≤ 900) : ∃ n q' wt' L' want, Outc b m kd self wt L n q' wt' L' want := by
  have hcase : kd = 0 ∨ kd = 1 ∨ kd = 2 := by omega
  rcases hcase with rfl | rfl | rfl
  · by_cases hc : L.count true < m ∧ (L.count true : Int) < wt + 1
    · obtain ⟨k, k1, k2, k3, k4, k5, k6⟩ := block_yes h hm (wt := wt) (by unfold Small; omega) hc.1 hc.2
      exact ⟨3, _, _, L.set k true, k, rfl, rfl, ⟨k5, k6⟩, h.set k1 k2 true, .inl ⟨rfl, rfl, .inl ⟨hc.1, hc.2, rfl, k, rfl, k1, k2, k3, k4, rfl⟩⟩⟩
    · obtain ⟨k5, k6⟩ := block_no h (wt := wt) (by unfold Small; omega) hc
      exact ⟨2, _, _, L, -1, rfl, rfl, ⟨k5, k6⟩, h, .inl ⟨rfl, rfl, .inr ⟨hc, rfl, rfl, rfl⟩⟩⟩
  · obtain ⟨k5, k6⟩ := resume_run (b := b) (m := m) (L := L) (wt := wt) (by unfold Small; omega)
    exact ⟨1, _, _, L, -1, rfl, rfl, ⟨k5, k6⟩, h, .inr (.inl ⟨rfl, rfl, rfl, rfl, rfl⟩)⟩
  · by_cases hc : hasBit (bitsNat L : Int) self = true ∧ wt < (L.count true : Int)
    · have hb := hc.1
      rw [hasBit_bits h.len, Bool.and_eq_true, decide_eq_true_eq] at hb
      obtain ⟨k, rfl⟩ := Int.eq_ofNat_of_zero_le hb.1.1
      rw [Int.toNat_natCast] at hb
      obtain ⟨k1, k2, k5, k6⟩ := retire_yes h hm (wt := wt) k hb.2 hc.2
      exact ⟨3, _, _, L.set k false, k, rfl, rfl, ⟨k5, k6⟩, h.set k1 k2 false, .inr (.inr ⟨rfl, rfl, .inl ⟨k, rfl, rfl, by omega, hb.2, hc.2, rfl, rfl⟩⟩)⟩
    · obtain ⟨k5, k6⟩ := retire_no h (wt := wt) self hc
      exact ⟨2, _, _, L, -1, rfl, rfl, ⟨k5, k6⟩, h, .inr (.inr ⟨rfl, rfl, .inr ⟨hc, rfl, rfl, rfl⟩⟩)⟩
/-- Blocks that are not these may change. -/
theorem SpW.apart {w0 w w' : World} {mb : MB} {b : Nat} {m sz : Int} {l : List Int} {wt on : Int} {ops : List (Option (Nat × OS))} (h : SpW w0 w mb b m sz l wt on ops) {S : Nat → Prop} (hk : Kept S w w') (h1 : ∀ i, S i → ¬ mb.has i ∧ w0.heap.size ≤ i) (h2 : ∀ (k o : Nat) (q : OS), ops[k]? = some (some (o, q)) → ¬ S o) : SpW w0 w' mb b m sz l wt on ops where
  mach := h.mach.kept hk (fun k hk e => (h1 k e).1 hk)
  op k o q e := by
    obtain ⟨g1, g2, g3⟩ := h.op k o q e
    exact ⟨g1.kept hk (h2 k o q e), g2, g3⟩
  dist := h.dist
  tab := h.tab.kept hk (fun e => by have := (h1 0 e).2; have := h.pos; omega)
  mbw := h.mbw
  bel := h.bel.trans (hk.below h.bel.size (fun i e => (h1 i e).2))
  pos := h.pos
  right := h.right
/-- What SpareAlone keeps: beside a machine and the last operation a row of sixteen. -/
structure AlO (W w : World) (mb : MB) (bS bI b m : Nat) (wt : Int) (L R : List Bool) (x : Option (Nat × OS)) : Prop where
  rs : RsO W w mb bS b m wt L x
  row : Blk w bI 83 (bvs R)
  nb : ¬ mb.has bI
  ne : ∀ o q, x = some (o, q) → o ≠ bI
  far : bI ≠ bS
  old : W.heap.size ≤ bI
section
variable {W w w' : World} {mb : MB} {bS bI b m : Nat} {wt : Int} {L R : List Bool} {x : Option (Nat × OS)} {o : Nat} {q : OS}
theorem AlO.below (h : AlO W w mb bS bI b m wt L R x) (hb : Below w.heap.size w w') : AlO W w' mb bS bI b m wt L R x :=
  ⟨h.rs.below hb, h.row.below hb h.row.lt, h.nb, h.ne, h.far, h.old⟩
theorem AlO.free (h : AlO W w mb bS bI b m wt L R x) : AlO W w mb bS bI b m wt L R none :=
  ⟨h.rs.free, h.row, h.nb, (fun _ _ e => by cases e), h.far, h.old⟩
theorem AlO.store (h : AlO W w mb bS bI b m wt L R x) (k : Nat) (v : Bool) : AlO W (w.setCell ⟨bI, k, none⟩ (.bool v)) mb bS bI b m wt L (R.set k v) x := by
  have hk : Kept (fun i => i = bI) w (w.setCell ⟨bI, k, none⟩ (.bool v)) := (Kept.refl (fun i => i = bI) w).setCell (p := ⟨bI, k, none⟩) (.inl rfl) _
  obtain ⟨l, hl, hs⟩ := h.rs.sp
  refine ⟨⟨⟨l, hl, hs.apart hk (fun i e => by subst e; exact ⟨h.nb, h.old⟩) (fun j o q e e2 => ?_)⟩, h.rs.bs.kept hk (fun e => h.far e.symm), h.rs.nb, h.rs.ne, h.rs.inl⟩, ?_, h.nb, h.ne, h.far, h.old⟩
  · match j, e with
    | 0, e => exact h.ne o q (by simpa using e) e2
    | j + 1, e => simp at e
  · have := h.row.set k (.bool v)
    simpa [bvs] using this
theorem AlO.begin (h : AlO W w mb bS bI b m wt L R x) (self dv : Int) (kd : Nat) (hk3 : kd < 3) (hk : (wrap64 (dv.tmod 3 + 3)).tmod 3 = (kd : Int)) :
    Calls Tryd.prog 27 #[.agg #[.int .i64 0, .int .i64 b, .int .i64 m], .int .i64 dv, .int .i64 self] w fun e w' => ∃ o, e = .returned (.pointer (some ⟨o, 0, none⟩)) ∧ AlO W w' mb bS bI b m wt L R (some (o, begQ kd self)) := by
  refine (begin_ok b m self dv kd hk3 hk w).mono ?_
  rintro e w' ⟨o, he, ho, hq, hb⟩
  exact ⟨o, he, h.rs.lay hb ho hq, h.row.below hb h.row.lt, h.nb, (fun o1 q1 e => by cases e; have := h.row.lt; omega), h.far, h.old⟩
theorem AlO.run (h : AlO W w mb bS bI b m wt L R (some (o, q))) {n : Nat} {wt' : Int} {L' : List Bool} {q' : OS} (hr : itP b m n ⟨wt, bitsNat L, q⟩ = ⟨wt', (bitsNat L' : Nat), q'⟩ ∧ Runs b m ⟨wt, bitsNat L, q⟩ n) (hi : InL b m L') (i : Int) (g : 0 ≤ i ∧ i < 4) (v : Int) (hv : (n : Int) = v) :
    Calls Tryd.prog 43 #[.pointer (some ⟨mb.p, 0, none⟩), .pointer (some ⟨o, 0, none⟩), .int .i64 i] w fun e w' => e = .returned (.int .i64 v) ∧ AlO W w' mb bS bI b m wt' L' R (some (o, q')) := by
  refine (h.rs.run hr hi i g v hv).mono ?_
  rintro e w' ⟨he, hw, hk⟩
  refine ⟨he, hw, h.row.kept hk ?_, h.nb, (fun o1 q1 e => by cases e; exact h.ne o q rfl), h.far, h.old⟩
  rintro (e | e)
  · exact h.nb e
  · exact h.ne o q rfl e.symm
theorem AlO.step_end (h : AlO W w mb bS bI b m wt L R (some (o, q))) (hz : q.ph = 0) (i : Int) :
    Calls Tryd.prog 25 #[.pointer (some ⟨o, 0, none⟩), .pointer (some ⟨mb.p, 0, none⟩), .int .i64 i] w fun e w' => e = .returned (.tuple #[.bool true, .int .i64 0]) ∧ AlO W w' mb bS bI b m wt L R (some (o, q)) := by
  refine (h.rs.step_end hz i).mono ?_
  rintro e w' ⟨he, _, hb⟩
  exact ⟨he, h.below hb⟩
theorem AlO.blocked (h : AlO W w mb bS bI b m wt L R x) :
    Calls Tryd.prog 30 #[.agg #[.int .i64 0, .int .i64 b, .int .i64 m], .pointer (some ⟨mb.p, 0, none⟩)] w fun e w' => e = .returned (.int .i64 wt) ∧ AlO W w' mb bS bI b m wt L R x := by
  refine h.rs.blocked.mono ?_
  rintro e w' ⟨he, _, hb⟩
  exact ⟨he, h.below hb⟩
theorem AlO.isOn (h : AlO W w mb bS bI b m wt L R x) (j : Nat) (hj : j < 16) (v : Bool) (hv : (decide (j < b) || L.getD j false) = v) :
    Calls Tryd.prog 29 #[.agg #[.int .i64 0, .int .i64 b, .int .i64 m], .pointer (some ⟨mb.p, 0, none⟩), .int .i64 j] w fun e w' => e = .returned (.bool v) ∧ AlO W w' mb bS bI b m wt L R x := by
  subst hv
  refine (h.rs.isOn j hj).mono ?_
  rintro e w' ⟨he, _, hb⟩
  exact ⟨he, h.below hb⟩
theorem AlO.cell (h : AlO W w mb bS bI b m wt L R x) (hl : R.length = 16) {j : Nat} (hj : j < 16) {v : Bool} (hv : R.getD j false = v) : w.cell? ⟨bI, j, none⟩ = some (.bool v) := by
  rw [h.row.cell j, bvs, List.getElem?_map, getD_getElem? (by omega), hv]
  rfl
theorem AlO.first (h : RsO W w mb bS b m 0 (gapL b b) none) (hb : b ≤ 16) : AlO W (w.alloc (.cells (bvs (List.replicate 16 false)).toArray 83)) mb bS w.heap.size b m 0 (gapL b b) (gapL b b) none := by
  have e : List.replicate 16 false = gapL b b := by
    refine list16_ext (by simp) (length_gapL _ _) fun j => ?_
    rw [gapL_getD _ _ _ hb, decide_eq_false (by omega), List.getD_eq_getElem?_getD, List.getElem?_replicate]
    split <;> rfl
  rw [e]
  have hlt := h.bs.lt
  refine ⟨h.below ((Below.refl _ _).alloc (Nat.le_refl _) _), Blk.new w 83 (bvs (gapL b b)), ?_, (fun _ _ e => by cases e), by omega, h.bel.size⟩
  obtain ⟨l, hl, hs⟩ := h.sp
  exact fun e => by have := hs.mach.lt _ e; omega
end
end Go.Proofs.YtkilghhknimolaaDoor
