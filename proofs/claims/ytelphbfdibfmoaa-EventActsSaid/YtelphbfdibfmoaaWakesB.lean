/-
  WHAT IS PROVED HERE: EventWakes' start: the machine of two cells and seven callers, its event, the place of the things; the six waits as they are made one after another.
-/
import Derived.Test.YtelphbfdibfmoaaWakesA
namespace Go.Proofs.Ytelphbfdibfmoaa
open Go.RowKit

theorem w_start {p s : Nat} (w1 : World) (hm1 : MachP w1 ⟨p, p, s⟩ (MS.fresh 2 6)) :
    Calls Try.prog 32 #[.pointer (some ⟨p, 0, none⟩), .int .i64 6] w1 fun e w2 => ∃ c,
      e = .returned (.tuple #[.agg #[.int .i64 0], .int .i64 0]) ∧ Kept (⟨p, p, s⟩ : MB).has w1 w2 ∧ w1.heap.size ≤ c ∧ MachP w2 ⟨p, c, s⟩ (((MS.fresh 2 6).did 6).more 1) := by
  refine (evnew_ok ⟨p, p, s⟩ (MS.fresh 2 6) 6 w1 hm1 rfl (by decide) (by decide)).mono ?_
  rintro e w2 ⟨rfl, hk, c, hc, hm2⟩
  exact ⟨c, rfl, hk, hc, hm2⟩
theorem w_room {p c s : Nat} (w1 : World) (hm1 : MachP w1 ⟨p, c, s⟩ (((MS.fresh 2 6).did 6).more 1)) :
    Calls Try.prog 24 #[.pointer (some ⟨p, 0, none⟩), .int .i64 6, .int .i64 1] w1 fun e w2 => ∃ c',
      e = .returned (.tuple #[.int .i64 1, .int .i64 0]) ∧ Kept (⟨p, c, s⟩ : MB).has w1 w2 ∧ w1.heap.size ≤ c' ∧ MachP w2 ⟨p, c', s⟩ ((((MS.fresh 2 6).did 6).more 1 |>.did 6).more 1) := by
  refine (alloc_okI ⟨p, c, s⟩ _ 6 1 w1 hm1 rfl (by decide) (by decide) (by decide)).mono ?_
  rintro e w2 ⟨rfl, hk, c', hc, hm2⟩
  exact ⟨c', rfl, hk, hc, hm2⟩
theorem w_room_st : WkSt 0 0 ((((MS.fresh 2 6).did 6).more 1 |>.did 6).more 1) := by
  refine ⟨by simp [MS.fresh, MS.did, MS.more], by simp [MS.fresh, MS.did, MS.more], ?_, ?_⟩ <;> simp [MS.cellOf, MS.fresh, MS.did, MS.more]

/-- Where the blocks lie, but the waits. -/
structure WkO (W0 : World) (mb : MB) (vb nb sb wb : Nat) : Prop where
  o1 : W0.heap.size ≤ mb.p
  o2 : W0.heap.size ≤ mb.s
  o3 : mb.p < vb
  o4 : mb.s < vb
  o6 : vb < mb.c
  o7 : mb.c < nb
  o8 : nb < sb
  o9 : sb < wb

/-- While the waits are made: those of the list l are. -/
structure WkF (W0 w : World) (mb : MB) (vb nb sb wb : Nat) (l : List Nat) : Prop where
  st : ∃ st, MachP w mb st ∧ WkSt 0 0 st
  ev : Blk w vb 62 [.int .i64 0]
  nx : Blk w nb 85 (ints [0, 0, 0, 0, 0, 0])
  sw : Blk w sb 86 (ints [0, 0, 0, 0, 0, 0])
  wp : Blk w wb 65 (l.map ptrv ++ List.replicate (6 - l.length) (.pointer none))
  wt : ∀ j, j < l.length → WaitB w (l.getD j 0) 0 0 0
  gt : ∀ j, j < l.length → wb < l.getD j 0
  inc : ∀ i j, i < j → j < l.length → l.getD i 0 < l.getD j 0
  bel : Below W0.heap.size W0 w

section
variable {W0 w w' : World} {mb : MB} {vb nb sb wb : Nat} {l : List Nat}
theorem WkF.below (h : WkF W0 w mb vb nb sb wb l) (hb : Below w.heap.size w w') : WkF W0 w' mb vb nb sb wb l := by
  obtain ⟨st, hm, hs⟩ := h.st
  exact ⟨⟨st, hm.kept (Kept.of_below (S := fun _ => False) hb) (fun _ _ f => f), hs⟩, h.ev.below hb h.ev.lt, h.nx.below hb h.nx.lt, h.sw.below hb h.sw.lt, h.wp.below hb h.wp.lt, fun j hj => Blk.below (h.wt j hj) hb (Blk.lt (h.wt j hj)), h.gt, h.inc, h.bel.trans (hb.mono h.bel.size)⟩
theorem getD_app (l : List Nat) (x j : Nat) : (l ++ [x]).getD j 0 = if j < l.length then l.getD j 0 else if j = l.length then x else 0 := by
  by_cases h : j < l.length
  · simp [List.getD, h, List.getElem?_append_left]
  · by_cases e : j = l.length
    · subst e; simp [List.getD]
    · rw [if_neg h, if_neg e]
      simp [List.getD, List.getElem?_append, h, show ¬ j - l.length = 0 by omega]
theorem WkF.push (h : WkF W0 w mb vb nb sb wb l) (g : WkO W0 mb vb nb sb wb) (hl : l.length < 6) {x : Nat} (hx : WaitB w x 0 0 0) (hxb : wb < x) (hxl : ∀ j, j < l.length → l.getD j 0 < x) : WkF W0 (w.setCell ⟨wb, l.length, none⟩ (ptrv x)) mb vb nb sb wb (l ++ [x]) := by
  have o1 := g.o1; have o2 := g.o2; have o3 := g.o3; have o4 := g.o4; have o6 := g.o6; have o7 := g.o7; have o8 := g.o8; have o9 := g.o9
  obtain ⟨st, hm, hs⟩ := h.st
  have hk : Kept (fun k => k = wb) w (w.setCell ⟨wb, l.length, none⟩ (ptrv x)) := (Kept.refl (fun k => k = wb) w).setCell (.inl rfl) _
  have hnb : ∀ k, mb.has k → k < wb := fun k hk => by rcases MB.has3 hk with e | e | e <;> omega
  refine ⟨⟨st, hm.kept hk (fun k h1 h2 => by have := hnb k h1; omega), hs⟩, h.ev.setOther (by show vb ≠ wb; omega) _, h.nx.setOther (by show nb ≠ wb; omega) _, h.sw.setOther (by show sb ≠ wb; omega) _, ?_, ?_, ?_, ?_, h.bel.trans (hk.below h.bel.size (fun k e => by omega))⟩
  · have := h.wp.set l.length (ptrv x)
    rw [show (l ++ [x]).map ptrv ++ List.replicate (6 - (l ++ [x]).length) (Value.pointer none) = (l.map ptrv ++ List.replicate (6 - l.length) (Value.pointer none)).set l.length (ptrv x) by
      rw [show 6 - l.length = (6 - (l ++ [x]).length) + 1 by simp; omega, List.replicate_succ]
      rw [List.set_append_right _ _ (by simp)]
      simp]
    exact this
  · intro j hj
    rw [getD_app]
    have hj' : j < l.length + 1 := by simpa using hj
    by_cases e : j < l.length
    · rw [if_pos e]
      have := h.gt j e
      exact Blk.setOther (h.wt j e) (by show l.getD j 0 ≠ wb; omega) _
    · rw [if_neg e, if_pos (by omega)]
      exact Blk.setOther hx (by show x ≠ wb; omega) _
  · intro j hj
    rw [getD_app]
    have hj' : j < l.length + 1 := by simpa using hj
    by_cases e : j < l.length
    · rw [if_pos e]; exact h.gt j e
    · rw [if_neg e, if_pos (by omega)]; exact hxb
  · intro i j hij hj
    have hj' : j < l.length + 1 := by simpa using hj
    rw [getD_app, getD_app, if_pos (show i < l.length by omega)]
    by_cases e : j < l.length
    · rw [if_pos e]; exact h.inc i j hij e
    · rw [if_neg e, if_pos (by omega)]; exact hxl i (by omega)
theorem WkF.done (h : WkF W0 w mb vb nb sb wb l) (g : WkO W0 mb vb nb sb wb) (hl : l.length = 6) :
    WkG W0 mb vb nb sb wb l ∧ WkW W0 w mb vb nb sb wb l ⟨[0, 0, 0, 0, 0, 0], [0, 0, 0, 0, 0, 0], fun _ => 0, fun _ => 0, 0, 0⟩ := by
  refine ⟨⟨hl, g.o1, g.o2, g.o3, g.o4, g.o6, g.o7, g.o8, g.o9, fun j hj => h.gt j (by omega), ?_⟩, ⟨h.st, h.ev, h.nx, h.sw, ?_, fun j hj => h.wt j (by omega), h.bel⟩⟩
  · intro i j hi hj hij
    by_cases e : i < j
    · have := h.inc i j e (by omega); omega
    · have := h.inc j i (by omega) (by omega); omega
  · have := h.wp
    rw [hl] at this
    simpa using this
end
section
variable {W0 w : World} {mb : MB} {vb nb sb wb : Nat} {l : List Nat}
theorem w_wait (h : WkF W0 w mb vb nb sb wb l) :
    Calls Try.prog 34 #[.agg #[.int .i64 0]] w fun e w' => ∃ x,
      e = .returned (ptrv x) ∧ WkF W0 w' mb vb nb sb wb l ∧ WaitB w' x 0 0 0 ∧ wb < x ∧ (∀ j, j < l.length → l.getD j 0 < x) := by
  refine (wait_any 0 w).mono ?_
  rintro e w' ⟨x, rfl, hw, hb, hx⟩
  have hlt := h.wp.lt
  exact ⟨x, rfl, h.below hb, hw, by omega, fun j hj => by have := Blk.lt (h.wt j hj); omega⟩
end
end Go.Proofs.Ytelphbfdibfmoaa
