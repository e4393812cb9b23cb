/-
  WHAT IS PROVED HERE: what EventWakes keeps in memory (the machine, the event's variable, the arrays next and saw, the slice of the six waits), and its calls in these words. Conditions: the blocks lie in the order of their making.
-/
import Derived.Test.YtelphbfdibfmoaaEventC
import Derived.Test.YtelphbfdibfmoaaLaw11A
import Derived.Test.YtelphbfdibfmoaaWakesPlain
namespace Go.Proofs.Ytelphbfdibfmoaa
open Go.RowKit

def ptrv (x : Nat) : Value := .pointer (some ⟨x, 0, none⟩)

/-- Where the blocks lie. -/
structure WkG (W0 : World) (mb : MB) (vb nb sb wb : Nat) (l : List Nat) : Prop where
  len : l.length = 6
  o1 : W0.heap.size ≤ mb.p
  o2 : W0.heap.size ≤ mb.s
  o3 : mb.p < vb
  o4 : mb.s < vb
  o6 : vb < mb.c
  o7 : mb.c < nb
  o8 : nb < sb
  o9 : sb < wb
  o10 : ∀ j, j < 6 → wb < l.getD j 0
  o11 : ∀ i j, i < 6 → j < 6 → i ≠ j → l.getD i 0 ≠ l.getD j 0

def WkSt (e c : Int) (st : MS) : Prop := st.steps.length = 7 ∧ st.cells.length = 2 ∧ st.cellOf 0 = e ∧ st.cellOf 1 = c
theorem WkSt.caller {e c : Int} {st : MS} (h : WkSt e c st) {i : Int} (h0 : 0 ≤ i) (h1 : i ≤ 6) : st.isCaller i = true := by
  obtain ⟨h2, _⟩ := h
  simp [MS.isCaller]; omega
theorem WkSt.given {e c : Int} {st : MS} (h : WkSt e c st) {i : Int} (h0 : 0 ≤ i) (h1 : i ≤ 1) : st.isGiven i = true := by
  obtain ⟨_, h2, _⟩ := h
  simp [MS.isGiven]; omega
theorem WkSt.did {e c : Int} {st : MS} (h : WkSt e c st) (i : Int) : WkSt e c (st.did i) := ⟨by simp [MS.did, h.1], h.2.1, h.2.2.1, h.2.2.2⟩
theorem WkSt.put0 {e c : Int} {st : MS} (h : WkSt e c st) (x : Int) : WkSt x c (st.putAt 0 x) := by
  refine ⟨by simp [MS.putAt, h.1], by simp [MS.putAt, h.2.1], cellOf_put_same _ _ _ (h.given (by omega) (by omega)), ?_⟩
  rw [cellOf_put_other _ _ _ _ (by omega) (h.given (by omega) (by omega))]; exact h.2.2.2
theorem WkSt.put1 {e c : Int} {st : MS} (h : WkSt e c st) (x : Int) : WkSt e x (st.putAt 1 x) := by
  refine ⟨by simp [MS.putAt, h.1], by simp [MS.putAt, h.2.1], ?_, cellOf_put_same _ _ _ (h.given (by omega) (by omega))⟩
  rw [cellOf_put_other _ _ _ _ (by omega) (h.given (by omega) (by omega))]; exact h.2.2.1
theorem WkSt.parked {e c : Int} {st : MS} (h : WkSt e c st) (seen : Int) : st.parked 0 seen = (e == seen) := by
  unfold MS.parked; rw [h.given (by omega) (by omega), h.2.2.1]; simp

structure WkW (W0 w : World) (mb : MB) (vb nb sb wb : Nat) (l : List Nat) (q : WS) : Prop where
  st : ∃ st, MachP w mb st ∧ WkSt q.e q.c st
  ev : Blk w vb 62 [.int .i64 0]
  nx : Blk w nb 85 (ints q.nx)
  sw : Blk w sb 86 (ints q.sw)
  wp : Blk w wb 65 (l.map ptrv)
  wt : ∀ j, j < 6 → WaitB w (l.getD j 0) 0 (q.how j) (q.seen j)
  bel : Below W0.heap.size W0 w

section
variable {W0 w w' : World} {mb : MB} {vb nb sb wb : Nat} {l : List Nat} {q : WS}
theorem MB.has3 {k : Nat} (h : mb.has k) : k = mb.p ∨ k = mb.c ∨ k = mb.s := h
theorem WkG.from_ (g : WkG W0 mb vb nb sb wb l) : mb.from_ W0.heap.size := ⟨g.o1, by have := g.o1; have := g.o3; have := g.o6; omega, g.o2⟩
theorem WkG.nhas (g : WkG W0 mb vb nb sb wb l) {k : Nat} (h : k = vb ∨ nb ≤ k) : ¬ mb.has k := by
  have := g.o3; have := g.o4; have := g.o6; have := g.o7
  intro e
  rcases MB.has3 e with e | e | e <;> omega
theorem WkG.wge (g : WkG W0 mb vb nb sb wb l) {j : Nat} (hj : j < 6) : nb ≤ l.getD j 0 := by
  have := g.o8; have := g.o9; have := g.o10 j hj; omega
theorem WkW.below (h : WkW W0 w mb vb nb sb wb l q) (hb : Below w.heap.size w w') : WkW W0 w' mb vb nb sb wb l q := by
  obtain ⟨st, hm, hs⟩ := h.st
  exact ⟨⟨st, hm.kept (Kept.of_below (S := fun _ => False) hb) (fun _ _ f => f), hs⟩, h.ev.below hb h.ev.lt, h.nx.below hb h.nx.lt, h.sw.below hb h.sw.lt, h.wp.below hb h.wp.lt, fun j hj => Blk.below (h.wt j hj) hb (Blk.lt (h.wt j hj)), h.bel.trans (hb.mono h.bel.size)⟩
/-- The machine alone changed. -/
theorem WkW.mach (h : WkW W0 w mb vb nb sb wb l q) (g : WkG W0 mb vb nb sb wb l) (hk : Kept mb.has w w') (e' c' : Int) (hm : ∃ st, MachP w' mb st ∧ WkSt e' c' st) : WkW W0 w' mb vb nb sb wb l { q with e := e', c := c' } := by
  have := g.o8; have := g.o9
  exact ⟨hm, h.ev.kept hk (g.nhas (.inl rfl)), h.nx.kept hk (g.nhas (.inr (by omega))), h.sw.kept hk (g.nhas (.inr (by omega))), h.wp.kept hk (g.nhas (.inr (by omega))),
    fun j hj => Blk.kept (h.wt j hj) hk (g.nhas (.inr (g.wge hj))), h.bel.trans (hk.under g.from_ h.bel.size)⟩
/-- One of the waits changed, and perhaps the machine. -/
theorem WkW.wait (h : WkW W0 w mb vb nb sb wb l q) (g : WkG W0 mb vb nb sb wb l) {j : Nat} (hj : j < 6) {S : Nat → Prop} (hk : Kept S w w') (hS : ∀ k, S k → mb.has k ∨ k = l.getD j 0) (hm : ∃ st, MachP w' mb st ∧ WkSt q.e q.c st)
    (hw sn : Int) (hx : WaitB w' (l.getD j 0) 0 hw sn) : WkW W0 w' mb vb nb sb wb l { q with how := upd q.how j hw, seen := upd q.seen j sn } := by
  have o3 := g.o3; have o6 := g.o6; have o7 := g.o7; have o8 := g.o8; have o9 := g.o9; have o10 := g.o10 j hj; have o1 := g.o1
  have nS : ∀ k, (k = vb ∨ nb ≤ k) → k ≠ l.getD j 0 → ¬ S k := fun k h1 h2 h3 => (hS k h3).elim (g.nhas h1) h2
  refine ⟨hm, h.ev.kept hk (nS _ (.inl rfl) (by omega)), h.nx.kept hk (nS _ (.inr (by omega)) (by omega)), h.sw.kept hk (nS _ (.inr (by omega)) (by omega)), h.wp.kept hk (nS _ (.inr (by omega)) (by omega)), ?_, ?_⟩
  · intro i hi
    by_cases e : i = j
    · subst e; simpa [upd] using hx
    · have : WaitB w' (l.getD i 0) 0 (q.how i) (q.seen i) := Blk.kept (h.wt i hi) hk (nS _ (.inr (g.wge hi)) (g.o11 i j hi hj e))
      simpa [upd, e] using this
  · refine h.bel.trans (hk.below h.bel.size (fun k e => (hS k e).elim (MB.from_has g.from_ k) (fun e => by omega)))
theorem WkW.setnx (h : WkW W0 w mb vb nb sb wb l q) (g : WkG W0 mb vb nb sb wb l) (j : Nat) (v : Int) : WkW W0 (w.setCell ⟨nb, j, none⟩ (.int .i64 v)) mb vb nb sb wb l { q with nx := q.nx.set j v } := by
  have o3 := g.o3; have o6 := g.o6; have o7 := g.o7; have o8 := g.o8; have o9 := g.o9; have o1 := g.o1
  obtain ⟨st, hm, hs⟩ := h.st
  have hk : Kept (fun k => k = nb) w (w.setCell ⟨nb, j, none⟩ (.int .i64 v)) := (Kept.refl (fun k => k = nb) w).setCell (.inl rfl) _
  refine ⟨⟨st, hm.kept hk (fun k h1 h2 => g.nhas (.inr (by omega)) h1), hs⟩, h.ev.setOther (by show vb ≠ nb; omega) _, by rw [show ints (q.nx.set j v) = (ints q.nx).set j (.int .i64 v) from (set_ints _ _ _).symm]; exact h.nx.set j _, h.sw.setOther (by show sb ≠ nb; omega) _, h.wp.setOther (by show wb ≠ nb; omega) _, ?_, h.bel.trans (hk.below h.bel.size (fun k e => by omega))⟩
  intro i hi
  have := g.o10 i hi
  exact Blk.setOther (h.wt i hi) (by show l.getD i 0 ≠ nb; omega) _
theorem WkW.setsw (h : WkW W0 w mb vb nb sb wb l q) (g : WkG W0 mb vb nb sb wb l) (j : Nat) (v : Int) : WkW W0 (w.setCell ⟨sb, j, none⟩ (.int .i64 v)) mb vb nb sb wb l { q with sw := q.sw.set j v } := by
  have o3 := g.o3; have o6 := g.o6; have o7 := g.o7; have o8 := g.o8; have o9 := g.o9; have o1 := g.o1
  obtain ⟨st, hm, hs⟩ := h.st
  have hk : Kept (fun k => k = sb) w (w.setCell ⟨sb, j, none⟩ (.int .i64 v)) := (Kept.refl (fun k => k = sb) w).setCell (.inl rfl) _
  refine ⟨⟨st, hm.kept hk (fun k h1 h2 => g.nhas (.inr (by omega)) h1), hs⟩, h.ev.setOther (by show vb ≠ sb; omega) _, h.nx.setOther (by show nb ≠ sb; omega) _, by rw [show ints (q.sw.set j v) = (ints q.sw).set j (.int .i64 v) from (set_ints _ _ _).symm]; exact h.sw.set j _, h.wp.setOther (by show wb ≠ sb; omega) _, ?_, h.bel.trans (hk.below h.bel.size (fun k e => by omega))⟩
  intro i hi
  have := g.o10 i hi
  exact Blk.setOther (h.wt i hi) (by show l.getD i 0 ≠ sb; omega) _
end

section
variable {W0 w : World} {mb : MB} {vb nb sb wb : Nat} {l : List Nat} {q : WS}
theorem w_add (h : WkW W0 w mb vb nb sb wb l q) (g : WkG W0 mb vb nb sb wb l) (i : Int) (h0 : 0 ≤ i) (h1 : i ≤ 6) (hc0 : 0 ≤ q.c) (hc : q.c ≤ 300) :
    Calls Try.prog 16 #[.pointer (some ⟨mb.p, 0, none⟩), .int .i64 i, .int .i64 1, .int .i64 1] w fun e w' =>
      e = .returned (.tuple #[.int .i64 q.c, .int .i64 0]) ∧ WkW W0 w' mb vb nb sb wb l { q with c := q.c + 1 } := by
  obtain ⟨st, hm, hs⟩ := h.st
  refine (add_v mb st i 1 1 q.c w hm (hs.caller h0 h1) (hs.given (by omega) (by omega)) hs.2.2.2).mono ?_
  rintro e w' ⟨rfl, hm', hk⟩
  rw [show wrap64 (q.c + 1) = q.c + 1 by unfold wrap64; omega] at hm'
  exact ⟨rfl, h.mach g hk q.e _ ⟨_, hm', (hs.did i).put1 _⟩⟩
theorem w_tell (h : WkW W0 w mb vb nb sb wb l q) (g : WkG W0 mb vb nb sb wb l) (i : Int) (h0 : 0 ≤ i) (h1 : i ≤ 6) (hc0 : 0 ≤ q.e) (hc : q.e ≤ 300) :
    Calls Try.prog 37 #[.agg #[.int .i64 0], .pointer (some ⟨mb.p, 0, none⟩), .int .i64 i] w fun e w' =>
      e = .returned (.int .i64 0) ∧ WkW W0 w' mb vb nb sb wb l { q with e := q.e + 1 } := by
  obtain ⟨st, hm, hs⟩ := h.st
  refine (evtell_ok mb st 0 i q.e w hm (hs.caller h0 h1) (hs.given (by omega) (by omega)) hs.2.2.1).mono ?_
  rintro e w' ⟨rfl, hm', hk⟩
  rw [show wrap64 (q.e + 1) = q.e + 1 by unfold wrap64; omega] at hm'
  exact ⟨rfl, h.mach g hk _ q.c ⟨_, hm', (hs.did i).put0 _⟩⟩
theorem w_load (h : WkW W0 w mb vb nb sb wb l q) (g : WkG W0 mb vb nb sb wb l) (i : Int) (h0 : 0 ≤ i) (h1 : i ≤ 6) :
    Calls Try.prog 18 #[.pointer (some ⟨mb.p, 0, none⟩), .int .i64 i, .int .i64 1] w fun e w' =>
      e = .returned (.tuple #[.int .i64 q.c, .int .i64 0]) ∧ WkW W0 w' mb vb nb sb wb l q := by
  obtain ⟨st, hm, hs⟩ := h.st
  refine (load_v mb st i 1 q.c w hm (hs.caller h0 h1) (hs.given (by omega) (by omega)) hs.2.2.2).mono ?_
  rintro e w' ⟨rfl, hm', hk⟩
  exact ⟨rfl, h.mach g hk q.e q.c ⟨_, hm', hs.did i⟩⟩
theorem w_cas (h : WkW W0 w mb vb nb sb wb l q) (g : WkG W0 mb vb nb sb wb l) (i old x : Int) (h0 : 0 ≤ i) (h1 : i ≤ 6) :
    Calls Try.prog 26 #[.pointer (some ⟨mb.p, 0, none⟩), .int .i64 i, .int .i64 1, .int .i64 old, .int .i64 x] w fun e w' =>
      ∃ b c', e = .returned (.tuple #[.bool b, .int .i64 0]) ∧ (c' = q.c ∨ (q.c = old ∧ c' = x)) ∧ WkW W0 w' mb vb nb sb wb l { q with c := c' } := by
  obtain ⟨st, hm, hs⟩ := h.st
  by_cases e : q.c = old
  · refine (cas_hit mb st i 1 old x w hm (hs.caller h0 h1) (hs.given (by omega) (by omega)) (hs.2.2.2.trans e)).mono ?_
    rintro e' w' ⟨rfl, hm', hk⟩
    exact ⟨_, x, rfl, .inr ⟨e, rfl⟩, h.mach g hk q.e _ ⟨_, hm', (hs.did i).put1 _⟩⟩
  · refine (cas_miss mb st i 1 old x w hm (hs.caller h0 h1) (hs.given (by omega) (by omega)) (fun e' => e (hs.2.2.2.symm.trans e'))).mono ?_
    rintro e' w' ⟨rfl, hm', hk⟩
    exact ⟨_, q.c, rfl, .inl rfl, h.mach g hk q.e _ ⟨_, hm', hs.did i⟩⟩
theorem w_ready (h : WkW W0 w mb vb nb sb wb l q) (g : WkG W0 mb vb nb sb wb l) {j : Nat} (hj : j < 6) (i : Int) (h0 : 0 ≤ i) (h1 : i ≤ 6) :
    Calls Try.prog 35 #[.pointer (some ⟨l.getD j 0, 0, none⟩), .pointer (some ⟨mb.p, 0, none⟩), .int .i64 i] w fun e w' =>
      e = .returned (.int .i64 0) ∧ WkW W0 w' mb vb nb sb wb l { q with how := upd q.how j 1, seen := upd q.seen j q.e } := by
  obtain ⟨st, hm, hs⟩ := h.st
  refine (ready_ok mb st _ 0 _ _ i q.e w hm (h.wt j hj) (g.nhas (.inr (g.wge hj))) (hs.caller h0 h1) (hs.given (by omega) (by omega)) hs.2.2.1).mono ?_
  rintro e w' ⟨rfl, hm', hw', hk⟩
  exact ⟨rfl, h.wait g hj hk (fun _ e => e) ⟨_, hm', hs.did i⟩ _ _ hw'⟩
theorem w_park (h : WkW W0 w mb vb nb sb wb l q) (g : WkG W0 mb vb nb sb wb l) {j : Nat} (hj : j < 6) (hh : q.how j = 1) :
    Calls Try.prog 36 #[.pointer (some ⟨l.getD j 0, 0, none⟩)] w fun e w' =>
      e = .returned (.int .i64 0) ∧ WkW W0 w' mb vb nb sb wb l { q with how := upd q.how j 2, seen := upd q.seen j (q.seen j) } := by
  obtain ⟨st, hm, hs⟩ := h.st
  have hw := h.wt j hj
  rw [hh] at hw
  refine (park_ok _ 0 _ w hw).mono ?_
  rintro e w' ⟨rfl, hw', hk⟩
  exact ⟨rfl, h.wait g hj hk (fun _ e => .inr e) ⟨_, hm.kept hk (fun k h1 h2 => g.nhas (.inr (g.wge hj)) (h2 ▸ h1)), hs⟩ _ _ hw'⟩
theorem w_leave (h : WkW W0 w mb vb nb sb wb l q) (g : WkG W0 mb vb nb sb wb l) {j : Nat} (hj : j < 6) :
    Calls Try.prog 40 #[.pointer (some ⟨l.getD j 0, 0, none⟩)] w fun e w' =>
      e = .returned (.tuple #[]) ∧ WkW W0 w' mb vb nb sb wb l { q with how := upd q.how j 0, seen := upd q.seen j (q.seen j) } := by
  obtain ⟨st, hm, hs⟩ := h.st
  refine (leave_any _ 0 _ _ w (h.wt j hj)).mono ?_
  rintro e w' ⟨rfl, hw', hk⟩
  exact ⟨rfl, h.wait g hj hk (fun _ e => .inr e) ⟨_, hm.kept hk (fun k h1 h2 => g.nhas (.inr (g.wge hj)) (h2 ▸ h1)), hs⟩ _ _ hw'⟩
theorem w_parked (h : WkW W0 w mb vb nb sb wb l q) {j : Nat} (hj : j < 6) (b : Bool) (hb : (q.how j == 2 && (q.e == q.seen j)) = b) :
    Calls Try.prog 38 #[.pointer (some ⟨l.getD j 0, 0, none⟩), .pointer (some ⟨mb.p, 0, none⟩)] w fun e w' =>
      e = .returned (.bool b) ∧ WkW W0 w' mb vb nb sb wb l q := by
  obtain ⟨st, hm, hs⟩ := h.st
  refine (wparked_v mb st _ 0 _ _ b w hm (h.wt j hj) (by rw [hs.parked]; exact hb)).mono ?_
  rintro e w' ⟨rfl, hk⟩
  exact ⟨rfl, h.below hk⟩
theorem w_peek (h : WkW W0 w mb vb nb sb wb l q) :
    Calls Try.prog 17 #[.pointer (some ⟨mb.p, 0, none⟩), .int .i64 1] w fun e w' => e = .returned (.int .i64 q.c) ∧ w = w' := by
  obtain ⟨st, hm, hs⟩ := h.st
  have := peek_any mb st 1 w hm
  rw [hs.2.2.2] at this
  exact this
end
end Go.Proofs.Ytelphbfdibfmoaa
