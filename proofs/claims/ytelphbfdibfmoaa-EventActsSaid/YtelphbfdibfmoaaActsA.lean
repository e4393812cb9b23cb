/-
  WHAT IS PROVED HERE: what EventActs keeps in memory (the machine, the three events, waits, the reference's waits, the told numbers), and its calls in these words. Conditions: the blocks are different ones.
-/
import Derived.Test.YtelphbfdibfmoaaWakesC
namespace Go.Proofs.Ytelphbfdibfmoaa
open Go.RowKit

/-- The machine's cells; what is told; how each wait stands, what each saw; the same of the reference's waits; how many operations were done. -/
structure AS where
  mc : List Int
  told : List Int
  hw : Nat → Int
  sn : Nat → Int
  rh : Nat → Int
  rs : Nat → Int
  did : Int

structure AOk (q : AS) (k : Nat) : Prop where
  len : q.told.length = 3
  mc : q.mc = q.told
  rh : ∀ j, j < 3 → q.rh j = q.hw j
  rs : ∀ j, j < 3 → q.rs j = q.sn j
  told : ∀ j, j < 3 → 0 ≤ q.told.getD j 0 ∧ q.told.getD j 0 ≤ k
  did : 0 ≤ q.did ∧ q.did ≤ 3 + k
theorem AOk.mono {q : AS} {k k' : Nat} (h : AOk q k) (hk : k ≤ k') : AOk q k' :=
  ⟨h.len, h.mc, h.rh, h.rs, fun j hj => by have := h.told j hj; omega, by have := h.did; omega⟩

/-- The blocks, all different: 0 the machine, 1 its steps, 2 its cells, 3 the events, 4 the waits' pointers, 5 the reference's, 6 the told numbers, 7 to 9 the waits, 10 to 12 the reference's. -/
structure AcG (W0 : World) (f : Nat → Nat) : Prop where
  ge : ∀ i, i < 13 → W0.heap.size ≤ f i
  inj : ∀ i j, i < 13 → j < 13 → f i = f j → i = j
def acM (f : Nat → Nat) : MB := ⟨f 0, f 2, f 1⟩

def AcSt (mc : List Int) (did : Int) (st : MS) : Prop := st.steps.length = 3 ∧ st.cells.length = 3 ∧ st.size = 3 ∧ (∀ j : Nat, j < 3 → st.cellOf j = mc.getD j 0) ∧
  (∀ j : Nat, j < 3 → 0 ≤ st.stepsOf j) ∧ st.stepsOf 0 + st.stepsOf 1 + st.stepsOf 2 = did

structure AcW (W0 w : World) (f : Nat → Nat) (q : AS) : Prop where
  st : ∃ st, MachP w (acM f) st ∧ AcSt q.mc q.did st
  ev : Blk w (f 3) 62 (ints [0, 1, 2])
  wp : Blk w (f 4) 65 [ptrv (f 7), ptrv (f 8), ptrv (f 9)]
  rp : Blk w (f 5) 76 [ptrv (f 10), ptrv (f 11), ptrv (f 12)]
  tl : Blk w (f 6) 2 (ints q.told)
  wt : ∀ j, j < 3 → WaitB w (f (7 + j)) j (q.hw j) (q.sn j)
  rf : ∀ j, j < 3 → Blk w (f (10 + j)) 78 [.int .i64 (q.rh j), .int .i64 (q.rs j)]
  bel : Below W0.heap.size W0 w

theorem stepsOf_did' (st : MS) (i j : Int) (h : st.isCaller i = true) : (st.did i).stepsOf j = if j = i then wrap64 (st.stepsOf j + 1) else st.stepsOf j := by
  obtain ⟨h0, h1⟩ := MS.isCaller_lt h
  unfold MS.stepsOf
  by_cases hj : 0 ≤ j ∧ j < st.steps.length
  · rw [if_pos (by simpa [MS.did] using hj), if_pos hj]
    by_cases e : j = i
    · subst e
      simp [MS.did, show j.toNat < st.steps.length by omega]
    · rw [if_neg e]
      simp [MS.did, show ¬ i.toNat = j.toNat by omega]
  · rw [if_neg (by simpa [MS.did] using hj), if_neg hj, if_neg (by omega)]

/-- Three callers' steps: one more. -/
theorem steps3 {st : MS} {i d : Int} (hc : st.isCaller i = true) (h0 : 0 ≤ i) (h1 : i ≤ 2) (e : ∀ j : Nat, j < 3 → 0 ≤ st.stepsOf j) (g : st.stepsOf 0 + st.stepsOf 1 + st.stepsOf 2 = d) (hd : d ≤ 1000) :
    (∀ j : Nat, j < 3 → 0 ≤ (st.did i).stepsOf j) ∧ (st.did i).stepsOf 0 + (st.did i).stepsOf 1 + (st.did i).stepsOf 2 = d + 1 := by
  have e0 := e 0 (by omega); have e1 := e 1 (by omega); have e2 := e 2 (by omega)
  have w : ∀ x : Int, 0 ≤ x → x ≤ 1000 → wrap64 (x + 1) = x + 1 := fun x _ _ => by unfold wrap64; omega
  simp only [Int.natCast_zero, Int.natCast_one] at e0 e1
  rw [show ((2 : Nat) : Int) = 2 from rfl] at e2
  refine ⟨fun j hj => ?_, ?_⟩
  · rw [stepsOf_did' _ _ _ hc]
    have := e j hj
    split
    · have hx : st.stepsOf j ≤ 1000 := by
        have : j = 0 ∨ j = 1 ∨ j = 2 := by omega
        rcases this with rfl | rfl | rfl
        · show st.stepsOf 0 ≤ _; omega
        · show st.stepsOf 1 ≤ _; omega
        · show st.stepsOf 2 ≤ _; omega
      rw [w _ this hx]; omega
    · exact this
  · rw [stepsOf_did' _ _ _ hc, stepsOf_did' _ _ _ hc, stepsOf_did' _ _ _ hc]
    have : i = 0 ∨ i = 1 ∨ i = 2 := by omega
    rcases this with rfl | rfl | rfl
    · rw [if_pos rfl, if_neg (by omega), if_neg (by omega), w _ e0 (by omega)]; omega
    · rw [if_neg (by omega), if_pos rfl, if_neg (by omega), w _ e1 (by omega)]; omega
    · rw [if_neg (by omega), if_neg (by omega), if_pos rfl, w _ e2 (by omega)]; omega

section
variable {mc : List Int} {dd : Int} {st : MS}
theorem AcSt.caller (h : AcSt mc dd st) {i : Int} (h0 : 0 ≤ i) (h1 : i ≤ 2) : st.isCaller i = true := by
  obtain ⟨h2, _⟩ := h
  simp [MS.isCaller]; omega
theorem AcSt.nocaller (h : AcSt mc dd st) {i : Int} (h0 : ¬ (0 ≤ i ∧ i ≤ 2)) : st.isCaller i = false := by
  obtain ⟨h2, _⟩ := h
  simp [MS.isCaller]; omega
theorem AcSt.given (h : AcSt mc dd st) {i : Int} (h0 : 0 ≤ i) (h1 : i ≤ 2) : st.isGiven i = true := by
  obtain ⟨_, h2, _⟩ := h
  simp [MS.isGiven]; omega
theorem AcSt.did (h : AcSt mc dd st) {i : Int} (h0 : 0 ≤ i) (h1 : i ≤ 2) (hd : dd ≤ 1000) : AcSt mc (dd + 1) (st.did i) := by
  have hc := h.caller h0 h1
  obtain ⟨a, b, c, d, e, g⟩ := h
  obtain ⟨e', g'⟩ := steps3 hc h0 h1 e g hd
  exact ⟨by simp [MS.did, a], b, c, d, e', g'⟩
theorem AcSt.put (h : AcSt mc dd st) (hl : mc.length = 3) {j : Nat} (hj : j < 3) (x : Int) : AcSt (mc.set j x) dd (st.putAt j x) := by
  have hg := h.given (i := (j : Int)) (by omega) (by omega)
  obtain ⟨a, b, c, d, e, g⟩ := h
  refine ⟨by simp [MS.putAt, a], by simp [MS.putAt, b], c, fun i hi => ?_, e, g⟩
  rw [getD_set (by omega)]
  by_cases e' : i = j
  · subst e'; rw [if_pos rfl]; exact cellOf_put_same _ _ _ hg
  · rw [if_neg e', cellOf_put_other _ _ _ _ (by omega) hg]; exact d i hi
theorem AcSt.parked (h : AcSt mc dd st) {j : Nat} (hj : j < 3) (seen : Int) : st.parked j seen = (mc.getD j 0 == seen) := by
  unfold MS.parked; rw [h.given (by omega) (by omega), h.2.2.2.1 j hj]; simp
end

section
variable {W0 w w' : World} {f : Nat → Nat} {q : AS}
theorem AcG.ne (g : AcG W0 f) {i j : Nat} (hi : i < 13) (hj : j < 13) (h : i ≠ j) : f i ≠ f j := fun e => h (g.inj i j hi hj e)
theorem AcG.nhas (g : AcG W0 f) {i : Nat} (h3 : 3 ≤ i) (hi : i < 13) : ¬ (acM f).has (f i) := by
  intro h
  rcases MB.has3 h with e | e | e
  · exact g.ne hi (by omega) (by omega) e
  · exact g.ne hi (by omega) (by omega) e
  · exact g.ne hi (by omega) (by omega) e
theorem AcG.from_ (g : AcG W0 f) : (acM f).from_ W0.heap.size := ⟨g.ge 0 (by omega), g.ge 2 (by omega), g.ge 1 (by omega)⟩
theorem AcW.below (h : AcW W0 w f q) (hb : Below w.heap.size w w') : AcW W0 w' f q := by
  obtain ⟨st, hm, hs⟩ := h.st
  exact ⟨⟨st, hm.kept (Kept.of_below (S := fun _ => False) hb) (fun _ _ f => f), hs⟩, h.ev.below hb h.ev.lt, h.wp.below hb h.wp.lt, h.rp.below hb h.rp.lt, h.tl.below hb h.tl.lt, fun j hj => Blk.below (h.wt j hj) hb (Blk.lt (h.wt j hj)), fun j hj => (h.rf j hj).below hb (h.rf j hj).lt, h.bel.trans (hb.mono h.bel.size)⟩
theorem AcW.drew (h : AcW W0 w f q) : AcW W0 w.drew f q := h.below (below_drewN' (Below.refl _ w) 1)
theorem AcW.drewN (h : AcW W0 w f q) (n : Nat) : AcW W0 (w.drewN n) f q := h.below (below_drewN' (Below.refl _ w) n)
/-- The machine alone changed. -/
theorem AcW.mach (h : AcW W0 w f q) (g : AcG W0 f) (hk : Kept (acM f).has w w') (mc' : List Int) (did' : Int) (hm : ∃ st, MachP w' (acM f) st ∧ AcSt mc' did' st) : AcW W0 w' f { q with mc := mc', did := did' } :=
  ⟨hm, h.ev.kept hk (g.nhas (by omega) (by omega)), h.wp.kept hk (g.nhas (by omega) (by omega)), h.rp.kept hk (g.nhas (by omega) (by omega)), h.tl.kept hk (g.nhas (by omega) (by omega)),
    fun j hj => Blk.kept (h.wt j hj) hk (g.nhas (by omega) (by omega)), fun j hj => (h.rf j hj).kept hk (g.nhas (by omega) (by omega)), h.bel.trans (hk.under g.from_ h.bel.size)⟩
/-- One of the waits changed, and perhaps the machine's steps. -/
theorem AcW.wait (h : AcW W0 w f q) (g : AcG W0 f) {j : Nat} (hj : j < 3) {S : Nat → Prop} (hk : Kept S w w') (hS : ∀ k, S k → (acM f).has k ∨ k = f (7 + j)) (did' : Int) (hm : ∃ st, MachP w' (acM f) st ∧ AcSt q.mc did' st)
    (hw sn : Int) (hx : WaitB w' (f (7 + j)) j hw sn) : AcW W0 w' f { q with hw := upd q.hw j hw, sn := upd q.sn j sn, did := did' } := by
  have nS : ∀ i, 3 ≤ i → i < 13 → i ≠ 7 + j → ¬ S (f i) := fun i h1 h2 h3 h4 => (hS _ h4).elim (g.nhas h1 h2) (g.ne h2 (by omega) h3)
  refine ⟨hm, h.ev.kept hk (nS _ (by omega) (by omega) (by omega)), h.wp.kept hk (nS _ (by omega) (by omega) (by omega)), h.rp.kept hk (nS _ (by omega) (by omega) (by omega)), h.tl.kept hk (nS _ (by omega) (by omega) (by omega)), fun i hi => ?_, fun i hi => (h.rf i hi).kept hk (nS _ (by omega) (by omega) (by omega)), ?_⟩
  · by_cases e : i = j
    · subst e; simpa [upd] using hx
    · have : WaitB w' (f (7 + i)) i (q.hw i) (q.sn i) := Blk.kept (h.wt i hi) hk (nS _ (by omega) (by omega) (by omega))
      simpa [upd, e] using this
  · refine h.bel.trans (hk.below h.bel.size (fun k e => (hS k e).elim (MB.from_has g.from_ k) (fun e => by rw [e]; exact g.ge _ (by omega))))
/-- One of the reference's waits changed. -/
theorem AcW.refw (h : AcW W0 w f q) (g : AcG W0 f) {j : Nat} (hj : j < 3) {S : Nat → Prop} (hk : Kept S w w') (hS : ∀ k, S k → k = f (10 + j))
    (hw sn : Int) (hx : Blk w' (f (10 + j)) 78 [.int .i64 hw, .int .i64 sn]) : AcW W0 w' f { q with rh := upd q.rh j hw, rs := upd q.rs j sn } := by
  have nS : ∀ i, i < 13 → i ≠ 10 + j → ¬ S (f i) := fun i h2 h3 h4 => g.ne h2 (by omega) h3 (hS _ h4)
  obtain ⟨st, hm, hs⟩ := h.st
  refine ⟨⟨st, hm.kept hk (fun k h1 h2 => g.nhas (by omega) (by omega) (hS k h2 ▸ h1)), hs⟩, h.ev.kept hk (nS _ (by omega) (by omega)), h.wp.kept hk (nS _ (by omega) (by omega)), h.rp.kept hk (nS _ (by omega) (by omega)), h.tl.kept hk (nS _ (by omega) (by omega)), fun i hi => Blk.kept (h.wt i hi) hk (nS _ (by omega) (by omega)), fun i hi => ?_, ?_⟩
  · by_cases e : i = j
    · subst e; simpa [upd] using hx
    · have : Blk w' (f (10 + i)) 78 [.int .i64 (q.rh i), .int .i64 (q.rs i)] := (h.rf i hi).kept hk (nS _ (by omega) (by omega))
      simpa [upd, e] using this
  · refine h.bel.trans (hk.below h.bel.size (fun k e => by rw [hS k e]; exact g.ge _ (by omega)))
/-- The told numbers changed. -/
theorem AcW.settold (h : AcW W0 w f q) (g : AcG W0 f) (j : Nat) (v : Int) : AcW W0 (w.setCell ⟨f 6, j, none⟩ (.int .i64 v)) f { q with told := q.told.set j v } := by
  obtain ⟨st, hm, hs⟩ := h.st
  have hk : Kept (fun k => k = f 6) w (w.setCell ⟨f 6, j, none⟩ (.int .i64 v)) := (Kept.refl (fun k => k = f 6) w).setCell (.inl rfl) _
  have n6 : ∀ i, i < 13 → i ≠ 6 → f i ≠ f 6 := fun i h1 h2 => g.ne h1 (by omega) h2
  refine ⟨⟨st, hm.kept hk (fun k h1 h2 => g.nhas (by omega) (by omega) (h2 ▸ h1)), hs⟩, h.ev.kept hk (n6 _ (by omega) (by omega)), h.wp.kept hk (n6 _ (by omega) (by omega)), h.rp.kept hk (n6 _ (by omega) (by omega)), ?_, fun i hi => Blk.kept (h.wt i hi) hk (n6 _ (by omega) (by omega)), fun i hi => (h.rf i hi).kept hk (n6 _ (by omega) (by omega)), ?_⟩
  · rw [show ints (q.told.set j v) = (ints q.told).set j (.int .i64 v) from (set_ints _ _ _).symm]; exact h.tl.set j _
  · exact h.bel.trans (hk.below h.bel.size (fun k e => by rw [e]; exact g.ge _ (by omega)))
end

/-! ## The calls, in these words -/
section
variable {W0 w : World} {f : Nat → Nat} {q : AS}
/-- May caller i call? -/
def okW (i : Int) : Prop := 0 ≤ i ∧ i ≤ 2
theorem a_read_ok (h : AcW W0 w f q) (g : AcG W0 f) {j : Nat} (hj : j < 3) (i v : Int) (hi : okW i) (hd : q.did ≤ 1000) (hv : q.mc.getD j 0 = v) :
    Calls Try.prog 39 #[.agg #[.int .i64 j], .pointer (some ⟨f 0, 0, none⟩), .int .i64 i] w fun e w' =>
      e = .returned (.tuple #[.int .i64 v, .int .i64 0]) ∧ AcW W0 w' f { q with did := q.did + 1 } := by
  obtain ⟨st, hm, hs⟩ := h.st
  refine (evread_ok (acM f) st j i v w hm (hs.caller hi.1 hi.2) (hs.given (by omega) (by omega)) ((hs.2.2.2.1 j hj).trans hv)).mono ?_
  rintro e w' ⟨rfl, hm', hk⟩
  exact ⟨rfl, h.mach g hk q.mc _ ⟨_, hm', hs.did hi.1 hi.2 hd⟩⟩
theorem a_read_no (h : AcW W0 w f q) (j : Nat) (i : Int) (hi : ¬ okW i) :
    Calls Try.prog 39 #[.agg #[.int .i64 j], .pointer (some ⟨f 0, 0, none⟩), .int .i64 i] w fun e w' =>
      e = .returned (.tuple #[.int .i64 0, .int .i64 10]) ∧ AcW W0 w' f q := by
  obtain ⟨st, hm, hs⟩ := h.st
  refine (evread_no (acM f) st j i w hm (.inl (hs.nocaller hi))).mono ?_
  rintro e w' ⟨rfl, hk⟩
  exact ⟨rfl, h.below hk⟩
theorem a_tell_ok (h : AcW W0 w f q) (g : AcG W0 f) (hl : q.mc.length = 3) {j : Nat} (hj : j < 3) (i v : Int) (hi : okW i) (hd : q.did ≤ 1000) (hv : q.mc.getD j 0 = v) (h0 : 0 ≤ v) (h1 : v ≤ 1000) :
    Calls Try.prog 37 #[.agg #[.int .i64 j], .pointer (some ⟨f 0, 0, none⟩), .int .i64 i] w fun e w' =>
      e = .returned (.int .i64 0) ∧ AcW W0 w' f { q with mc := q.mc.set j (v + 1), did := q.did + 1 } := by
  obtain ⟨st, hm, hs⟩ := h.st
  refine (evtell_ok (acM f) st j i v w hm (hs.caller hi.1 hi.2) (hs.given (by omega) (by omega)) ((hs.2.2.2.1 j hj).trans hv)).mono ?_
  rintro e w' ⟨rfl, hm', hk⟩
  rw [show wrap64 (v + 1) = v + 1 by unfold wrap64; omega] at hm'
  exact ⟨rfl, h.mach g hk _ _ ⟨_, hm', (hs.did hi.1 hi.2 hd).put hl hj _⟩⟩
theorem a_tell_no (h : AcW W0 w f q) (g : AcG W0 f) (j : Nat) (i : Int) (hi : ¬ okW i) :
    Calls Try.prog 37 #[.agg #[.int .i64 j], .pointer (some ⟨f 0, 0, none⟩), .int .i64 i] w fun e w' =>
      e = .returned (.int .i64 10) ∧ AcW W0 w' f q := by
  obtain ⟨st, hm, hs⟩ := h.st
  refine (evtell_no (acM f) st j i w hm (.inl (hs.nocaller hi))).mono ?_
  rintro e w' ⟨rfl, hm', hk⟩
  exact ⟨rfl, h.mach g hk q.mc q.did ⟨_, hm', hs⟩⟩
theorem a_ready_ok (h : AcW W0 w f q) (g : AcG W0 f) {j : Nat} (hj : j < 3) (i v : Int) (hi : okW i) (hd : q.did ≤ 1000) (hv : q.mc.getD j 0 = v) :
    Calls Try.prog 35 #[.pointer (some ⟨f (7 + j), 0, none⟩), .pointer (some ⟨f 0, 0, none⟩), .int .i64 i] w fun e w' =>
      e = .returned (.int .i64 0) ∧ AcW W0 w' f { q with hw := upd q.hw j 1, sn := upd q.sn j v, did := q.did + 1 } := by
  obtain ⟨st, hm, hs⟩ := h.st
  refine (ready_ok (acM f) st _ j _ _ i v w hm (h.wt j hj) (g.nhas (by omega) (by omega)) (hs.caller hi.1 hi.2) (hs.given (by omega) (by omega)) ((hs.2.2.2.1 j hj).trans hv)).mono ?_
  rintro e w' ⟨rfl, hm', hw', hk⟩
  exact ⟨rfl, h.wait g hj hk (fun _ e => e) _ ⟨_, hm', hs.did hi.1 hi.2 hd⟩ _ _ hw'⟩
theorem a_ready_no (h : AcW W0 w f q) {j : Nat} (hj : j < 3) (i : Int) (hi : ¬ okW i) :
    Calls Try.prog 35 #[.pointer (some ⟨f (7 + j), 0, none⟩), .pointer (some ⟨f 0, 0, none⟩), .int .i64 i] w fun e w' =>
      e = .returned (.int .i64 10) ∧ AcW W0 w' f q := by
  obtain ⟨st, hm, hs⟩ := h.st
  refine (ready_no (acM f) st _ j _ _ i w hm (h.wt j hj) (.inl (hs.nocaller hi))).mono ?_
  rintro e w' ⟨rfl, hk⟩
  exact ⟨rfl, h.below hk⟩
theorem a_park_ok (h : AcW W0 w f q) (g : AcG W0 f) {j : Nat} (hj : j < 3) (hh : q.hw j = 1) :
    Calls Try.prog 36 #[.pointer (some ⟨f (7 + j), 0, none⟩)] w fun e w' =>
      e = .returned (.int .i64 0) ∧ AcW W0 w' f { q with hw := upd q.hw j 2, sn := upd q.sn j (q.sn j) } := by
  obtain ⟨st, hm, hs⟩ := h.st
  have hw := h.wt j hj
  rw [hh] at hw
  refine (park_ok _ j _ w hw).mono ?_
  rintro e w' ⟨rfl, hw', hk⟩
  exact ⟨rfl, h.wait g hj hk (fun _ e => .inr e) q.did ⟨_, hm.kept hk (fun k h1 h2 => g.nhas (by omega) (by omega) (h2 ▸ h1)), hs⟩ _ _ hw'⟩
theorem a_park_no (h : AcW W0 w f q) {j : Nat} (hj : j < 3) (hh : ¬ q.hw j = 1) :
    Calls Try.prog 36 #[.pointer (some ⟨f (7 + j), 0, none⟩)] w fun e w' =>
      e = .returned (.int .i64 19) ∧ w = w' := park_no _ j _ _ w (h.wt j hj) hh
theorem a_leave (h : AcW W0 w f q) (g : AcG W0 f) {j : Nat} (hj : j < 3) :
    Calls Try.prog 40 #[.pointer (some ⟨f (7 + j), 0, none⟩)] w fun e w' =>
      e = .returned (.tuple #[]) ∧ AcW W0 w' f { q with hw := upd q.hw j 0, sn := upd q.sn j (q.sn j) } := by
  obtain ⟨st, hm, hs⟩ := h.st
  refine (leave_any _ j _ _ w (h.wt j hj)).mono ?_
  rintro e w' ⟨rfl, hw', hk⟩
  exact ⟨rfl, h.wait g hj hk (fun _ e => .inr e) q.did ⟨_, hm.kept hk (fun k h1 h2 => g.nhas (by omega) (by omega) (h2 ▸ h1)), hs⟩ _ _ hw'⟩
theorem a_parked (h : AcW W0 w f q) {j : Nat} (hj : j < 3) (b : Bool) (hb : (q.hw j == 2 && (q.mc.getD j 0 == q.sn j)) = b) :
    Calls Try.prog 38 #[.pointer (some ⟨f (7 + j), 0, none⟩), .pointer (some ⟨f 0, 0, none⟩)] w fun e w' =>
      e = .returned (.bool b) ∧ AcW W0 w' f q := by
  obtain ⟨st, hm, hs⟩ := h.st
  refine (wparked_v (acM f) st _ j _ _ b w hm (h.wt j hj) (by rw [hs.parked hj]; exact hb)).mono ?_
  rintro e w' ⟨rfl, hk⟩
  exact ⟨rfl, h.below hk⟩
theorem a_evparked (h : AcW W0 w f q) {j : Nat} (hj : j < 3) (seen : Int) (b : Bool) (hb : (q.mc.getD j 0 == seen) = b) :
    Calls Try.prog 44 #[.agg #[.int .i64 j], .pointer (some ⟨f 0, 0, none⟩), .int .i64 seen] w fun e w' =>
      e = .returned (.bool b) ∧ AcW W0 w' f q := by
  obtain ⟨st, hm, hs⟩ := h.st
  refine (evparked_any (acM f) st j seen w hm).mono ?_
  rw [hs.parked hj, hb]
  rintro e w' ⟨rfl, hk⟩
  exact ⟨rfl, h.below hk⟩
theorem a_peek (h : AcW W0 w f q) {j : Nat} (hj : j < 3) (v : Int) (hv : q.mc.getD j 0 = v) :
    Calls Try.prog 17 #[.pointer (some ⟨f 0, 0, none⟩), .int .i64 j] w fun e w' => e = .returned (.int .i64 v) ∧ w = w' := by
  obtain ⟨st, hm, hs⟩ := h.st
  have := peek_any (acM f) st j w hm
  rw [hs.2.2.2.1 j hj, hv] at this
  exact this

/-! ## The reference's waits -/
theorem ref_ready (x : Nat) (a b v : Int) (w : World) (hx : Blk w x 78 [.int .i64 a, .int .i64 b]) :
    Calls Try.prog 41 #[.pointer (some ⟨x, 0, none⟩), .int .i64 v] w fun e w' => e = .returned (.tuple #[]) ∧ Blk w' x 78 [.int .i64 1, .int .i64 v] ∧ Kept (fun k => k = x) w w' := by
  have c1 := hx.cell
  have f1 := hx.frozen
  go_enter Try.func41, Try.ntmps41
  go_wp2
  go_end0
  exact ⟨rfl, (hx.set 0 (.int .i64 1)).set 1 (.int .i64 v), ((Kept.refl (fun k => k = x) w).setCell (p := ⟨x, 0, none⟩) (.inl rfl) _).setCell (p := ⟨x, 1, none⟩) (.inl rfl) _⟩
theorem ref_park_ok (x : Nat) (b : Int) (w : World) (hx : Blk w x 78 [.int .i64 1, .int .i64 b]) :
    Calls Try.prog 42 #[.pointer (some ⟨x, 0, none⟩)] w fun e w' => e = .returned (.int .i64 0) ∧ Blk w' x 78 [.int .i64 2, .int .i64 b] ∧ Kept (fun k => k = x) w w' := by
  have c1 := hx.cell
  have f1 := hx.frozen
  go_enter Try.func42, Try.ntmps42
  go_wp2
  go_ret
  exact ⟨rfl, hx.set 0 (.int .i64 2), (Kept.refl (fun k => k = x) w).setCell (p := ⟨x, 0, none⟩) (.inl rfl) _⟩
theorem ref_park_no (x : Nat) (a b : Int) (w : World) (hx : Blk w x 78 [.int .i64 a, .int .i64 b]) (h : ¬ a = 1) :
    Calls Try.prog 42 #[.pointer (some ⟨x, 0, none⟩)] w fun e w' => e = .returned (.int .i64 19) ∧ w = w' := by
  have c1 : w.cell? ⟨x, 0, none⟩ = some (.int .i64 a) := by rw [hx.cell]; rfl
  have h' : (a != 1) = true := by simpa using h
  clear h
  go_enter Try.func42, Try.ntmps42
  go_wp2
  go_ret
  exact ⟨rfl, rfl⟩
theorem ref_parked (x : Nat) (a b v : Int) (w : World) (hx : Blk w x 78 [.int .i64 a, .int .i64 b]) :
    Calls Try.prog 43 #[.pointer (some ⟨x, 0, none⟩), .int .i64 v] w fun e w' => e = .returned (.bool (a == 2 && (v == b))) ∧ w = w' := by
  have c1 : w.cell? ⟨x, 0, none⟩ = some (.int .i64 a) := by rw [hx.cell]; rfl
  have c2 : w.cell? ⟨x, 1, none⟩ = some (.int .i64 b) := by rw [hx.cell]; rfl
  by_cases h2 : a = 2
  · subst h2
    by_cases h3 : b = v
    · subst h3
      go_enter Try.func43, Try.ntmps43
      go_wp2
      go_ret
      exact ⟨ret_bool (by simp), rfl⟩
    · have h3' : (b == v) = false := by simpa using h3
      have h4 : (v == b) = false := by simpa using Ne.symm h3
      clear h3
      go_enter Try.func43, Try.ntmps43
      go_wp2
      go_ret
      exact ⟨ret_bool (by simp [h4]), rfl⟩
  · have h2' : (a == 2) = false := by simpa using h2
    clear h2
    go_enter Try.func43, Try.ntmps43
    go_wp2
    go_ret
    exact ⟨ret_bool (by simp [h2']), rfl⟩
end
end Go.Proofs.Ytelphbfdibfmoaa
