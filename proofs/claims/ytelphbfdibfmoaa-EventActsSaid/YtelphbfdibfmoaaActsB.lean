/-
  WHAT IS PROVED HERE: families of different blocks; EventActs' start: the three events, waits and reference's waits as they are made one after another. Conditions: none.
-/
import Derived.Test.YtelphbfdibfmoaaActsA
namespace Go.Proofs.Ytelphbfdibfmoaa
open Go.RowKit

/-- A family of different blocks from B on, below T, at the places of D. -/
structure Fam (B T : Nat) (D : Nat → Prop) (f : Nat → Nat) : Prop where
  ge : ∀ i, D i → B ≤ f i
  lt : ∀ i, D i → f i < T
  inj : ∀ i j, D i → D j → f i = f j → i = j
def setF (f : Nat → Nat) (n x : Nat) : Nat → Nat := fun k => if k = n then x else f k
theorem setF_same (f : Nat → Nat) (n x : Nat) : setF f n x n = x := by simp [setF]
theorem setF_other (f : Nat → Nat) {n k : Nat} (x : Nat) (h : k ≠ n) : setF f n x k = f k := by simp [setF, h]
theorem Fam.more {B T T' : Nat} {D : Nat → Prop} {f : Nat → Nat} (h : Fam B T D f) (hB : B ≤ T) {x : Nat} (n : Nat) (h1 : T ≤ x) (h2 : x < T') : Fam B T' (fun k => D k ∨ k = n) (setF f n x) := by
  refine ⟨fun i hi => ?_, fun i hi => ?_, fun i j hi hj e => ?_⟩
  · by_cases c : i = n
    · rw [c, setF_same]; omega
    · rw [setF_other _ _ c]; exact h.ge i (hi.resolve_right c)
  · by_cases c : i = n
    · rw [c, setF_same]; omega
    · rw [setF_other _ _ c]; have := h.lt i (hi.resolve_right c); omega
  · by_cases c : i = n
    · by_cases d : j = n
      · omega
      · rw [c, setF_same, setF_other _ _ d] at e
        have := h.lt j (hj.resolve_right d); omega
    · by_cases d : j = n
      · rw [d, setF_same, setF_other _ _ c] at e
        have := h.lt i (hi.resolve_right c); omega
      · rw [setF_other _ _ c, setF_other _ _ d] at e
        exact h.inj i j (hi.resolve_right c) (hj.resolve_right d) e
theorem Fam.mono {B T T' : Nat} {D D' : Nat → Prop} {f : Nat → Nat} (h : Fam B T D f) (hT : T ≤ T') (hD : ∀ k, D' k → D k) : Fam B T' D' f :=
  ⟨fun i hi => h.ge i (hD i hi), fun i hi => Nat.lt_of_lt_of_le (h.lt i (hD i hi)) hT, fun i j hi hj => h.inj i j (hD i hi) (hD j hj)⟩
theorem Fam.ne {B T : Nat} {D : Nat → Prop} {f : Nat → Nat} (h : Fam B T D f) {i j : Nat} (hi : D i) (hj : D j) (e : i ≠ j) : f i ≠ f j := fun e' => e (h.inj i j hi hj e')

/-- Which blocks are there when so many cells, waits, reference's waits are made. -/
def acD (i u r k : Nat) : Prop := k < 13 ∧ (k = 2 → 0 < i) ∧ (7 ≤ k → k < 10 → k < 7 + u) ∧ (10 ≤ k → k < 10 + r)
def evl : Nat → List Int
  | 0 => [0, 0, 0]
  | i + 1 => (evl i).set i i
theorem evl_len : ∀ i, (evl i).length = 3
  | 0 => rfl
  | i + 1 => by simp [evl, evl_len i]
def ptl (f : Nat → Nat) (a : Nat) : Nat → List Value
  | 0 => [.pointer none, .pointer none, .pointer none]
  | i + 1 => (ptl f a i).set i (ptrv (f (a + i)))
theorem ptl_at (f : Nat → Nat) (a : Nat) {i : Nat} (hi : i < 3) : (ptl f a i)[i]? = some (.pointer none) := by
  have : i = 0 ∨ i = 1 ∨ i = 2 := by omega
  rcases this with rfl | rfl | rfl <;> rfl
theorem ptl_congr {f f' : Nat → Nat} {a : Nat} : ∀ {i : Nat}, (∀ j, j < i → f (a + j) = f' (a + j)) → ptl f a i = ptl f' a i
  | 0, _ => rfl
  | i + 1, h => by
    simp only [ptl]
    rw [ptl_congr (i := i) (fun j hj => h j (by omega)), h i (by omega)]

def AcS0 (i : Nat) (st : MS) : Prop := st.steps.length = 3 ∧ st.cells.length = i ∧ st.size = 3 ∧ (∀ j : Int, st.cellOf j = 0) ∧ (∀ j : Nat, j < 3 → 0 ≤ st.stepsOf j) ∧ st.stepsOf 0 + st.stepsOf 1 + st.stepsOf 2 = i
theorem cellOf_more (st : MS) (n : Nat) (h : ∀ j : Int, st.cellOf j = 0) (j : Int) : (st.more n).cellOf j = 0 := by
  unfold MS.cellOf
  split
  · rename_i hj
    by_cases h1 : j < st.cells.length
    · have := h j
      unfold MS.cellOf at this
      rw [if_pos ⟨hj.1, h1⟩] at this
      rw [← this]
      simp [MS.more, List.getElem?_append, show j.toNat < st.cells.length by omega]
    · simp only [MS.more, List.getElem?_append, if_neg (show ¬ j.toNat < st.cells.length by omega), List.getElem?_replicate]
      split <;> rfl
  · rfl
theorem AcS0.new {i : Nat} {st : MS} (h : AcS0 i st) (hi : i < 3) : AcS0 (i + 1) ((st.did i).more 1) := by
  obtain ⟨a, b, c, d, e, g⟩ := h
  obtain ⟨e', g'⟩ := steps3 (i := (i : Int)) (by simp [MS.isCaller]; omega) (by omega) (by omega) e g (by omega)
  exact ⟨by simp [MS.did, MS.more, a], by simp [MS.more, MS.did, b], c, fun j => cellOf_more _ _ d j, e', by rw [Int.natCast_add]; exact g'⟩

structure AcF (W0 w : World) (f : Nat → Nat) (i e u r : Nat) : Prop where
  fam : Fam W0.heap.size w.heap.size (acD i u r) f
  c0 : i = 0 → f 2 = f 0
  st : ∃ st, MachP w (acM f) st ∧ AcS0 i st
  ev : Blk w (f 3) 62 (ints (evl e))
  wp : Blk w (f 4) 65 (ptl f 7 u)
  rp : Blk w (f 5) 76 (ptl f 10 r)
  tl : Blk w (f 6) 2 (ints [0, 0, 0])
  wt : ∀ j, j < u → WaitB w (f (7 + j)) j 0 0
  rf : ∀ j, j < r → Blk w (f (10 + j)) 78 [.int .i64 0, .int .i64 0]
  bel : Below W0.heap.size W0 w

theorem AcF.start {p s : Nat} {W0 w1 : World} (hm1 : MachP w1 ⟨p, p, s⟩ (MS.fresh 3 2)) (hb1 : Below W0.heap.size W0 w1) (hp : W0.heap.size ≤ p) (hs : W0.heap.size ≤ s) :
    ∃ f : Nat → Nat, (f 0 = p ∧ f 3 = w1.heap.size ∧ f 4 = w1.heap.size + 1 ∧ f 5 = w1.heap.size + 2 ∧ f 6 = w1.heap.size + 3) ∧
      AcF W0 ((((w1.alloc (.cells #[.int .i64 0, .int .i64 0, .int .i64 0] 62)).alloc (.cells #[.pointer none, .pointer none, .pointer none] 65)).alloc (.cells #[.pointer none, .pointer none, .pointer none] 76)).alloc (.cells #[.int .i64 0, .int .i64 0, .int .i64 0] 2)) f 0 0 0 0 := by
  have hp1 := hm1.lt p (.inl rfl)
  have hs1 := hm1.lt s (.inr (.inr rfl))
  have hps : p ≠ s := hm1.ps
  have hz := hb1.size
  refine ⟨fun k => [p, s, p, w1.heap.size, w1.heap.size + 1, w1.heap.size + 2, w1.heap.size + 3].getD k 0, ⟨rfl, rfl, rfl, rfl, rfl⟩, ?_⟩
  have key : ∀ k, acD 0 0 0 k → k = 0 ∨ k = 1 ∨ k = 3 ∨ k = 4 ∨ k = 5 ∨ k = 6 := by
    rintro k ⟨h1, h2, h3, h4⟩; omega
  have b1 := Blk.new w1 62 [.int .i64 0, .int .i64 0, .int .i64 0]
  have b2 := Blk.new (w1.alloc (.cells #[.int .i64 0, .int .i64 0, .int .i64 0] 62)) 65 [.pointer none, .pointer none, .pointer none]
  have b3 := Blk.new ((w1.alloc (.cells #[.int .i64 0, .int .i64 0, .int .i64 0] 62)).alloc (.cells #[.pointer none, .pointer none, .pointer none] 65)) 76 [.pointer none, .pointer none, .pointer none]
  have b4 := Blk.new (((w1.alloc (.cells #[.int .i64 0, .int .i64 0, .int .i64 0] 62)).alloc (.cells #[.pointer none, .pointer none, .pointer none] 65)).alloc (.cells #[.pointer none, .pointer none, .pointer none] 76)) 2 [.int .i64 0, .int .i64 0, .int .i64 0]
  simp only [World.size_alloc] at b2 b3 b4
  refine ⟨⟨?_, ?_, ?_⟩, fun _ => rfl, ⟨_, (((hm1.alloc _).alloc _).alloc _).alloc _, by simp [MS.fresh], by simp [MS.fresh], rfl, fun j => by simp [MS.cellOf, MS.fresh], ?_, by simp [MS.stepsOf, MS.fresh, List.replicate]⟩, ((b1.alloc _).alloc _).alloc _, (b2.alloc _).alloc _, b3.alloc _, b4, fun j hj => absurd hj (by omega), fun j hj => absurd hj (by omega), (((hb1.alloc hz _).alloc (by simp; omega) _).alloc (by simp; omega) _).alloc (by simp; omega) _⟩
  · intro k hk
    rcases key k hk with rfl | rfl | rfl | rfl | rfl | rfl <;> simp <;> omega
  · intro k hk
    rcases key k hk with rfl | rfl | rfl | rfl | rfl | rfl <;> simp <;> omega
  · intro a b ha hb
    rcases key a ha with rfl | rfl | rfl | rfl | rfl | rfl <;> rcases key b hb with rfl | rfl | rfl | rfl | rfl | rfl <;> simp <;> omega
  · intro j hj
    have : j = 0 ∨ j = 1 ∨ j = 2 := by omega
    rcases this with rfl | rfl | rfl <;> simp [MS.stepsOf, MS.fresh, List.replicate]
section
variable {W0 w w' : World} {f : Nat → Nat} {i e u r : Nat}
theorem acD_lo {k : Nat} (h : k < 7) (h2 : k ≠ 2) : acD i u r k := ⟨by omega, by omega, by omega, by omega⟩
theorem AcF.nhas (h : AcF W0 w f i e u r) {k : Nat} (h3 : 3 ≤ k) (hk : acD i u r k) : ¬ (acM f).has (f k) := by
  have d0 : acD i u r 0 := acD_lo (by omega) (by omega)
  have d1 : acD i u r 1 := acD_lo (by omega) (by omega)
  intro e
  rcases MB.has3 e with e | e | e
  · exact h.fam.ne hk d0 (by omega) e
  · by_cases hi : i = 0
    · exact h.fam.ne hk d0 (by omega) (e.trans (h.c0 hi))
    · exact h.fam.ne hk (show acD i u r 2 from ⟨by omega, by omega, by omega, by omega⟩) (by omega) e
  · exact h.fam.ne hk d1 (by omega) e
theorem AcF.below (h : AcF W0 w f i e u r) (hb : Below w.heap.size w w') : AcF W0 w' f i e u r := by
  obtain ⟨st, hm, hs⟩ := h.st
  exact ⟨h.fam.mono hb.size (fun _ e => e), h.c0, ⟨st, hm.kept (Kept.of_below (S := fun _ => False) hb) (fun _ _ f => f), hs⟩, h.ev.below hb h.ev.lt, h.wp.below hb h.wp.lt, h.rp.below hb h.rp.lt, h.tl.below hb h.tl.lt, fun j hj => Blk.below (h.wt j hj) hb (Blk.lt (h.wt j hj)), fun j hj => (h.rf j hj).below hb (h.rf j hj).lt, h.bel.trans (hb.mono h.bel.size)⟩
theorem AcF.alloc (h : AcF W0 w f i e u r) (o : Obj) : AcF W0 (w.alloc o) f i e u r := h.below ((Below.refl _ w).alloc (Nat.le_refl _) o)
theorem AcF.from_ (h : AcF W0 w f i e u r) : (acM f).from_ W0.heap.size := by
  have d0 : acD i u r 0 := acD_lo (by omega) (by omega)
  have d1 : acD i u r 1 := acD_lo (by omega) (by omega)
  refine ⟨h.fam.ge 0 d0, ?_, h.fam.ge 1 d1⟩
  by_cases hi : i = 0
  · show _ ≤ f 2; rw [h.c0 hi]; exact h.fam.ge 0 d0
  · exact h.fam.ge 2 ⟨by omega, by omega, by omega, by omega⟩
theorem ac_new (h : AcF W0 w f i i i i) (hi : i < 3) :
    Calls Try.prog 32 #[.pointer (some ⟨f 0, 0, none⟩), .int .i64 i] w fun e w' => ∃ c,
      e = .returned (.tuple #[.agg #[.int .i64 i], .int .i64 0]) ∧ AcF W0 w' (setF f 2 c) (i + 1) i i i := by
  obtain ⟨st, hm, hs⟩ := h.st
  have hs' := hs
  obtain ⟨a, b, c, d, e, g⟩ := hs
  refine (evnew_ok (acM f) st i w hm (by simp [MS.isCaller]; omega) (by rw [b, c]; omega) (by rw [c]; omega)).mono ?_
  rintro e w' ⟨rfl, hk, c, hc, hm2⟩
  rw [b]
  have hcl : c < w'.heap.size := hm2.lt c (.inr (.inl rfl))
  have nS : ∀ k, 3 ≤ k → acD i i i k → ¬ (acM f).has (f k) := fun k h1 h2 => h.nhas h1 h2
  have s : ∀ k, k ≠ 2 → setF f 2 c k = f k := fun k hk => setF_other f c hk
  refine ⟨c, rfl, (h.fam.more h.bel.size 2 hc hcl).mono (Nat.le_refl _) ?_, by omega, ⟨_, hm2, hs'.new hi⟩, ?_, ?_, ?_, ?_, fun j hj => ?_, fun j hj => ?_, h.bel.trans (hk.under h.from_ h.bel.size)⟩
  · rintro k ⟨h1, h2, h3, h4⟩
    by_cases e : k = 2
    · exact .inr e
    · exact .inl ⟨h1, fun e' => absurd e' e, h3, h4⟩
  · rw [s 3 (by omega)]; exact h.ev.kept hk (nS 3 (by omega) (acD_lo (by omega) (by omega)))
  · rw [s 4 (by omega), ptl_congr (f := setF f 2 c) (f' := f) (fun j _ => s _ (by omega))]; exact h.wp.kept hk (nS 4 (by omega) (acD_lo (by omega) (by omega)))
  · rw [s 5 (by omega), ptl_congr (f := setF f 2 c) (f' := f) (fun j _ => s _ (by omega))]; exact h.rp.kept hk (nS 5 (by omega) (acD_lo (by omega) (by omega)))
  · rw [s 6 (by omega)]; exact h.tl.kept hk (nS 6 (by omega) (acD_lo (by omega) (by omega)))
  · rw [s _ (by omega)]; exact Blk.kept (h.wt j hj) hk (nS _ (by omega) ⟨by omega, by omega, by omega, by omega⟩)
  · rw [s _ (by omega)]; exact (h.rf j hj).kept hk (nS _ (by omega) ⟨by omega, by omega, by omega, by omega⟩)
/-- One of the arrays is written. -/
theorem AcF.arr (h : AcF W0 w f i e u r) {n : Nat} (h3 : 3 ≤ n) (h6 : n < 6) (j : Nat) (v : Value) {e' u' r' : Nat} {f' : Nat → Nat}
    (fam : Fam W0.heap.size w.heap.size (acD i u' r') f') (hf : ∀ k, k < 7 → f' k = f k)
    (ev : Blk (w.setCell ⟨f n, j, none⟩ v) (f 3) 62 (ints (evl e')))
    (wp : Blk (w.setCell ⟨f n, j, none⟩ v) (f 4) 65 (ptl f' 7 u'))
    (rp : Blk (w.setCell ⟨f n, j, none⟩ v) (f 5) 76 (ptl f' 10 r'))
    (wt : ∀ j, j < u' → WaitB w (f' (7 + j)) j 0 0 ∧ f' (7 + j) ≠ f n) (rf : ∀ j, j < r' → Blk w (f' (10 + j)) 78 [.int .i64 0, .int .i64 0] ∧ f' (10 + j) ≠ f n) :
    AcF W0 (w.setCell ⟨f n, j, none⟩ v) f' i e' u' r' := by
  obtain ⟨st, hm, hs⟩ := h.st
  have hk : Kept (fun k => k = f n) w (w.setCell ⟨f n, j, none⟩ v) := (Kept.refl (fun k => k = f n) w).setCell (.inl rfl) _
  have dn : acD i u r n := acD_lo (by omega) (by omega)
  have hM : acM f' = acM f := by unfold acM; rw [hf 0 (by omega), hf 1 (by omega), hf 2 (by omega)]
  refine ⟨by simpa using fam, fun e0 => by rw [hf 2 (by omega), hf 0 (by omega)]; exact h.c0 e0, ⟨st, hM ▸ hm.kept hk (fun k h1 h2 => h.nhas h3 dn (h2 ▸ h1)), hs⟩, hf 3 (by omega) ▸ ev, hf 4 (by omega) ▸ wp, hf 5 (by omega) ▸ rp, hf 6 (by omega) ▸ h.tl.kept hk (h.fam.ne (acD_lo (by omega) (by omega)) dn (by omega)),
    fun j hj => Blk.kept (wt j hj).1 hk (wt j hj).2, fun j hj => (rf j hj).1.kept hk (rf j hj).2, h.bel.trans (hk.below h.bel.size (fun k e => by rw [e]; exact h.fam.ge _ dn))⟩
theorem AcF.setev (h : AcF W0 w f (i + 1) i i i) (hi : i < 3) : AcF W0 (w.setCell ⟨f 3, i, none⟩ (.int .i64 i)) f (i + 1) (i + 1) i i := by
  have ne : ∀ a b, a < 7 → b < 7 → a ≠ 2 → b ≠ 2 → a ≠ b → f a ≠ f b := fun a b h1 h2 h3 h4 h5 => h.fam.ne (acD_lo h1 h3) (acD_lo h2 h4) h5
  have d3 : acD (i + 1) i i 3 := acD_lo (by omega) (by omega)
  refine h.arr (n := 3) (by omega) (by omega) i _ h.fam (fun _ _ => rfl) ?_ (h.wp.setOther (ne 4 3 (by omega) (by omega) (by omega) (by omega) (by omega)) _) (h.rp.setOther (ne 5 3 (by omega) (by omega) (by omega) (by omega) (by omega)) _) (fun j hj => ⟨h.wt j hj, h.fam.ne ⟨by omega, by omega, by omega, by omega⟩ d3 (by omega)⟩) (fun j hj => ⟨h.rf j hj, h.fam.ne ⟨by omega, by omega, by omega, by omega⟩ d3 (by omega)⟩)
  have := h.ev.set i (.int .i64 i)
  rwa [set_ints] at this
theorem AcF.setwait (h : AcF W0 w f (i + 1) (i + 1) i i) (hi : i < 3) {x : Nat} (hx : WaitB w x i 0 0) (hn : ∀ k, acD (i + 1) i i k → f k < x) (hb : W0.heap.size ≤ x) : AcF W0 (w.setCell ⟨f 4, i, none⟩ (ptrv x)) (setF f (7 + i) x) (i + 1) (i + 1) (i + 1) i := by
  have ne : ∀ a b, a < 7 → b < 7 → a ≠ 2 → b ≠ 2 → a ≠ b → f a ≠ f b := fun a b h1 h2 h3 h4 h5 => h.fam.ne (acD_lo h1 h3) (acD_lo h2 h4) h5
  have d4 : acD (i + 1) i i 4 := acD_lo (by omega) (by omega)
  have s : ∀ k, k ≠ 7 + i → setF f (7 + i) x k = f k := fun k hk => setF_other f x hk
  have hxl := Blk.lt hx
  have fam : Fam W0.heap.size w.heap.size (acD (i + 1) (i + 1) i) (setF f (7 + i) x) := by
    have h0 : Fam W0.heap.size x (acD (i + 1) i i) f := ⟨h.fam.ge, hn, h.fam.inj⟩
    refine (h0.more hb (7 + i) (Nat.le_refl _) hxl).mono (Nat.le_refl _) ?_
    rintro k ⟨h1, h2, h3, h4⟩
    by_cases e : k = 7 + i
    · exact .inr e
    · exact .inl ⟨h1, h2, fun a b => by have := h3 a b; omega, h4⟩
  refine h.arr (n := 4) (by omega) (by omega) i _ fam (fun k hk => s k (by omega)) (h.ev.setOther (ne 3 4 (by omega) (by omega) (by omega) (by omega) (by omega)) _) ?_ ?_ (fun j hj => ?_) (fun j hj => ?_)
  · have := h.wp.set i (ptrv x)
    have e : ptl (setF f (7 + i) x) 7 (i + 1) = (ptl f 7 i).set i (ptrv x) := by
      simp only [ptl]
      rw [setF_same, ptl_congr (f := setF f (7 + i) x) (f' := f) (fun j hj => s _ (by omega))]
    rw [e]; exact this
  · rw [ptl_congr (f := setF f (7 + i) x) (f' := f) (fun j hj => s _ (by omega))]
    exact h.rp.setOther (ne 5 4 (by omega) (by omega) (by omega) (by omega) (by omega)) _
  · by_cases e : j = i
    · subst e; rw [setF_same]; exact ⟨hx, by have := hn 4 d4; omega⟩
    · rw [s _ (by omega)]; exact ⟨h.wt j (by omega), h.fam.ne ⟨by omega, by omega, by omega, by omega⟩ d4 (by omega)⟩
  · rw [s _ (by omega)]; exact ⟨h.rf j hj, h.fam.ne ⟨by omega, by omega, by omega, by omega⟩ d4 (by omega)⟩
theorem AcF.setref (h : AcF W0 w f (i + 1) (i + 1) (i + 1) i) (hi : i < 3) {x : Nat} (hx : Blk w x 78 [.int .i64 0, .int .i64 0]) (hn : ∀ k, acD (i + 1) (i + 1) i k → f k < x) (hb : W0.heap.size ≤ x) : AcF W0 (w.setCell ⟨f 5, i, none⟩ (ptrv x)) (setF f (10 + i) x) (i + 1) (i + 1) (i + 1) (i + 1) := by
  have ne : ∀ a b, a < 7 → b < 7 → a ≠ 2 → b ≠ 2 → a ≠ b → f a ≠ f b := fun a b h1 h2 h3 h4 h5 => h.fam.ne (acD_lo h1 h3) (acD_lo h2 h4) h5
  have d5 : acD (i + 1) (i + 1) i 5 := acD_lo (by omega) (by omega)
  have s : ∀ k, k ≠ 10 + i → setF f (10 + i) x k = f k := fun k hk => setF_other f x hk
  have hxl := Blk.lt hx
  have fam : Fam W0.heap.size w.heap.size (acD (i + 1) (i + 1) (i + 1)) (setF f (10 + i) x) := by
    have h0 : Fam W0.heap.size x (acD (i + 1) (i + 1) i) f := ⟨h.fam.ge, hn, h.fam.inj⟩
    refine (h0.more hb (10 + i) (Nat.le_refl _) hxl).mono (Nat.le_refl _) ?_
    rintro k ⟨h1, h2, h3, h4⟩
    by_cases e : k = 10 + i
    · exact .inr e
    · exact .inl ⟨h1, h2, h3, fun a => by have := h4 a; omega⟩
  refine h.arr (n := 5) (by omega) (by omega) i _ fam (fun k hk => s k (by omega)) (h.ev.setOther (ne 3 5 (by omega) (by omega) (by omega) (by omega) (by omega)) _) ?_ ?_ (fun j hj => ?_) (fun j hj => ?_)
  · rw [ptl_congr (f := setF f (10 + i) x) (f' := f) (fun j hj => s _ (by omega))]
    exact h.wp.setOther (ne 4 5 (by omega) (by omega) (by omega) (by omega) (by omega)) _
  · have := h.rp.set i (ptrv x)
    have e : ptl (setF f (10 + i) x) 10 (i + 1) = (ptl f 10 i).set i (ptrv x) := by
      simp only [ptl]
      rw [setF_same, ptl_congr (f := setF f (10 + i) x) (f' := f) (fun j hj => s _ (by omega))]
    rw [e]; exact this
  · rw [s _ (by omega)]; exact ⟨h.wt j hj, h.fam.ne ⟨by omega, by omega, by omega, by omega⟩ d5 (by omega)⟩
  · by_cases e : j = i
    · subst e; rw [setF_same]; exact ⟨hx, by have := hn 5 d5; omega⟩
    · rw [s _ (by omega)]; exact ⟨h.rf j (by omega), h.fam.ne ⟨by omega, by omega, by omega, by omega⟩ d5 (by omega)⟩
theorem ac_wait (h : AcF W0 w f (i + 1) (i + 1) i i) (hi : i < 3) :
    Calls Try.prog 34 #[.agg #[.int .i64 i]] w fun e w' => ∃ x,
      e = .returned (ptrv x) ∧ AcF W0 (w'.setCell ⟨f 4, i, none⟩ (ptrv x)) (setF f (7 + i) x) (i + 1) (i + 1) (i + 1) i ∧ AcF W0 w' f (i + 1) (i + 1) i i := by
  refine (wait_any i w).mono ?_
  rintro e w' ⟨x, rfl, hw, hb, hx⟩
  have h' := h.below hb
  exact ⟨x, rfl, h'.setwait hi hw (fun k hk => Nat.lt_of_lt_of_le (h.fam.lt k hk) hx) (Nat.le_trans h.bel.size hx), h'⟩
theorem AcF.newref (h : AcF W0 w f (i + 1) (i + 1) (i + 1) i) (hi : i < 3) : AcF W0 ((w.alloc (.cells #[.int .i64 0, .int .i64 0] 78)).setCell ⟨f 5, i, none⟩ (ptrv w.heap.size)) (setF f (10 + i) w.heap.size) (i + 1) (i + 1) (i + 1) (i + 1) :=
  (h.alloc _).setref hi (Blk.new w _ _) (fun k hk => h.fam.lt k hk) h.bel.size
theorem AcF.done (h : AcF W0 w f 3 3 3 3) : AcG W0 f ∧ AcW W0 w f ⟨[0, 0, 0], [0, 0, 0], fun _ => 0, fun _ => 0, fun _ => 0, fun _ => 0, 3⟩ := by
  have d : ∀ k, k < 13 → acD 3 3 3 k := fun k hk => ⟨hk, by omega, by omega, by omega⟩
  refine ⟨⟨fun i hi => h.fam.ge i (d i hi), fun i j hi hj => h.fam.inj i j (d i hi) (d j hj)⟩, ?_⟩
  obtain ⟨st, hm, hs⟩ := h.st
  obtain ⟨a, b, c, e, g, k⟩ := hs
  refine ⟨⟨st, hm, a, b, c, fun j hj => ?_, g, k⟩, h.ev, h.wp, h.rp, h.tl, fun j hj => h.wt j hj, fun j hj => h.rf j hj, h.bel⟩
  rw [e]
  have : j = 0 ∨ j = 1 ∨ j = 2 := by omega
  rcases this with rfl | rfl | rfl <;> rfl
end
end Go.Proofs.Ytelphbfdibfmoaa
