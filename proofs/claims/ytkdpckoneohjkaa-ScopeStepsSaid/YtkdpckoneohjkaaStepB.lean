/-
  WHAT IS PROVED HERE: what the law pelotonlaw14.ScopeSteps keeps in memory ('TS': the trees, the looks, and the reference's looks), and how it goes on from call to call. Conditions: none beyond what each theorem names.
-/
import Derived.Test.YtkdpckoneohjkaaStepA
namespace Go.Proofs.Ytkdpckoneohjkaa
open Go.RowKit

/-- A look, and the reference's. -/
structure Lo where
  q : Nat
  rq : Nat
  at_ : Int
  rat : Int
  done : Bool
  is : Bool
structure LoOk (w : World) (N t : Nat) (L : List Sc) (x : Lo) : Prop where
  lk : Lk w x.q t x.at_ x.done x.is
  rk : RLk w x.rq x.rat x.done x.is
  nq : N ≤ x.q
  nr : N ≤ x.rq
  on : x.done = false → x.is = false ∧ ∃ (a : Nat) (n : Sc), x.at_ = a ∧ x.rat = a ∧ L[a]? = some n
def lks (xs : List Lo) : List Value := xs.map fun x => .pointer (some ⟨x.q, 0, none⟩)
def rks (xs : List Lo) : List Value := xs.map fun x => .pointer (some ⟨x.rq, 0, none⟩)
/-- What the law keeps. -/
structure TS (W w : World) (mb : MB) (t g N : Nat) (did : Int) (L : List Sc) (R : RB) (zl cl zr cr : Nat) (xs : List Lo) : Prop where
  as_ : AS W w mb t g 200 did L R
  low : ∀ k, hasSW mb t g k ∨ R.has k → k < N
  nw : W.heap.size ≤ N
  rl : Rw w zl cl 61 (lks xs)
  rr : Rw w zr cr 75 (rks xs)
  zl_ : N ≤ zl
  zr_ : N ≤ zr
  lo : ∀ (j : Nat) x, xs[j]? = some x → LoOk w N t L x
  ap : ∀ (i j : Nat) x y, i ≠ j → xs[i]? = some x → xs[j]? = some y → x.q ≠ y.q ∧ x.rq ≠ y.rq
section
variable {W w w' : World} {mb : MB} {t g N : Nat} {did d' : Int} {L : List Sc} {R : RB} {zl cl zr cr : Nat} {xs : List Lo} {x : Lo} {j k s b rb : Nat} {n : Sc}
theorem len_lks : (lks xs).length = xs.length := by simp [lks]
theorem len_rks : (rks xs).length = xs.length := by simp [rks]
theorem get_lks (hx : xs[j]? = some x) : (lks xs)[j]? = some (.pointer (some ⟨x.q, 0, none⟩)) := by simp [lks, hx]
theorem get_rks (hx : xs[j]? = some x) : (rks xs)[j]? = some (.pointer (some ⟨x.rq, 0, none⟩)) := by simp [rks, hx]
theorem LoOk.kept {S : Nat → Prop} (h : LoOk w N t L x) (hk : Kept S w w') (h1 : ¬ S x.q) (h2 : ¬ S x.rq) : LoOk w' N t L x :=
  ⟨h.lk.kept hk h1, h.rk.kept hk h2, h.nq, h.nr, h.on⟩
theorem TS.below (h : TS W w mb t g N did L R zl cl zr cr xs) (hb : Below w.heap.size w w') : TS W w' mb t g N did L R zl cl zr cr xs :=
  ⟨h.as_.below hb, h.low, h.nw, h.rl.below hb h.rl.lt, h.rr.below hb h.rr.lt, h.zl_, h.zr_, fun j x hx => (h.lo j x hx).kept (Kept.of_below (S := fun _ => False) hb) id id, h.ap⟩
theorem TS.mbl (h : TS W w mb t g N did L R zl cl zr cr xs) {k : Nat} (hk : mb.has k) : k < N := h.low k (.inl (.inl hk))
/-- An operation of the machine that changes no scope. -/
theorem TS.same (h : TS W w mb t g N did L R zl cl zr cr xs) (h2 : SD W w' mb t g 200 3 d' L) (hk : Kept mb.has w w') : TS W w' mb t g N d' L R zl cl zr cr xs := by
  have no : ∀ k, N ≤ k → ¬ mb.has k := fun k hk e => by have := h.mbl e; omega
  exact ⟨h.as_.same h2 hk, h.low, h.nw, h.rl.kept hk (no _ h.zl_), h.rr.kept hk (no _ h.zr_), h.zl_, h.zr_, fun j x hx => (h.lo j x hx).kept hk (no _ (h.lo j x hx).nq) (no _ (h.lo j x hx).nr), h.ap⟩
theorem TS.ask (h : TS W w mb t g N did L R zl cl zr cr xs) (hn : L[k]? = some n) (h2 : SD W w' mb t g 200 3 d' (askS L k n)) (hk : Kept mb.has w w') :
    TS W (w'.setCell ⟨R.ab, k, none⟩ (.bool true)) mb t g N d' (askS L k n) R zl cl zr cr xs := by
  have hab : R.ab < N := h.low _ (.inr (.inr (.inr (.inl rfl))))
  have hk2 : Kept (fun q => mb.has q ∨ q = R.ab) w (w'.setCell ⟨R.ab, k, none⟩ (.bool true)) := (hk.mono (fun _ _ e => .inl e)).setCell (p := ⟨R.ab, k, none⟩) (.inl (.inr rfl)) _
  have no : ∀ k, N ≤ k → ¬ (mb.has k ∨ k = R.ab) := fun k hk e => by
    rcases e with e | e
    · have := h.mbl e; omega
    · omega
  refine ⟨h.as_.ask hn h2 hk, h.low, h.nw, h.rl.kept hk2 (no _ h.zl_), h.rr.kept hk2 (no _ h.zr_), h.zl_, h.zr_, ?_, h.ap⟩
  intro j x hx
  have hl := h.lo j x hx
  refine ⟨hl.lk.kept hk2 (no _ hl.nq), hl.rk.kept hk2 (no _ hl.nr), hl.nq, hl.nr, fun e => ?_⟩
  obtain ⟨h1, a, m, h3, h4, h5⟩ := hl.on e
  obtain ⟨m', h6, _⟩ := askS_get hn h5
  exact ⟨h1, a, m', h3, h4, h6⟩
/-- A step of look j. -/
theorem TS.step (h : TS W w mb t g N did L R zl cl zr cr xs) (hx : xs[j]? = some x) {S : Nat → Prop} (hk : Kept S w w') (hS : ∀ k, S k → mb.has k ∨ k = x.q ∨ k = x.rq) (h2 : SD W w' mb t g 200 3 d' L) {at' rat' : Int} {dn is : Bool}
    (hl : Lk w' x.q t at' dn is) (hr : RLk w' x.rq rat' dn is) (hon : dn = false → is = false ∧ ∃ (a : Nat) (n : Sc), at' = a ∧ rat' = a ∧ L[a]? = some n) : TS W w' mb t g N d' L R zl cl zr cr (xs.set j ⟨x.q, x.rq, at', rat', dn, is⟩) := by
  have hlx := h.lo j x hx
  have n1 := hlx.nq
  have n2 := hlx.nr
  have hjl : j < xs.length := (List.getElem?_eq_some_iff.1 hx).1
  have no : ∀ k, N ≤ k → k ≠ x.q → k ≠ x.rq → ¬ S k := fun k h1 h2 h3 e => by
    rcases hS k e with e | e | e
    · have := h.mbl e; omega
    · exact h2 e
    · exact h3 e
  have noR : ∀ k, R.has k → ¬ S k := fun k hk e => by
    rcases hS k e with e | e | e
    · exact h.as_.ap k hk (.inl e)
    · have := h.low k (.inr hk); omega
    · have := h.low k (.inr hk); omega
  refine ⟨⟨h2, h.as_.rt.kept hk noR, h.as_.wf, h.as_.ap, h.as_.rw_⟩, h.low, h.nw, ?_, ?_, h.zl_, h.zr_, ?_, ?_⟩
  · unfold lks
    rw [map_same (a' := ⟨x.q, x.rq, at', rat', dn, is⟩) (fun x => Value.pointer (some ⟨x.q, 0, none⟩)) hx rfl]
    exact h.rl.kept hk (no _ h.zl_ (Rw.apart h.rl hlx.lk (by decide)) (Rw.apart h.rl hlx.rk (by decide)))
  · unfold rks
    rw [map_same (a' := ⟨x.q, x.rq, at', rat', dn, is⟩) (fun x => Value.pointer (some ⟨x.rq, 0, none⟩)) hx rfl]
    exact h.rr.kept hk (no _ h.zr_ (Rw.apart h.rr hlx.lk (by decide)) (Rw.apart h.rr hlx.rk (by decide)))
  · intro i y hy
    by_cases e : j = i
    · subst e
      rw [List.getElem?_set_self hjl] at hy
      obtain rfl := Option.some.inj hy
      exact ⟨hl, hr, n1, n2, hon⟩
    · rw [List.getElem?_set_ne e] at hy
      have hly := h.lo i y hy
      obtain ⟨a1, a2⟩ := h.ap i j y x (Ne.symm e) hy hx
      exact hly.kept hk (no _ hly.nq a1 (Blk.apart hly.lk hlx.rk (by decide))) (no _ hly.nr (Blk.apart hly.rk hlx.lk (by decide)) a2)
  · intro i i2 y y2 hne hy hy2
    have key : ∀ (i : Nat) y, (xs.set j ⟨x.q, x.rq, at', rat', dn, is⟩)[i]? = some y → ∃ y', xs[i]? = some y' ∧ y'.q = y.q ∧ y'.rq = y.rq := by
      intro i y hy
      by_cases e : j = i
      · subst e
        rw [List.getElem?_set_self hjl] at hy
        obtain rfl := Option.some.inj hy
        exact ⟨x, hx, rfl, rfl⟩
      · rw [List.getElem?_set_ne e] at hy
        exact ⟨y, hy, rfl, rfl⟩
    obtain ⟨y', a1, a2, a3⟩ := key i y hy
    obtain ⟨y2', b1, b2, b3⟩ := key i2 y2 hy2
    rw [← a2, ← a3, ← b2, ← b3]
    exact h.ap i i2 y' y2' hne a1 b1
/-- A look more. -/
theorem TS.add (h : TS W w mb t g N did L R zl cl zr cr xs) (hn : L[s]? = some n) (hb : w.heap.size ≤ b) (hrb : w.heap.size ≤ rb) {zl' cl' zr' cr' : Nat} (hk : Kept (fun k => k = zl ∨ k = zr) w w') (hl : Lk w' b t s false false) (hr : RLk w' rb s false false)
    (h1 : zl' = zl ∨ w.heap.size ≤ zl') (h2 : zr' = zr ∨ w.heap.size ≤ zr') (rl : Rw w' zl' cl' 61 (lks xs ++ [.pointer (some ⟨b, 0, none⟩)])) (rr : Rw w' zr' cr' 75 (rks xs ++ [.pointer (some ⟨rb, 0, none⟩)])) :
    TS W w' mb t g N did L R zl' cl' zr' cr' (xs ++ [⟨b, rb, s, s, false, false⟩]) := by
  have hzl := h.zl_
  have hzr := h.zr_
  have hzlt := h.rl.lt
  have low : ∀ k, hasSW mb t g k ∨ R.has k → ¬ (k = zl ∨ k = zr) := fun k e e' => by have := h.low k e; omega
  refine ⟨⟨h.as_.sd.kept hk (fun q hq => low q (.inl hq)) (h.as_.sd.bel.trans (hk.below h.as_.sd.bel.size (fun q e => by have := h.nw; omega))), h.as_.rt.kept hk (fun q hq => low q (.inr hq)), h.as_.wf, h.as_.ap, h.as_.rw_⟩, h.low, h.nw, ?_, ?_, by omega, by omega, ?_, ?_⟩
  · unfold lks at rl ⊢
    rw [List.map_append]; exact rl
  · unfold rks at rr ⊢
    rw [List.map_append]; exact rr
  · intro j y hy
    by_cases e : j < xs.length
    · rw [List.getElem?_append_left e] at hy
      have hly := h.lo j y hy
      refine hly.kept hk (fun e => ?_) (fun e => ?_)
      · rcases e with e | e
        · exact Rw.apart h.rl hly.lk (by decide) e.symm
        · exact Rw.apart h.rr hly.lk (by decide) e.symm
      · rcases e with e | e
        · exact Rw.apart h.rl hly.rk (by decide) e.symm
        · exact Rw.apart h.rr hly.rk (by decide) e.symm
    · rw [List.getElem?_append_right (by omega)] at hy
      have e2 : j - xs.length = 0 := by have := (List.getElem?_eq_some_iff.1 hy).1; simp at this; omega
      rw [e2] at hy
      obtain rfl := Option.some.inj hy
      exact ⟨hl, hr, by show N ≤ b; omega, by show N ≤ rb; omega, fun _ => ⟨rfl, s, n, rfl, rfl, hn⟩⟩
  · have key : ∀ (i : Nat) y, (xs ++ [⟨b, rb, s, s, false, false⟩])[i]? = some y → (xs[i]? = some y ∧ y.q < w.heap.size ∧ y.rq < w.heap.size) ∨ (i = xs.length ∧ y = ⟨b, rb, s, s, false, false⟩) := by
      intro i y hy
      by_cases e : i < xs.length
      · rw [List.getElem?_append_left e] at hy
        exact .inl ⟨hy, (h.lo i y hy).lk.lt, (h.lo i y hy).rk.lt⟩
      · rw [List.getElem?_append_right (by omega)] at hy
        have e2 : i - xs.length = 0 := by have := (List.getElem?_eq_some_iff.1 hy).1; simp at this; omega
        rw [e2] at hy
        obtain rfl := Option.some.inj hy
        exact .inr ⟨by omega, rfl⟩
    intro i i2 y y2 hne hy hy2
    rcases key i y hy with ⟨a1, a2, a3⟩ | ⟨a1, rfl⟩
    · rcases key i2 y2 hy2 with ⟨b1, b2, b3⟩ | ⟨b1, rfl⟩
      · exact h.ap i i2 y y2 hne a1 b1
      · exact ⟨by show y.q ≠ b; omega, by show y.rq ≠ rb; omega⟩
    · rcases key i2 y2 hy2 with ⟨b1, b2, b3⟩ | ⟨b1, rfl⟩
      · exact ⟨by show b ≠ y2.q; omega, by show rb ≠ y2.rq; omega⟩
      · omega
theorem TS.more {w4 w5 w7 : World} {o1 o2 : Obj} (h : TS W w mb t g N did L R zl cl zr cr xs) (hn : L[s]? = some n) (hb : w.heap.size ≤ b) (h4 : Below w.heap.size w w4) (hL : Lk w4 b t s false false)
    {zl' cl' zr' cr' : Nat} (hk5 : Kept (fun k => k = zl) (w4.alloc o1) w5) (r5 : Rw w5 zl' cl' 61 (lks xs ++ [.pointer (some ⟨b, 0, none⟩)])) (e5 : zl' = zl ∨ zl' = (w4.alloc o1).heap.size)
    (hk7 : Kept (fun k => k = zr) ((w5.alloc (.cells #[.int .i64 s, .bool false, .bool false] 77)).alloc o2) w7) (r7 : Rw w7 zr' cr' 75 (rks xs ++ [.pointer (some ⟨w5.heap.size, 0, none⟩)]))
    (e7 : zr' = zr ∨ zr' = ((w5.alloc (.cells #[.int .i64 s, .bool false, .bool false] 77)).alloc o2).heap.size) : TS W w7 mb t g N did L R zl' cl' zr' cr' (xs ++ [⟨b, w5.heap.size, s, s, false, false⟩]) := by
  have hT4 := h.below h4
  have z4 := h4.size
  have z5 := hk5.size
  have z7 := hk7.size
  simp only [World.size_alloc] at z5 z7 e5 e7
  have rr5 := (hT4.rr.alloc o1).kept hk5 (Rw.apart2 hT4.rr hT4.rl (by decide))
  have hL5 := (hL.alloc o1).kept hk5 (fun e => Rw.apart hT4.rl hL (by decide) e.symm)
  have hl7 := (((hL5.alloc (.cells #[.int .i64 s, .bool false, .bool false] 77)).alloc o2).kept hk7 (fun e => Rw.apart rr5 hL5 (by decide) e.symm))
  have hzr := rr5.lt
  have hR5 : RLk (w5.alloc (.cells #[.int .i64 s, .bool false, .bool false] 77)) w5.heap.size s false false := Blk.new w5 _ _
  have hR7 := (hR5.alloc o2).kept hk7 (by omega)
  have rl7 := ((r5.alloc (.cells #[.int .i64 s, .bool false, .bool false] 77)).alloc o2).kept hk7 (Rw.apart2 r5 rr5 (by decide))
  have k7 : Kept (fun k => k = zl ∨ k = zr) w w7 := ((((((Kept.of_below (S := fun k => k = zl ∨ k = zr) h4).alloc o1).trans hk5 (fun _ _ e => .inl e)).alloc _).alloc o2).trans hk7 (fun _ _ e => .inr e))
  exact h.add hn hb (by omega) k7 hl7 hR7 (by omega) (by omega) rl7 r7
end
end Go.Proofs.Ytkdpckoneohjkaa
