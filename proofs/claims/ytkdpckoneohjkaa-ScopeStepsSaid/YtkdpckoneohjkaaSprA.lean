/-
  WHAT IS PROVED HERE: what the law pelotonlaw14.ScopeSpreads keeps in memory ('SpW'): the tree, who was asked, and three workers with a look each; and how it goes on from call to call. Conditions: none beyond what each theorem names.
-/
import Derived.Test.YtkdpckoneohjkaaAround
namespace Go.Proofs.Ytkdpckoneohjkaa
open Go.RowKit

theorem outs_trans {L : List Sc} (h : WfS L) : ∀ (k o : Nat) (n : Sc), o < k → L[o]? = some n → ∀ a : Nat, (a : Int) ∈ outs L o → ∀ x ∈ outs L a, x ∈ outs L o := by
  intro k
  induction k with
  | zero => intro o n ho; omega
  | succ k ih =>
    intro o n ho hn a ha x hx
    rw [h.outs_eq hn, List.mem_cons] at ha
    rcases ha with e | e
    · have e' : a = o := by omega
      subst e'
      exact hx
    · by_cases e0 : o = 0
      · subst e0
        rw [(h.zero n hn).1, outs_neg (by omega)] at e
        simp at e
      · obtain ⟨q, m, h1, h2, h3, h4⟩ := h.up o n hn (by omega)
        rw [h1] at e
        rw [h.outs_eq hn, h1]
        exact List.mem_cons_of_mem _ (ih q m (by omega) h3 a e x hx)
def bls (l : List Bool) : List Value := l.map Value.bool
theorem length_bls (l : List Bool) : (bls l).length = l.length := by simp [bls]
theorem get_bls (l : List Bool) (i : Nat) : (bls l)[i]? = l[i]?.map Value.bool := by simp [bls]
theorem set_bls (l : List Bool) (i : Nat) (x : Bool) : (bls l).set i (.bool x) = bls (l.set i x) := by simp [bls, List.map_set]
theorem map_same {α β : Type} {l : List α} {i : Nat} {a a' : α} (f : α → β) (h : l[i]? = some a) (e : f a' = f a) : (l.set i a').map f = l.map f := by
  rw [List.map_set, e]
  apply List.ext_getElem?
  intro j
  by_cases hj : i = j
  · subst hj
    have := (List.getElem?_eq_some_iff.1 h).1
    rw [List.getElem?_set_self (by simpa using this), List.getElem?_map, h]; rfl
  · rw [List.getElem?_set_ne hj]

/-- A worker, and its look. -/
structure Wr where
  busy : Bool
  lv : Value
  of : Int
  steps : Int
  hv : Value

/-- A look under way, of which the law knows who was asked ahead of it. -/
structure LkOk (w : World) (N t : Nat) (L : List Sc) (A : List Bool) (r : Wr) (q a : Nat) (m : Sc) (gh ch o : Nat) (n : Sc) (H : List Bool) : Prop where
  lv : r.lv = .pointer (some ⟨q, 0, none⟩)
  nq : N + 6 ≤ q
  lk : Lk w q t a false false
  at_ : L[a]? = some m
  of : r.of = (o : Int)
  on : L[o]? = some n
  st : r.steps + m.nest = n.nest
  s0 : 0 ≤ r.steps
  mem : (a : Int) ∈ outs L o
  hv : r.hv = .slice (some ⟨gh, 0, none⟩) L.length ch
  ng : N + 6 ≤ gh
  row : Rw w gh ch 4 (bls H)
  len : H.length = L.length
  past : ∀ j : Nat, (j : Int) ∈ outs L o → (j : Int) ∉ outs L a → H[j]? = some false
  old : ∀ j : Nat, H[j]? = some true → A[j]? = some true
/-- What the law keeps. -/
structure SpW (W w : World) (mb : MB) (t g bi ci N : Nat) (d : Int) (L : List Sc) (A : List Bool) (ws : List Wr) : Prop where
  sd : SD W w mb t g 200 3 d L
  wf : WfS L
  rin : Rw w bi ci 3 (ints (L.map Sc.par))
  low : ∀ q, hasSW mb t g q ∨ q = bi → q < N
  hi : ¬ hasSW mb t g bi
  nw : W.heap.size ≤ N
  ba : Blk w N 4 (bls A)
  bl : Blk w (N + 1) 61 (ws.map Wr.lv)
  bb : Blk w (N + 2) 4 (bls (ws.map Wr.busy))
  bo : Blk w (N + 3) 3 (ints (ws.map Wr.of))
  bs : Blk w (N + 4) 3 (ints (ws.map Wr.steps))
  bh : Blk w (N + 5) 56 (ws.map Wr.hv)
  la : A.length = L.length
  lw : ws.length = 3
  as_ : ∀ (j : Nat) n, L[j]? = some n → A[j]? = some (decide (¬ n.ask = 0))
  wk : ∀ (i : Nat) r, ws[i]? = some r → r.busy = true → ∃ q a m gh ch o n H, LkOk w N t L A r q a m gh ch o n H
  ap : ∀ (i j : Nat) r r', i ≠ j → ws[i]? = some r → ws[j]? = some r' → r.busy = true → r'.busy = true → r.lv ≠ r'.lv
section
variable {W w w' w2 : World} {mb : MB} {t g bi ci N q a gh ch o s i : Nat} {d : Int} {L : List Sc} {A H : List Bool} {ws : List Wr} {r : Wr} {m n : Sc}
theorem LkOk.kept {S : Nat → Prop} (h : LkOk w N t L A r q a m gh ch o n H) (hk : Kept S w w') (h1 : ¬ S q) (h2 : ¬ S gh) : LkOk w' N t L A r q a m gh ch o n H :=
  ⟨h.lv, h.nq, h.lk.kept hk h1, h.at_, h.of, h.on, h.st, h.s0, h.mem, h.hv, h.ng, h.row.kept hk h2, h.len, h.past, h.old⟩
theorem SpW.below (h : SpW W w mb t g bi ci N d L A ws) (hb : Below w.heap.size w w') : SpW W w' mb t g bi ci N d L A ws := by
  refine ⟨h.sd.below hb, h.wf, h.rin.below hb h.rin.lt, h.low, h.hi, h.nw, h.ba.below hb h.ba.lt, h.bl.below hb h.bl.lt, h.bb.below hb h.bb.lt, h.bo.below hb h.bo.lt, h.bs.below hb h.bs.lt, h.bh.below hb h.bh.lt, h.la, h.lw, h.as_, ?_, h.ap⟩
  intro i r hr hb'
  obtain ⟨q, a, m, gh, ch, o, n, H, hL⟩ := h.wk i r hr hb'
  exact ⟨q, a, m, gh, ch, o, n, H, hL.kept (Kept.of_below (S := fun _ => False) hb) id id⟩
theorem SpW.drewN (h : SpW W w mb t g bi ci N d L A ws) (n : Nat) : SpW W (w.drewN n) mb t g bi ci N d L A ws := h.below (below_drewN' (Below.refl _ w) n)
theorem mb_low (h : SpW W w mb t g bi ci N d L A ws) {k : Nat} (hk : mb.has k) : k < N := h.low k (.inl (.inl hk))
/-- All but the workers' arrays, after a change of the machine's blocks, of arrays, and of one look. -/
theorem SpW.wkept {S : Nat → Prop} (h : SpW W w mb t g bi ci N d L A ws) (hk : Kept S w w') (hS : ∀ k, S k → k < N + 6) {i : Nat} {r : Wr} (hr : ws[i]? = some r) (hb : r.busy = true) :
    ∃ q a m gh ch o n H, LkOk w' N t L A r q a m gh ch o n H := by
  obtain ⟨q, a, m, gh, ch, o, n, H, hL⟩ := h.wk i r hr hb
  have h1 := hL.nq
  have h2 := hL.ng
  exact ⟨q, a, m, gh, ch, o, n, H, hL.kept hk (fun e => by have := hS q e; omega) (fun e => by have := hS gh e; omega)⟩

theorem askS_wf (h : WfS L) (hn : L[s]? = some n) : WfS (askS L s n) := by
  unfold askS
  split
  · exact h.set hn _ rfl rfl
  · exact h
theorem askS_outs (h : WfS L) (hn : L[s]? = some n) {k : Nat} {m : Sc} (hm : L[k]? = some m) : outs (askS L s n) k = outs L k := by
  unfold askS
  split
  · exact outs_set h hn { n with ask := 1 } rfl rfl (k + 1) k m (by omega) hm
  · rfl
theorem askS_par (hn : L[s]? = some n) : (askS L s n).map Sc.par = L.map Sc.par := by
  unfold askS
  split
  · exact map_same Sc.par hn rfl
  · rfl
theorem askS_len : (askS L s n).length = L.length := by
  unfold askS
  split <;> simp
/-- What a scope is after one was asked. -/
theorem askS_get (hn : L[s]? = some n) {k : Nat} {m : Sc} (hm : L[k]? = some m) : ∃ m', (askS L s n)[k]? = some m' ∧ m'.par = m.par ∧ m'.nest = m.nest := by
  unfold askS
  split
  · by_cases e : s = k
    · subst e
      rw [hn] at hm
      obtain rfl := Option.some.inj hm
      exact ⟨{ n with ask := 1 }, by rw [List.getElem?_set_self (sc_lt hn)], rfl, rfl⟩
    · exact ⟨m, by rw [List.getElem?_set_ne e]; exact hm, rfl, rfl⟩
  · exact ⟨m, hm, rfl, rfl⟩
theorem askS_ask (hn : L[s]? = some n) {k : Nat} {m : Sc} (hm : (askS L s n)[k]? = some m) : if k = s then ¬ m.ask = 0 else L[k]? = some m := by
  unfold askS at hm
  split at hm
  · by_cases e : s = k
    · subst e
      rw [List.getElem?_set_self (sc_lt hn)] at hm
      obtain rfl := Option.some.inj hm
      rw [if_pos rfl]; simp
    · rw [List.getElem?_set_ne e] at hm
      rw [if_neg (fun h => e h.symm)]; exact hm
  · by_cases e : k = s
    · subst e
      rw [hn] at hm
      obtain rfl := Option.some.inj hm
      rw [if_pos rfl]; assumption
    · rw [if_neg e]; exact hm
theorem LkOk.ask (h : LkOk w N t L A r q a m gh ch o n H) (hw : WfS L) {x : Sc} (hx : L[s]? = some x) (la : A.length = L.length) : ∃ m' n', LkOk w N t (askS L s x) (A.set s true) r q a m' gh ch o n' H := by
  obtain ⟨m', a1, a2, a3⟩ := askS_get hx h.at_
  obtain ⟨n', b1, b2, b3⟩ := askS_get hx h.on
  have hs := sc_lt hx
  refine ⟨m', n', h.lv, h.nq, h.lk, a1, h.of, b1, by rw [a3, b3]; exact h.st, h.s0, by rw [askS_outs hw hx h.on]; exact h.mem, by rw [askS_len]; exact h.hv, h.ng, h.row, by rw [askS_len]; exact h.len, ?_, ?_⟩
  · intro j
    rw [askS_outs hw hx h.on, askS_outs hw hx h.at_]
    exact h.past j
  · intro j hj
    have := h.old j hj
    by_cases e : s = j
    · subst e; rw [List.getElem?_set_self (by omega)]
    · rw [List.getElem?_set_ne e]; exact this
/-- A scope is asked. -/
theorem SpW.ask (h : SpW W w mb t g bi ci N d L A ws) {x : Sc} (hx : L[s]? = some x) (h2 : SD W w' mb t g 200 3 (d + 1) (askS L s x)) (hk : Kept mb.has w w') :
    SpW W (w'.setCell ⟨N, s, none⟩ (.bool true)) mb t g bi ci N (d + 1) (askS L s x) (A.set s true) ws := by
  have hlw : ∀ k, mb.has k → k < N := fun k hk => mb_low h hk
  have no : ∀ k, N ≤ k → ¬ mb.has k := fun k hk e => by have := hlw k e; omega
  have hbi : bi < N := h.low bi (.inr rfl)
  have hk2 : Kept (fun k => mb.has k ∨ k = N) w (w'.setCell ⟨N, s, none⟩ (.bool true)) := (hk.mono (fun k _ e => .inl e)).setCell (p := ⟨N, s, none⟩) (.inl (.inr rfl)) _
  have hs := sc_lt hx
  have hst : Kept (fun k => k = N) w' (w'.setCell ⟨N, s, none⟩ (.bool true)) := (Kept.refl (fun k => k = N) w').setCell (p := ⟨N, s, none⟩) (.inl rfl) _
  refine ⟨h2.kept hst (fun q hq e => by have := h.low q (.inl hq); omega) (h2.bel.trans (hst.below h2.bel.size (fun q e => by rw [e]; exact h.nw))), askS_wf h.wf hx, ?_, h.low, h.hi, h.nw, ?_, ?_, ?_, ?_, ?_, ?_, ?_, h.lw, ?_, ?_, h.ap⟩
  · rw [askS_par hx]
    exact h.rin.kept hk2 (by rintro (e | e); exact h.hi (.inl e); omega)
  · have := (h.ba.kept hk (no N (Nat.le_refl _))).set s (.bool true)
    rwa [set_bls] at this
  · exact h.bl.kept hk2 (by rintro (e | e); exact no _ (by omega) e; omega)
  · exact h.bb.kept hk2 (by rintro (e | e); exact no _ (by omega) e; omega)
  · exact h.bo.kept hk2 (by rintro (e | e); exact no _ (by omega) e; omega)
  · exact h.bs.kept hk2 (by rintro (e | e); exact no _ (by omega) e; omega)
  · exact h.bh.kept hk2 (by rintro (e | e); exact no _ (by omega) e; omega)
  · rw [List.length_set, askS_len]; exact h.la
  · intro j y hy
    have := askS_ask hx hy
    by_cases e : j = s
    · subst e
      rw [if_pos rfl] at this
      rw [List.getElem?_set_self (by rw [h.la]; exact hs), decide_eq_true this]
    · rw [if_neg e] at this
      rw [List.getElem?_set_ne (fun h => e h.symm)]
      exact h.as_ j y this
  · intro i r hr hb
    obtain ⟨q, a, m, gh, ch, o, n, H, hL⟩ := h.wkept hk2 (by rintro k (e | e); have := hlw k e; omega; omega) hr hb
    obtain ⟨m', n', hL'⟩ := hL.ask h.wf hx h.la
    exact ⟨q, a, m', gh, ch, o, n', H, hL'⟩
/-- A worker takes up a new look. -/
theorem SpW.look (h : SpW W w mb t g bi ci N d L A ws) (hi : ws[i]? = some r) (hx : L[s]? = some n) {b : Nat} (hb : w.heap.size ≤ b) (hk : Kept (fun k => N + 1 ≤ k ∧ k ≤ N + 5) w w') (hL : Lk w' b t s false false)
    (hg : w.heap.size ≤ gh) (hrow : Rw w' gh ch 4 (bls A)) {r' : Wr} (hr' : r' = ⟨true, .pointer (some ⟨b, 0, none⟩), s, 0, .slice (some ⟨gh, 0, none⟩) L.length ch⟩)
    (bl : Blk w' (N + 1) 61 ((ws.set i r').map Wr.lv)) (bb : Blk w' (N + 2) 4 (bls ((ws.set i r').map Wr.busy))) (bo : Blk w' (N + 3) 3 (ints ((ws.set i r').map Wr.of)))
    (bs : Blk w' (N + 4) 3 (ints ((ws.set i r').map Wr.steps))) (bh : Blk w' (N + 5) 56 ((ws.set i r').map Wr.hv)) : SpW W w' mb t g bi ci N d L A (ws.set i r') := by
  have hbi : bi < N := h.low bi (.inr rfl)
  have hN := h.bh.lt
  have hilt : i < ws.length := (List.getElem?_eq_some_iff.1 hi).1
  have hn0 := h.wf.deep s n hx
  refine ⟨h.sd.kept hk (fun q hq e => by have := h.low q (.inl hq); omega) (h.sd.bel.trans (hk.below h.sd.bel.size (fun q e => by have := h.nw; omega))), h.wf, h.rin.kept hk (by omega), h.low, h.hi, h.nw, h.ba.kept hk (by omega), bl, bb, bo, bs, bh, h.la, by rw [List.length_set]; exact h.lw, h.as_, ?_, ?_⟩
  · intro j y hy hyb
    by_cases e : i = j
    · subst e
      rw [List.getElem?_set_self hilt] at hy
      obtain rfl := Option.some.inj hy
      subst hr'
      exact ⟨b, s, n, gh, ch, s, n, A, rfl, by omega, hL, hx, rfl, hx, by show (0 : Int) + n.nest = n.nest; omega, Int.le_refl _, by rw [h.wf.outs_eq hx]; simp, rfl, by omega, hrow, h.la, fun j h1 h2 => absurd h1 h2, fun j h => h⟩
    · rw [List.getElem?_set_ne e] at hy
      exact h.wkept hk (by omega) hy hyb
  · have key : ∀ (j : Nat) y, i ≠ j → (ws.set i r')[j]? = some y → y.busy = true → y.lv ≠ .pointer (some ⟨b, 0, none⟩) := by
      intro j y hj hy hyb e
      rw [List.getElem?_set_ne hj] at hy
      obtain ⟨q, a, m, gh, ch, o, n, H, hL⟩ := h.wk j y hy hyb
      rw [hL.lv] at e
      injection e with e
      injection e with e
      injection e with e
      have := hL.lk.lt
      omega
    intro j k y z hjk hy hz hyb hzb
    by_cases e : i = j
    · subst e
      rw [List.getElem?_set_self hilt] at hy
      obtain rfl := Option.some.inj hy
      subst hr'
      exact fun h => key k z hjk hz hzb h.symm
    · by_cases e2 : i = k
      · subst e2
        rw [List.getElem?_set_self hilt] at hz
        obtain rfl := Option.some.inj hz
        subst hr'
        exact key j y e hy hyb
      · rw [List.getElem?_set_ne e] at hy
        rw [List.getElem?_set_ne e2] at hz
        exact h.ap j k y z hjk hy hz hyb hzb
/-- A step of a worker's look: the other workers, and what is alike whatever the step tells. -/
theorem SpW.step (h : SpW W w mb t g bi ci N d L A ws) (hi : ws[i]? = some r) (hb : r.busy = true) (hK : LkOk w N t L A r q a m gh ch o n H) {S : Nat → Prop} (hk : Kept S w w') (hS : ∀ k, S k → mb.has k ∨ k = q ∨ k = N + 4 ∨ k = N + 2) {d' : Int} (h2 : SD W w' mb t g 200 3 d' L)
    {r' : Wr} (hlv : r'.lv = r.lv) (hof : r'.of = r.of) (hhv : r'.hv = r.hv) (bb : Blk w' (N + 2) 4 (bls ((ws.set i r').map Wr.busy))) (bs : Blk w' (N + 4) 3 (ints ((ws.set i r').map Wr.steps)))
    (hnew : r'.busy = true → ∃ a m, LkOk w' N t L A r' q a m gh ch o n H) : SpW W w' mb t g bi ci N d' L A (ws.set i r') := by
  have hbi : bi < N := h.low bi (.inr rfl)
  have hq := hK.nq
  have hlow : ∀ k, mb.has k → k < N := fun k e => mb_low h e
  have no : ∀ k, N ≤ k → k ≠ q → k ≠ N + 4 → k ≠ N + 2 → ¬ S k := by
    intro k h1 h2 h3 h4 e
    rcases hS k e with e | e | e | e
    · have := hlow k e; omega
    · exact h2 e
    · exact h3 e
    · exact h4 e
  have hilt : i < ws.length := (List.getElem?_eq_some_iff.1 hi).1
  have nbi : ¬ S bi := by
    intro e
    rcases hS bi e with e | e | e | e
    · exact h.hi (.inl e)
    · omega
    · omega
    · omega
  refine ⟨h2, h.wf, h.rin.kept hk nbi, h.low, h.hi, h.nw, h.ba.kept hk (no _ (by omega) (by omega) (by omega) (by omega)), ?_, bb, ?_, bs, ?_, h.la, by rw [List.length_set]; exact h.lw, h.as_, ?_, ?_⟩
  · rw [map_same Wr.lv hi hlv]; exact h.bl.kept hk (no _ (by omega) (by omega) (by omega) (by omega))
  · rw [map_same Wr.of hi hof]; exact h.bo.kept hk (no _ (by omega) (by omega) (by omega) (by omega))
  · rw [map_same Wr.hv hi hhv]; exact h.bh.kept hk (no _ (by omega) (by omega) (by omega) (by omega))
  · intro j y hy hyb
    by_cases e : i = j
    · subst e
      rw [List.getElem?_set_self hilt] at hy
      obtain rfl := Option.some.inj hy
      obtain ⟨a', m', hL'⟩ := hnew hyb
      exact ⟨q, a', m', gh, ch, o, n, H, hL'⟩
    · rw [List.getElem?_set_ne e] at hy
      obtain ⟨q', a', m', gh', ch', o', n', H', hL'⟩ := h.wk j y hy hyb
      have ne : q' ≠ q := by
        have := h.ap i j r y e hi hy hb hyb
        rw [hK.lv, hL'.lv] at this
        intro e'
        exact this (by rw [e'])
      have h1 := hL'.nq
      have h2 := hL'.ng
      exact ⟨q', a', m', gh', ch', o', n', H', hL'.kept hk (no _ (by omega) ne (by omega) (by omega)) (no _ (by omega) (Rw.apart hL'.row hK.lk (by decide)) (by omega) (by omega))⟩
  · intro j k y z hjk hy hz hyb hzb
    by_cases e : i = j
    · subst e
      rw [List.getElem?_set_self hilt] at hy
      obtain rfl := Option.some.inj hy
      rw [List.getElem?_set_ne hjk] at hz
      rw [hlv]
      exact h.ap i k r z hjk hi hz hb hzb
    · rw [List.getElem?_set_ne e] at hy
      by_cases e2 : i = k
      · subst e2
        rw [List.getElem?_set_self hilt] at hz
        obtain rfl := Option.some.inj hz
        rw [hlv]
        exact h.ap j i y r hjk hy hi hyb hb
      · rw [List.getElem?_set_ne e2] at hz
        exact h.ap j k y z hjk hy hz hyb hzb
/-- The look goes on: the scope it was at was not asked, and is not the world. -/
theorem LkOk.next (hK : LkOk w N t L A r q a m gh ch o n H) (hw : WfS L) (has : A[a]? = some false) (h0 : a ≠ 0) {S : Nat → Prop} (hk : Kept S w w') (hg : ¬ S gh) (hL : Lk w' q t m.par false false) {r' : Wr} (hlv : r'.lv = r.lv) (hof : r'.of = r.of) (hhv : r'.hv = r.hv) (hst : r'.steps = r.steps + 1) :
    ∃ a m, LkOk w' N t L A r' q a m gh ch o n H := by
  obtain ⟨p, m2, hp, hlt, hm2, hne⟩ := hw.up a m hK.at_ (by omega)
  rw [hp] at hL
  have ho := hw.outs_eq hK.at_
  rw [hp] at ho
  have hst' := hK.st
  have hs0 := hK.s0
  refine ⟨p, m2, by rw [hlv]; exact hK.lv, hK.nq, hL, hm2, by rw [hof]; exact hK.of, hK.on, by rw [hst]; omega, by rw [hst]; omega, ?_, by rw [hhv]; exact hK.hv, hK.ng, hK.row.kept hk hg, hK.len, ?_, hK.old⟩
  · exact outs_trans hw (o + 1) o n (by omega) hK.on a hK.mem p (by rw [ho, hw.outs_eq hm2]; simp)
  · intro j h1 h2
    by_cases e : (j : Int) ∈ outs L a
    · rw [ho, List.mem_cons] at e
      rcases e with e | e
      · have e' : j = a := by omega
        subst e'
        have hj : j < H.length := by rw [hK.len]; exact sc_lt hK.at_
        cases hc : H[j]? with
        | none => rw [List.getElem?_eq_none_iff] at hc; omega
        | some v =>
          cases v with
          | false => rfl
          | true =>
            have := hK.old j hc
            rw [has] at this
            cases this
      · exact absurd e h2
    · exact hK.past j h1 e
end
end Go.Proofs.Ytkdpckoneohjkaa
