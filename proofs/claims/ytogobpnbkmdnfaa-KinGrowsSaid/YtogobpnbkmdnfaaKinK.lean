/-
  WHAT IS PROVED HERE: the contract of pelotonlaw16's pairs over kin.All's iterator. Conditions: the second number is 1 or more.
-/
import Derived.Test.YtogobpnbkmdnfaaKinJ
namespace Go.Proofs.Ytogobpnbkmdnfaa
open Go.RowKit Go.Shelf
attribute [local go_sem] Oper.semAt_some

theorem info_pair : (Try.prog.info? 23).map (fun i => (i.zero, i.size, i.bytes)) = some (some (.agg #[.int .i64 0, .int .i64 0]), 2, 16) := by kernel_rfl
/-- An array of pairs of one's own. -/
structure Pw (w : World) (g cap n : Nat) (vs : List Value) : Prop where
  len : vs.length = n * 2
  blk : ∃ rest, Blk w g 23 (vs ++ rest) ∧ n * 2 + rest.length = cap * 2
  room : cap ≤ maxLen
section
variable {w w' : World} {g cap n : Nat} {vs : List Value}
theorem Pw.lt (h : Pw w g cap n vs) : g < w.heap.size := by
  obtain ⟨rest, hb, _⟩ := h.blk
  exact hb.lt
theorem Pw.kept {S : Nat → Prop} (h : Pw w g cap n vs) (hk : Kept S w w') (hn : ¬ S g) : Pw w' g cap n vs := by
  obtain ⟨rest, hb, r⟩ := h.blk
  exact ⟨h.len, ⟨rest, hb.kept hk hn, r⟩, h.room⟩
theorem Pw.below {B : Nat} (h : Pw w g cap n vs) (hb : Below B w w') (hn : g < B) : Pw w' g cap n vs := by
  obtain ⟨rest, hB, r⟩ := h.blk
  exact ⟨h.len, ⟨rest, hB.below hb hn, r⟩, h.room⟩
theorem Pw.cell (h : Pw w g cap n vs) {j : Nat} {v : Value} (hj : vs[j]? = some v) : w.cell? ⟨g, j, none⟩ = some v := by
  obtain ⟨rest, hb, _⟩ := h.blk
  rw [hb.cell, List.getElem?_append_left (List.getElem?_eq_some_iff.1 hj).1]; exact hj
theorem Pw.own (h : Pw w g cap n vs) : w.ownsRow 0 23 2 (.slice (some ⟨g, 0, none⟩) n cap) n vs := by
  obtain ⟨rest, hb, r⟩ := h.blk
  have hl := h.len
  refine ⟨hl, .inr ⟨g, cap, (vs ++ rest).toArray, rfl, Nat.zero_le _, hb, by omega, h.room, by simp; omega, ?_⟩⟩
  simp [← hl]
theorem Pw.ofOwn (h : w.ownsRow 0 23 2 (.slice (some ⟨g, 0, none⟩) n cap) n vs) : Pw w g cap n vs := by
  rcases h.2 with ⟨e, _⟩ | ⟨g', cap', cur, e, hb, hg, hnc, hcm, hcs, htake⟩
  · simp at e
  · obtain ⟨rfl, rfl⟩ : g = g' ∧ cap = cap' := by simpa using e
    have hl := h.1
    refine ⟨hl, ⟨cur.toList.drop (n * 2), ?_, ?_⟩, hcm⟩
    · unfold Blk
      rw [← htake, List.take_append_drop]
      simpa using hg
    · simp; omega
end
theorem two_cells {w : World} {b : Nat} {t : TypeId} {x y : Value} (h : Blk w b t [x, y]) : ∀ (j : Nat) (u : Value), [x, y][j]? = some u → w.cell? ((⟨b, 0, none⟩ : Addr).add j) = some u := fun j u hj => by
  rw [kadd_plain, Nat.zero_add, h.cell]; exact hj
theorem wpListIn_append_pw {F : Fence} {nF : Nat} (w : World) {ops : Array Oper} {rest : List Oper} {o : Oper} {a : Act} {Q : Exit → Act → World → Prop} (hgd : o.guard = none) (s x : Operand)
    (ho : o.op = .call { callee := .builtin .append, args := #[s, x], argTypes := #[39, 39] })
    (g cap n : Nat) (vs : List Value) (hs : a.eval s = .slice (some ⟨g, 0, none⟩) n cap) (hrow : Pw w g cap n vs)
    (b : Nat) (p q : Int) (hx : a.eval x = .slice (some ⟨b, 0, none⟩) 1 1) (hb : ∀ (j : Nat) (u : Value), [Value.int .i64 p, .int .i64 q][j]? = some u → w.cell? ((⟨b, 0, none⟩ : Addr).add j) = some u) (few : n + 1 ≤ 1000000)
    (hK : ∀ g' cap' w', Pw w' g' cap' (n + 1) (vs ++ [.int .i64 p, .int .i64 q]) → Kept (fun k => k = g) w w' → (g' = g ∨ g' = w.heap.size) → wpListIn F nF Try.prog ops Q rest (a.put o.dst (.slice (some ⟨g', 0, none⟩) (n + 1) cap')) w') : wpListIn F nF Try.prog ops Q (o :: rest) a w := by
  obtain ⟨i0, hi, hz0, hz1, hz2⟩ := info_parts info_pair
  refine wpListIn_append_own_at (F := F) (nF := nF) (P := Try.prog) (w := w) hgd s x 39 ho 0 23 i0 (.agg #[.int .i64 0, .int .i64 0]) 2 16 Try.underlying39 hi hz0 hz1 hz2 (by decide) (by omega) (.slice (some ⟨g, 0, none⟩) n cap) n vs hs hrow.own ⟨b, 0, none⟩ 1 1 [.int .i64 p, .int .i64 q] hx rfl hb
    (by simp; exact ⟨rfl, rfl⟩) (by unfold maxLen; omega) (by omega) (Nat.zero_le _) ?_
  intro v' w' hown hgrow _ hwhere
  obtain ⟨g', cap', rfl⟩ := ownsRow_form hown (by omega)
  refine hK g' cap' w' (Pw.ofOwn hown) ((Kept.refl _ w).grown hgrow (fun k e => .inl ?_)) ?_
  · have e' : g = k := by simpa [Value.ownBlock] using e
    exact e'.symm
  · rcases hwhere with e | e
    · left; simpa [Value.ownBlock] using e
    · right; simpa [Value.ownBlock] using e

/-- Tasks with their parents, as cells. -/
def pcs (l : List Int) (xs : List Nat) : List Value := xs.flatMap fun (x : Nat) => [.int .i64 (x : Int), .int .i64 (parN l x)]
theorem pcs_append (l : List Int) (xs ys : List Nat) : pcs l (xs ++ ys) = pcs l xs ++ pcs l ys := by simp [pcs]
theorem get_pcs (l : List Int) (xs : List Nat) {i x : Nat} (hi : xs[i]? = some x) : (pcs l xs)[i * 2]? = some (.int .i64 x) ∧ (pcs l xs)[i * 2 + 1]? = some (.int .i64 (parN l x)) := by
  induction xs generalizing i with
  | nil => simp at hi
  | cons y ys ih =>
    have hc : pcs l (y :: ys) = [.int .i64 (y : Int), .int .i64 (parN l y)] ++ pcs l ys := rfl
    cases i with
    | zero =>
      simp at hi
      subst hi
      simp [hc]
    | succ i =>
      have := ih (i := i) (by simpa using hi)
      have e0 : (i + 1) * 2 = i * 2 + 2 := by omega
      have e1 : (i + 1) * 2 + 1 = i * 2 + 1 + 2 := by omega
      rw [e1, e0, hc]
      simpa using this
/-- What pairs keeps: its list so far. -/
structure PaI (w : World) (l : List Int) (most : Int) (pre : List Nat) (W : World) (g cap : Nat) : Prop where
  bm : Blk W w.heap.size 3 [.int .i64 most]
  bo : Blk W (w.heap.size + 2) 39 [.slice (some ⟨g, 0, none⟩) pre.length cap]
  row : Pw W g cap pre.length (pcs l pre)
  gt : w.heap.size < g
  ne : g ≠ w.heap.size + 2
  bel : Below w.heap.size w W
theorem PaI.arr {w W : World} {l : List Int} {most : Int} {pre : List Nat} {g cap : Nat} (h : PaI w l most pre W g cap) {k : Nat} : arrOf (w.heap.size + 2) W k ↔ k = g := by
  have hc : W.cell? ⟨w.heap.size + 2, 0, none⟩ = some (.slice (some ⟨g, 0, none⟩) pre.length cap) := h.bo.cell 0
  constructor
  · rintro ⟨g', n, c, h1, rfl⟩
    rw [hc] at h1
    simp at h1
    exact h1.1.symm
  · rintro rfl
    exact ⟨_, _, _, hc, rfl⟩
def PrP (w W : World) (k : Nat) : Prop := k < w.heap.size ∨ k = w.heap.size ∨ k = w.heap.size + 2 ∨ arrOf (w.heap.size + 2) W k
theorem PaI.next {w W w1 : World} {l : List Int} {most : Int} {x : Nat} {pre : List Nat} {g cap g' cap' : Nat} (h : PaI w l most pre W g cap) (ri : Pw w1 g' cap' (pre.length + 1) (pcs l pre ++ [.int .i64 x, .int .i64 (parN l x)])) (hk : Kept (fun k => k = g) (W.alloc (.cells #[.int .i64 x, .int .i64 (parN l x)] 23)) w1) (hw : g' = g ∨ g' = (W.alloc (.cells #[.int .i64 x, .int .i64 (parN l x)] 23)).heap.size) :
    PaI w l most (pre ++ [x]) (w1.setCell ⟨w.heap.size + 2, 0, none⟩ (.slice (some ⟨g', 0, none⟩) (pre.length + 1) cap')) g' cap' ∧
    RoundOk (PrP w) (fun W k => k = w.heap.size + 2 ∨ arrOf (w.heap.size + 2) W k) W (w1.setCell ⟨w.heap.size + 2, 0, none⟩ (.slice (some ⟨g', 0, none⟩) (pre.length + 1) cap')) := by
  have hne := h.ne
  have hgt := h.gt
  have hbo := h.bo.lt
  rw [World.size_alloc] at hw
  have hg' : g' ≠ w.heap.size + 2 := by omega
  have hgt' : w.heap.size < g' := by omega
  have bo1 := (h.bo.alloc (.cells #[.int .i64 x, .int .i64 (parN l x)] 23)).kept hk (Ne.symm hne)
  have bm1 := (h.bm.alloc (.cells #[.int .i64 x, .int .i64 (parN l x)] 23)).kept hk (by omega)
  have kW : Kept (fun k => k = w.heap.size + 2 ∨ arrOf (w.heap.size + 2) W k) W (w1.setCell ⟨w.heap.size + 2, 0, none⟩ (.slice (some ⟨g', 0, none⟩) (pre.length + 1) cap')) :=
    (((Kept.refl (fun k => k = w.heap.size + 2 ∨ arrOf (w.heap.size + 2) W k) W).alloc _).trans hk (fun k _ e => .inr (h.arr.2 e))).setCell (p := ⟨w.heap.size + 2, 0, none⟩) (.inl (.inl rfl)) _
  have hL : PaI w l most (pre ++ [x]) (w1.setCell ⟨w.heap.size + 2, 0, none⟩ (.slice (some ⟨g', 0, none⟩) (pre.length + 1) cap')) g' cap' := by
    refine ⟨bm1.setOther (by simp) _, ?_, ?_, hgt', hg', h.bel.trans (kW.below h.bel.size (fun k e => ?_))⟩
    · have := bo1.set 0 (.slice (some ⟨g', 0, none⟩) (pre.length + 1) cap')
      rw [List.length_append, List.length_singleton]; exact this
    · rw [pcs_append, List.length_append, List.length_singleton]
      have k3 : Kept (fun k => k = w.heap.size + 2) w1 (w1.setCell ⟨w.heap.size + 2, 0, none⟩ (.slice (some ⟨g', 0, none⟩) (pre.length + 1) cap')) := (Kept.refl (fun k => k = w.heap.size + 2) w1).setCell (p := ⟨w.heap.size + 2, 0, none⟩) (.inl rfl) _
      exact ri.kept k3 hg'
    · rcases e with e | e
      · omega
      · have := h.arr.1 e; omega
  refine ⟨hL, kW, fun k hkk e => ?_⟩
  rcases e with e | e | e | e
  · exact .inl e
  · exact .inr (.inl e)
  · exact .inr (.inr (.inl e))
  · have e2 := hL.arr.1 e
    rcases hw with e3 | e3
    · exact .inr (.inr (.inr (h.arr.2 (e2.trans e3))))
    · omega
theorem PaI.go {w W W' : World} {l : List Int} {most : Int} {pre : List Nat} {g cap : Nat} (h : PaI w l most pre W g cap) (hk : Kept (fun k => ¬ PrP w W k) W W') : PaI w l most pre W' g cap ∧ (∀ k, PrP w W' k → PrP w W k) ∧ ∀ k, arrOf (w.heap.size + 2) W' k → arrOf (w.heap.size + 2) W k := by
  have h' : PaI w l most pre W' g cap := ⟨h.bm.kept hk (fun e => e (.inr (.inl rfl))), h.bo.kept hk (fun e => e (.inr (.inr (.inl rfl)))), h.row.kept hk (fun e => e (.inr (.inr (.inr (h.arr.2 rfl))))), h.gt, h.ne,
    h.bel.trans ⟨hk.os, hk.tape, hk.output, hk.size, fun k hkw => hk.block k (by have := h.bel.size; omega) (fun e => e (.inl hkw))⟩⟩
  have ha : ∀ k, arrOf (w.heap.size + 2) W' k → arrOf (w.heap.size + 2) W k := fun k e => h.arr.2 (h'.arr.1 e)
  exact ⟨h', fun k e => e.imp id (fun e => e.imp id (fun e => e.imp id (ha k))), ha⟩
theorem Pw.putObj {w : World} {g cap n : Nat} {vs : List Value} (h : Pw w g cap n vs) {r : Nat} {o : Obj} (o' : Obj) (hl : w.heap[r]? = some o) (ho : o.isCells = false) : Pw (w.putObj r o') g cap n vs := by
  obtain ⟨rest, hb, r⟩ := h.blk
  exact ⟨h.len, ⟨rest, hb.putObj o' hl ho, r⟩, h.room⟩
set_option maxRecDepth 20000 in
set_option maxHeartbeats 2000000 in
theorem kpairs_any (w : World) (bt : Nat) (l : List Int) (hlen : (allN l).length ≤ 1000) (most : Int) (h1 : 1 ≤ most) (rd : Nat → Prop) (hrd : ∀ k, rd k → k < w.heap.size) (hit : ∀ W, Below w.heap.size w W → AllIt W bt l rd) :
    Calls Try.prog 20 #[.func (.func 34) #[] #[.pointer (some ⟨bt, 0, none⟩)], .int .i64 most] w fun e w' =>
      ∃ g cap, e = .returned (.slice (some ⟨g, 0, none⟩) ((allN l).take most.toNat).length cap) ∧ Pw w' g cap ((allN l).take most.toNat).length (pcs l ((allN l).take most.toNat)) ∧ w.heap.size ≤ g ∧ Below w.heap.size w w' := by
  obtain ⟨ls, hls⟩ : ∃ ls, (allN l).take most.toNat = ls := ⟨_, rfl⟩
  rw [hls]
  have HLS := Lib.hid hls
  clear hls
  refine (callsIn_wide (n := 8)).1 ?_
  refine callsIn_of_wp_marks Try.func20 rfl trivial ?_ rfl
  simp only [Try.ntmps20, List.size_toArray, List.length_cons, List.length_nil, Nat.reduceAdd, Nat.reduceSub, Array.replicate_succ, Array.replicate_zero, List.push_toArray, List.append_toArray, List.nil_append, List.cons_append]
  have b0 : Blk (w.alloc (.cells #[.int .i64 most] 3)) w.heap.size 3 [.int .i64 most] := Blk.new w _ [.int .i64 most]
  have bl0 : Below w.heap.size w (w.alloc (.cells #[.int .i64 most] 3)) := (Below.refl _ w).alloc (Nat.le_refl _) _
  have z0 : (w.alloc (.cells #[.int .i64 most] 3)).heap.size = w.heap.size + 1 := by simp
  have d1 : decide (most < 1) = false := by simp; omega
  have hnf : ∀ W : World, Sem.run Try.prog (binOp .eql 42 (.func (.func 34) #[] #[.pointer (some ⟨bt, 0, none⟩)]) .nilFunc) W = .ok (.bool false) W := fun _ => by first | rfl | kernel_rfl
  gi_wp2_with fail
  have hI : PaI w l most [] (((w.alloc (.cells #[.int .i64 most] 3)).alloc (.cells #[] 23)).alloc (.cells #[.slice (some ⟨w.heap.size + 1, 0, none⟩) 0 0] 39)) (w.heap.size + 1) 0 := by
    have e1 : ((w.alloc (.cells #[.int .i64 most] 3)).alloc (.cells #[] 23)).heap.size = w.heap.size + 2 := by simp
    refine ⟨(b0.alloc _).alloc _, ?_, ⟨rfl, ⟨[], ?_, rfl⟩, Nat.zero_le _⟩, by omega, by omega, (bl0.alloc (by simp) _).alloc (by simp; omega) _⟩
    · have := Blk.new ((w.alloc (.cells #[.int .i64 most] 3)).alloc (.cells #[] 23)) 39 [.slice (some ⟨w.heap.size + 1, 0, none⟩) 0 0]
      rwa [e1] at this
    · have := (Blk.new (w.alloc (.cells #[.int .i64 most] 3)) 23 []).alloc (.cells #[.slice (some ⟨w.heap.size + 1, 0, none⟩) 0 0] 39)
      rwa [z0] at this
  have z2 : (((w.alloc (.cells #[.int .i64 most] 3)).alloc (.cells #[] 23)).alloc (.cells #[.slice (some ⟨w.heap.size + 1, 0, none⟩) 0 0] 39)).heap.size = w.heap.size + 3 := by simp
  have hit2 := hit _ hI.bel
  clear b0 bl0 z0 hit
  rw [show w.heap.size + 1 + 1 = w.heap.size + 2 from rfl]
  generalize (((w.alloc (.cells #[.int .i64 most] 3)).alloc (.cells #[] 23)).alloc (.cells #[.slice (some ⟨w.heap.size + 1, 0, none⟩) 0 0] 39)) = wq at *
  refine range_own2 (gf := 34) (lb := #[.pointer (some ⟨bt, 0, none⟩)]) rfl (enters_of Try.func34 (by kernel_rfl) rfl) (by omega) (hit2 (8 - 1) (by omega)) (fun x => rfl)
    (PrP w) (fun W k => k = w.heap.size + 2 ∨ arrOf (w.heap.size + 2) W k)
    (fun pre W => (pre.length : Int) < most ∧ ∃ g cap, PaI w l most pre W g cap)
    (fun c pre W => c = .exit 0 ∧ (pre.length : Int) = most ∧ ∃ g cap, PaI w l most pre W g cap)
    ⟨?_, ?_, ?_⟩ ?_ ?_ ?_ ⟨by simp; omega, w.heap.size + 1, 0, hI⟩
    (fun x => { tmps := #[.func (.func 34) #[] #[.pointer (some ⟨bt, 0, none⟩)], .int .i64 most, undef, .pointer (some ⟨w.heap.size, 0, none⟩), .slice none 0 0, .pointer (some ⟨w.heap.size + 2, 0, none⟩), .int .i64 x, .int .i64 (parN l x), .slice (some ⟨w.heap.size + 1, 0, none⟩) 0 0, .func (.func 34) #[] #[.pointer (some ⟨bt, 0, none⟩)], .bool false,
      .bool false, .int .i64 most, .bool false, .bool false, undef, .func (.func 34) #[] #[.pointer (some ⟨bt, 0, none⟩)], .int .i64 x, .int .i64 (parN l x), undef, undef, undef, undef, undef, undef, undef, undef, undef, undef, undef], defers := [] }) ?assign ?body ?done ?stop
  · rintro pre A k ⟨_, g, cap, h⟩ (e | e | e | e)
    · have := h.bel.size; omega
    · rw [e]; exact h.bm.lt
    · rw [e]; exact h.bo.lt
    · rw [h.arr.1 e]; exact h.row.lt
  · rintro pre A k _ (e | e)
    · exact .inr (.inr (.inl e))
    · exact .inr (.inr (.inr e))
  · rintro pre A B ⟨hp, g, cap, h⟩ hk
    obtain ⟨h1, h2, h3⟩ := h.go hk
    exact ⟨⟨hp, g, cap, h1⟩, h2, fun k e => e.imp id (h3 k)⟩
  · rintro pre A ⟨_, g, cap, h⟩
    refine ⟨fun k e e' => ?_, fun k e e' => e⟩
    have hg := h.gt
    have := hrd k e
    rcases e' with e' | e'
    · omega
    · have := h.arr.1 e'; omega
  · rintro k (e | e)
    · have := hrd k e; omega
    · exact e.elim
  · rintro c pre A r ob o hr hq hc ⟨e1, e2, g, cap, h⟩
    exact ⟨e1, e2, g, cap, h.bm.putObj o hq hc, h.bo.putObj o hq hc, h.row.putObj o hq hc, h.gt, h.ne, below_putObj h.bel o (by omega)⟩
  case assign =>
    intro lp x W K hK
    simp only [encA] at hK ⊢
    gi_wp2
    simpa using hK
  case body =>
    rintro lp pre x W ⟨hp, g, cap, h⟩ hlen'
    have co : W.cell? ⟨w.heap.size + 2, 0, none⟩ = some (.slice (some ⟨g, 0, none⟩) pre.length cap) := h.bo.cell 0
    have cm : W.cell? ⟨w.heap.size, 0, none⟩ = some (.int .i64 most) := h.bm.cell 0
    have hbo := h.bo.lt
    have hbml := h.bm.lt
    have hgt := h.gt
    have hne := h.ne
    have hgl := h.row.lt
    have k1 : Kept (fun _ => False) W (W.alloc (.cells #[.int .i64 x, .int .i64 (parN l x)] 23)) := (Kept.refl _ W).alloc _
    have RI := Lib.hid (h.row.kept k1 id)
    have NB := Lib.hid (two_cells (Blk.new W 23 [.int .i64 x, .int .i64 (parN l x)]))
    have HBO := Lib.hid (h.bo.kept k1 id)
    have HBM := Lib.hid (h.bm.kept k1 id)
    have hlp : pre.length < 1000 := by omega
    have H := Lib.hid h
    have HP := Lib.hid hp
    clear h hp hit2 hlen' k1
    by_cases hge : most ≤ (pre.length : Int) + 1
    · have dg : decide (most ≤ (pre.length : Int) + 1) = true := by simp; omega
      have HG := Lib.hid hge
      clear hge
      gi_wp2_with (gi_at_builtin; go_loud ((refine wpListIn_append_pw _ rfl (.tmp 19) (.tmp 23) rfl g cap pre.length (pcs l pre) rfl RI.out W.heap.size x (parN l x) rfl NB.out (by omega) ?_); (intro g' cap' w1 ri1 hk1 hw1; have bo1 := HBO.out.kept hk1 (Ne.symm hne); have bm1 := HBM.out.kept hk1 (by omega); have co1 := bo1.cell 0; have fo1 := bo1.frozen 0; have cm1 := bm1.cell 0; simp only [List.getElem?_cons_zero] at co1 cm1; have RI1 := Lib.hid ri1; have HK1 := Lib.hid hk1; have HW1 := Lib.hid hw1; clear bo1 bm1 ri1 hk1 hw1)))
      obtain ⟨n1, n2⟩ := H.out.next RI1.out HK1.out HW1.out
      exact ⟨n2.1, rfl, by rw [List.length_append, List.length_singleton]; have := HP.out; have := HG.out; omega, g', cap', n1⟩
    · have dg : decide (most ≤ (pre.length : Int) + 1) = false := by simp; omega
      have HG := Lib.hid hge
      clear hge
      gi_wp2_with (gi_at_builtin; go_loud ((refine wpListIn_append_pw _ rfl (.tmp 19) (.tmp 23) rfl g cap pre.length (pcs l pre) rfl RI.out W.heap.size x (parN l x) rfl NB.out (by omega) ?_); (intro g' cap' w1 ri1 hk1 hw1; have bo1 := HBO.out.kept hk1 (Ne.symm hne); have bm1 := HBM.out.kept hk1 (by omega); have co1 := bo1.cell 0; have fo1 := bo1.frozen 0; have cm1 := bm1.cell 0; simp only [List.getElem?_cons_zero] at co1 cm1; have RI1 := Lib.hid ri1; have HK1 := Lib.hid hk1; have HW1 := Lib.hid hw1; clear bo1 bm1 ri1 hk1 hw1)))
      obtain ⟨n1, n2⟩ := H.out.next RI1.out HK1.out HW1.out
      exact ⟨n2, by rw [List.length_append, List.length_singleton]; have := HG.out; omega, g', cap', n1⟩
  case done =>
    rintro D ys W hD rfl ⟨hp, g, cap, h⟩ hK
    have co : W.cell? ⟨w.heap.size + 2, 0, none⟩ = some (.slice (some ⟨g, 0, none⟩) (allN l).length cap) := h.bo.cell 0
    have hgt := h.gt
    have ht : Hid (ls = allN l) := Lib.hid (by rw [← HLS.out]; exact List.take_of_length_le (by omega))
    have HH := Lib.hid h
    clear h hit2
    gi_wp2
    refine ⟨by simp, .inl ⟨_, _, rfl, run_takeDeferred hK, ?_⟩⟩
    rw [ht.out]
    refine ⟨.slice (some ⟨g, 0, none⟩) (allN l).length cap, ?_, g, cap, rfl, HH.out.row.putObj _ hK rfl, by omega, below_putObj HH.out.bel _ (by omega)⟩
    simp [results, Try.f20, go_sem]
  case stop =>
    rintro D c pre W hD ⟨ys, hys⟩ ⟨rfl, hp, g, cap, h⟩ hK
    have co : W.cell? ⟨w.heap.size + 2, 0, none⟩ = some (.slice (some ⟨g, 0, none⟩) pre.length cap) := h.bo.cell 0
    have hgt := h.gt
    have ht : Hid (ls = pre) := Lib.hid (by rw [← HLS.out, ← hys, show most.toNat = pre.length by omega]; simp)
    have HH := Lib.hid h
    clear h hit2
    gi_wp2
    refine ⟨by simp, .inl ⟨_, _, rfl, run_takeDeferred hK, ?_⟩⟩
    rw [ht.out]
    refine ⟨.slice (some ⟨g, 0, none⟩) pre.length cap, ?_, g, cap, rfl, HH.out.row.putObj _ hK rfl, by omega, below_putObj HH.out.bel _ (by omega)⟩
    simp [results, Try.f20, go_sem]
end Go.Proofs.Ytogobpnbkmdnfaa
