/-
  WHAT IS PROVED HERE: kin.All's iterator of any tree, nil too; the contract of kin's Order. Conditions: the pointer is a tree's, or nil.
-/
import Derived.Test.YtogobpnbkmdnfaaKinI
namespace Go.Proofs.Ytogobpnbkmdnfaa
open Go.RowKit Go.Shelf
attribute [local go_sem] Oper.semAt_some

set_option maxRecDepth 20000 in
set_option maxHeartbeats 1000000 in
theorem all1_empty (n : Nat) (hn : 6 ≤ n) (bt : Nat) (pv : Option Addr) (l : List Int) (rd : Nat → Prop) (w : World) (tt : TypeId) (hbt : Blk w bt tt [.pointer pv])
    (hhas : ∀ (b : Nat) (W : World), Below w.heap.size w W → Blk W b 3 (ints [0]) → Calls Try.prog 32 #[.pointer pv, .slice (some ⟨b, 0, none⟩) 1 1] W fun e w' => e = .returned (.bool false) ∧ W = w') :
    SeqP n Try.prog 34 #[.pointer (some ⟨bt, 0, none⟩)] (encA l) rd (fun _ => False) (fun ys => ys = []) (fun pre => pre <+: []) 0 w := by
  intro lp Pr Wr J Jx W hbW hSt hOwn hY hJxs h0
  have hbt := hbt.below hbW hbt.lt
  have c0 : W.cell? ⟨bt, 0, none⟩ = some (.pointer pv) := hbt.cell 0
  have b1 := kbox1 W 3 0
  have bb1 : Below W.heap.size W (W.alloc (.cells #[.int .i64 0] 3)) := (Below.refl _ W).alloc (Nat.le_refl _) _
  have hh := hhas _ _ (hbW.trans (bb1.mono hbW.size)) b1
  obtain ⟨hJ1, _, _⟩ := hSt.go _ _ _ h0 (((Kept.refl (fun k => ¬ Pr W k) W).alloc (.cells #[.int .i64 0] 3)))
  clear hhas hY hJxs hOwn
  refine callsIn_of_wp Try.func34 rfl trivial ?_ rfl
  simp only [Try.ntmps34, List.size_toArray, List.length_cons, List.length_nil, Nat.reduceAdd, Nat.reduceSub, Array.replicate_succ, Array.replicate_zero, List.push_toArray, List.append_toArray, List.nil_append, List.cons_append]
  gi_wp2_with fail
  refine ⟨trivial, fun _ => by omega, ?_⟩
  refine (callsIn_wide.2 hh).mono ?_
  rintro e w1 ⟨rfl, rfl⟩
  clear hh
  gi_wp2
  refine bodyPost_ret (results_none rfl _ _ _) rfl ?_
  exact ⟨⟨_, rfl⟩, .inl ⟨[], rfl, hJ1⟩⟩
/-- The closure that All hands out, by its box: it tells the order of l; rd: what it reads. -/
def AllIt (w : World) (bt : Nat) (l : List Int) (rd : Nat → Prop) : Prop :=
  ∀ n, 6 ≤ n → SeqP n Try.prog 34 #[.pointer (some ⟨bt, 0, none⟩)] (encA l) rd (fun _ => False) (fun ys => ys = allN l) (fun pre => pre <+: allN l) (allN l).length w
theorem allIt_tree {w : World} {p bt : Nat} {own : Nat → Prop} {l : List Int} {tt : TypeId} (hT : KT w p own l) (few : l.length ≤ 1000) (hbt : Blk w bt tt [.pointer (some ⟨p, 0, none⟩)]) : AllIt w bt l (fun k => k = bt ∨ own k) := fun n hn => by
  by_cases h0 : l = []
  · subst h0
    refine all1_empty n hn bt (some ⟨p, 0, none⟩) [] _ w tt hbt (fun b W hb hB => ?_)
    exact khas1 (hT.below hb (Nat.le_refl _)) hB (by simp [inK])
  · have := all1_seq n hn bt p own l few (List.length_pos_iff.2 h0) w tt hbt hT
    unfold allN
    rw [if_neg h0]
    exact this
theorem allIt_nil {w : World} {bt : Nat} {tt : TypeId} (hbt : Blk w bt tt [.pointer none]) : AllIt w bt [] (fun k => k = bt) := fun n hn =>
  all1_empty n hn bt none [] _ w tt hbt (fun b W _ hB => khas_nil [0] b _ W hB (by simp))
theorem allN_length {l : List Int} (hw : WfP l) : (allN l).length = l.length := by
  unfold allN
  split
  · next h => rw [h]; rfl
  · next h => exact (ordN_root hw (List.length_pos_iff.2 h)).1

/-- What Order keeps: its list so far. -/
structure OrI (w : World) (pre : List Nat) (W : World) (A : Option Addr) (cap : Nat) : Prop where
  bo : Blk W w.heap.size 22 [.slice A pre.length cap]
  row : Ls W (w.heap.size + 2) A cap (nI pre)
  bel : Below w.heap.size w W
  sz : w.heap.size + 2 ≤ W.heap.size
theorem OrI.arr {w W : World} {pre : List Nat} {A : Option Addr} {cap : Nat} (h : OrI w pre W A cap) {k : Nat} : arrOf w.heap.size W k ↔ A = some ⟨k, 0, none⟩ := by
  have hc : W.cell? ⟨w.heap.size, 0, none⟩ = some (.slice A pre.length cap) := h.bo.cell 0
  constructor
  · rintro ⟨g', n, c, h1, rfl⟩
    rw [hc] at h1
    simp at h1
    exact h1.1
  · rintro rfl
    exact ⟨_, _, _, hc, rfl⟩
theorem OrI.far {w W : World} {pre : List Nat} {A : Option Addr} {cap : Nat} (h : OrI w pre W A cap) {k : Nat} (e : arrOf w.heap.size W k) : w.heap.size + 2 ≤ k ∧ k < W.heap.size := by
  have e2 := h.arr.1 e
  refine ⟨h.row.at_ k e2, ?_⟩
  rcases h.row with ⟨e3, _⟩ | ⟨g, e3, hr, _⟩
  · rw [e3] at e2; cases e2
  · rw [e3] at e2
    have e4 : g = k := congrArg Addr.block (Option.some.inj e2)
    exact e4 ▸ hr.lt
def PrO (w W : World) (k : Nat) : Prop := k < w.heap.size ∨ k = w.heap.size ∨ arrOf w.heap.size W k
theorem OrI.next {w W w1 : World} {pre : List Nat} {x : Nat} {A : Option Addr} {cap g' cap' : Nat} (h : OrI w pre W A cap) (h1 : Ls w1 (w.heap.size + 2) (some ⟨g', 0, none⟩) cap' (nI pre ++ [(x : Int)])) (hk : Kept (fun k => A = some ⟨k, 0, none⟩) (W.alloc (.cells #[.int .i64 x] 3)) w1) (hw : A = some ⟨g', 0, none⟩ ∨ g' = (W.alloc (.cells #[.int .i64 x] 3)).heap.size) :
    OrI w (pre ++ [x]) (w1.setCell ⟨w.heap.size, 0, none⟩ (.slice (some ⟨g', 0, none⟩) (pre.length + 1) cap')) (some ⟨g', 0, none⟩) cap' ∧
    RoundOk (PrO w) (fun W k => k = w.heap.size ∨ arrOf w.heap.size W k) W (w1.setCell ⟨w.heap.size, 0, none⟩ (.slice (some ⟨g', 0, none⟩) (pre.length + 1) cap')) := by
  have hbo := h.bo.lt
  have hfar : ∀ k, A = some ⟨k, 0, none⟩ → w.heap.size + 2 ≤ k := h.row.at_
  have hg' : w.heap.size + 2 ≤ g' := h1.at_ g' rfl
  have kA : Kept (fun k => A = some ⟨k, 0, none⟩) W w1 := ((Kept.refl (fun k => A = some ⟨k, 0, none⟩) W).alloc _).trans hk (fun _ _ e => e)
  have k2 : Kept (fun k => k = w.heap.size ∨ arrOf w.heap.size W k) W (w1.setCell ⟨w.heap.size, 0, none⟩ (.slice (some ⟨g', 0, none⟩) (pre.length + 1) cap')) := (kA.mono (S' := fun k => k = w.heap.size ∨ arrOf w.heap.size W k) (fun k _ e => .inr (h.arr.2 e))).setCell (p := ⟨w.heap.size, 0, none⟩) (.inl (.inl rfl)) _
  have hO : OrI w (pre ++ [x]) (w1.setCell ⟨w.heap.size, 0, none⟩ (.slice (some ⟨g', 0, none⟩) (pre.length + 1) cap')) (some ⟨g', 0, none⟩) cap' := by
    refine ⟨?_, ?_, h.bel.trans (k2.below h.bel.size (fun k e => ?_)), Nat.le_trans h.sz k2.size⟩
    · have := (h.bo.kept kA (fun e => by have := hfar _ e; omega)).set 0 (.slice (some ⟨g', 0, none⟩) (pre.length + 1) cap')
      rw [List.length_append, List.length_singleton]; exact this
    · rw [nI_append]
      rcases h1 with ⟨e, _⟩ | ⟨g2, e, hr, hg2⟩
      · cases e
      · have e2 : g' = g2 := congrArg Addr.block (Option.some.inj e)
        subst e2
        exact .inr ⟨g', rfl, hr.setOther (p := ⟨w.heap.size, 0, none⟩) (by show g' ≠ w.heap.size; omega) _, hg2⟩
    · rcases e with e | e
      · omega
      · have := (h.far e).1; omega
  refine ⟨hO, k2, fun k hkW e => ?_⟩
  rcases e with e | e | e
  · exact .inl e
  · exact .inr (.inl e)
  · right; right
    have e2 : g' = k := congrArg Addr.block (Option.some.inj (hO.arr.1 e))
    rcases hw with e3 | e3
    · exact h.arr.2 (e2 ▸ e3)
    · rw [World.size_alloc] at e3; omega
theorem OrI.go {w W W' : World} {pre : List Nat} {A : Option Addr} {cap : Nat} (h : OrI w pre W A cap) (hk : Kept (fun k => ¬ PrO w W k) W W') : OrI w pre W' A cap ∧ (∀ k, PrO w W' k → PrO w W k) ∧ ∀ k, arrOf w.heap.size W' k → arrOf w.heap.size W k := by
  have h' : OrI w pre W' A cap := ⟨h.bo.kept hk (fun e => e (.inr (.inl rfl))), h.row.kept hk (fun g e e2 => e2 (.inr (.inr (h.arr.2 e)))),
    h.bel.trans ⟨hk.os, hk.tape, hk.output, hk.size, fun k hkw => hk.block k (by have := h.bel.size; omega) (fun e => e (.inl hkw))⟩, Nat.le_trans h.sz hk.size⟩
  have ha : ∀ k, arrOf w.heap.size W' k → arrOf w.heap.size W k := fun k e => h.arr.2 (h'.arr.1 e)
  exact ⟨h', fun k e => e.imp id (fun e => e.imp id (ha k)), ha⟩
set_option maxRecDepth 20000 in
set_option maxHeartbeats 2000000 in
theorem korder_any (w : World) (pv : Option Addr) (l : List Int) (hlen : (allN l).length ≤ 1000) (rd : Nat → Prop) (hrd : ∀ k, rd k → k < w.heap.size ∨ k = w.heap.size + 1)
    (hit : ∀ W, Below w.heap.size w W → Blk W (w.heap.size + 1) 25 [.pointer pv] → AllIt W (w.heap.size + 1) l rd) :
    Calls Try.prog 22 #[.pointer pv] w fun e w' => ∃ A cap, e = .returned (.slice A (allN l).length cap) ∧ Ls w' w.heap.size A cap (nI (allN l)) ∧ Below w.heap.size w w' := by
  refine (callsIn_wide (n := 8)).1 ?_
  refine callsIn_of_wp_marks Try.func22 rfl trivial ?_ rfl
  simp only [Try.ntmps22, List.size_toArray, List.length_cons, List.length_nil, Nat.reduceAdd, Nat.reduceSub, Array.replicate_succ, Array.replicate_zero, List.push_toArray, List.append_toArray, List.nil_append, List.cons_append]
  have b0 : Blk (w.alloc (.cells #[.slice none 0 0] 22)) w.heap.size 22 [.slice none 0 0] := Blk.new w _ _
  have bb0 : Below w.heap.size w (w.alloc (.cells #[.slice none 0 0] 22)) := (Below.refl _ w).alloc (Nat.le_refl _) _
  have z0 : (w.alloc (.cells #[.slice none 0 0] 22)).heap.size = w.heap.size + 1 := by simp
  gi_wp2_with fail
  refine ⟨trivial, ?_⟩
  refine (callsIn_wide.2 (all_any pv _)).mono ?_
  rintro e w2 ⟨rfl, hw2⟩
  rw [z0]
  have hbs : Blk w2 (w.heap.size + 1) 25 [.pointer pv] := by
    rw [← hw2]
    have := Blk.new (w.alloc (.cells #[.slice none 0 0] 22)) 25 [.pointer pv]
    rwa [z0] at this
  have hb0 : Blk w2 w.heap.size 22 [.slice none 0 0] := by rw [← hw2]; exact b0.alloc _
  have bb2 : Below w.heap.size w w2 := by rw [← hw2]; exact bb0.alloc (by simp) _
  have hz2 : w2.heap.size = w.heap.size + 2 := by rw [← hw2]; simp
  have hit2 := hit w2 bb2 hbs
  have HI0 : Hid (OrI w [] w2 none 0) := Lib.hid ⟨hb0, Ls.nil _ _, bb2, by omega⟩
  clear hw2 b0 bb0 z0 hit hbs hb0 bb2
  gi_wp2_with fail
  refine range_own2 (gf := 34) (lb := #[.pointer (some ⟨w.heap.size + 1, 0, none⟩)]) rfl (enters_of Try.func34 (by kernel_rfl) rfl) (by omega) (hit2 (8 - 1) (by omega)) (fun x => rfl)
    (PrO w) (fun W k => k = w.heap.size ∨ arrOf w.heap.size W k)
    (fun pre W => ∃ A cap, OrI w pre W A cap)
    (fun _ _ _ => False)
    ⟨?_, ?_, ?_⟩ ?_ ?_ ?_ ⟨none, 0, HI0.out⟩
    (fun x => { tmps := #[.pointer pv, undef, .slice none 0 0, .pointer (some ⟨w.heap.size, 0, none⟩), .int .i64 x, .pointer pv, .func (.func 34) #[] #[.pointer (some ⟨w.heap.size + 1, 0, none⟩)], .int .i64 x, .int .i64 (parN l x), undef, undef, undef, undef, undef], defers := [] }) ?assign ?body ?done ?stop
  · rintro pre A k ⟨B, cap, h⟩ (e | e | e)
    · have := h.bel.size; omega
    · rw [e]; exact h.bo.lt
    · exact (h.far e).2
  · rintro pre A k _ (e | e)
    · exact .inr (.inl e)
    · exact .inr (.inr e)
  · rintro pre A B ⟨D, cap, h⟩ hk
    obtain ⟨h1, h2, h3⟩ := h.go hk
    exact ⟨⟨D, cap, h1⟩, h2, fun k e => e.imp id (h3 k)⟩
  · rintro pre A ⟨D, cap, h⟩
    refine ⟨fun k e e' => ?_, fun k e e' => e⟩
    rcases e' with e' | e'
    · rcases hrd k e with e | e <;> omega
    · have := (h.far e').1
      rcases hrd k e with e | e <;> omega
  · rintro k (e | e)
    · rcases hrd k e with e | e <;> omega
    · exact e.elim
  · rintro c pre A r ob o hr hq hc h
    exact h.elim
  case assign =>
    intro lp x W K hK
    simp only [encA] at hK ⊢
    gi_wp2
    simpa using hK
  case body =>
    rintro lp pre x W ⟨A, cap, h⟩ hlt
    have co : W.cell? ⟨w.heap.size, 0, none⟩ = some (.slice A pre.length cap) := h.bo.cell 0
    have hbo := h.bo.lt
    have RI := Lib.hid (h.row.below ((Below.refl W.heap.size W).alloc (Nat.le_refl _) (.cells #[.int .i64 x] 3)) (Nat.le_refl _))
    have NB := Lib.hid (one_cell ((Blk.new W 3 [.int .i64 x]).cell 0))
    have hsz : w.heap.size + 2 ≤ (W.alloc (.cells #[.int .i64 x] 3)).heap.size := by
      have := h.sz; simp; omega
    have HB := Lib.hid (h.bo.alloc (.cells #[.int .i64 x] 3))
    have H := Lib.hid h
    have hne : ∀ e : A = some ⟨w.heap.size, 0, none⟩, False := fun e => by have := h.row.at_ _ e; omega
    clear h hit2 HI0
    gi_wp2_with (gi_at_builtin; go_loud ((refine wpListIn_append_ls _ rfl (.tmp 9) (.tmp 11) rfl (nI pre) RI.out pre.length (length_nI _).symm rfl hsz ⟨W.heap.size, 0, none⟩ 1 1 [(x : Int)] rfl rfl (by omega) NB.out (by omega) ?_); (intro g' cap' w1 h1 hk1 hw1 hl1; have bo1 := HB.out.kept hk1 (fun e => hne e); have co1 := bo1.cell 0; have fo1 := bo1.frozen 0; simp only [List.getElem?_cons_zero] at co1; have H1 := Lib.hid h1; have HK1 := Lib.hid hk1; have HW1 := Lib.hid hw1; clear bo1 h1 hk1 hw1)))
    obtain ⟨n1, n2⟩ := H.out.next H1.out HK1.out HW1.out
    exact ⟨n2, some ⟨g', 0, none⟩, cap', n1⟩
  case done =>
    rintro D ys W hD rfl ⟨A, cap, h⟩ hK
    have co : W.cell? ⟨w.heap.size, 0, none⟩ = some (.slice A (allN l).length cap) := h.bo.cell 0
    have HH := Lib.hid h
    clear h hit2 HI0
    gi_wp2
    refine ⟨by simp, .inl ⟨_, _, rfl, run_takeDeferred hK, ?_⟩⟩
    refine ⟨.slice A (allN l).length cap, ?_, A, cap, rfl, ?_, below_putObj HH.out.bel _ (by omega)⟩
    · simp [results, Try.f22, go_sem]
    · have hk : Kept (fun k => k = D) W (W.putObj D (.deferred none)) := Kept.putObj W D _
      refine (HH.out.row.kept hk (fun g e e2 => ?_)).mono (by omega)
      subst e2
      rcases HH.out.row with ⟨e3, _⟩ | ⟨g3, e3, hr, _⟩
      · rw [e3] at e; cases e
      · rw [e3] at e
        have e4 : g3 = g := congrArg Addr.block (Option.some.inj e)
        subst e4
        obtain ⟨rest, hb⟩ := hr.blk
        have := hb.symm.trans hK
        simp at this
  case stop =>
    rintro D c pre W hD ht h hK
    exact h.elim
theorem korder_ok {w : World} {p : Nat} {own : Nat → Prop} {l : List Int} (hT : KT w p own l) (few : l.length ≤ 1000) :
    Calls Try.prog 22 #[.pointer (some ⟨p, 0, none⟩)] w fun e w' => ∃ A cap, e = .returned (.slice A (allN l).length cap) ∧ Ls w' w.heap.size A cap (nI (allN l)) ∧ Below w.heap.size w w' :=
  korder_any w _ l (by rw [allN_length hT.wf]; exact few) (fun k => k = w.heap.size + 1 ∨ own k) (fun k e => e.elim .inr (fun e => .inl (hT.lt k e))) (fun W hb hB => allIt_tree (hT.below hb (Nat.le_refl _)) few hB)
theorem korder_nil (w : World) :
    Calls Try.prog 22 #[.pointer none] w fun e w' => ∃ A cap, e = .returned (.slice A 0 cap) ∧ Ls w' w.heap.size A cap [] ∧ Below w.heap.size w w' :=
  korder_any w _ [] (by simp [allN]) (fun k => k = w.heap.size + 1) (fun k e => .inr e) (fun W hb hB => allIt_nil hB)
end Go.Proofs.Ytogobpnbkmdnfaa
