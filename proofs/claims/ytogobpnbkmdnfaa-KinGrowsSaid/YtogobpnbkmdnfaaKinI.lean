/-
  WHAT IS PROVED HERE: the contract of kin.All's iterator: the tasks in order, each with its parent. Conditions: the captured pointer is a tree's.
-/
import Derived.Test.YtogobpnbkmdnfaaKinH
import Derived.Test.YtogobpnbkmdnfaaRangeB
namespace Go.Proofs.Ytogobpnbkmdnfaa
open Go.RowKit Go.Shelf
attribute [local go_sem] Oper.semAt_some

/-- The order of all tasks. -/
def allN (l : List Int) : List Nat := if l = [] then [] else ordN l 0
/-- The order of a task that is told as a number. -/
def ordI (l : List Int) (s : Int) : List Nat := ordN l s.toNat
theorem ordI_len (l : List Int) (st : List Int) : st.length ≤ (st.flatMap (ordI l)).length := by
  induction st with
  | nil => simp
  | cons s st ih =>
    have := ordN_length_pos l s.toNat
    rw [List.flatMap_cons, List.length_append, List.length_cons]
    unfold ordI at ih ⊢
    omega
/-- What is left to be told, read off the stack in memory. -/
def leftOf (l : List Int) (b : Nat) (w : World) : Nat := match w.cell? ⟨b, 0, none⟩ with
  | some (.slice (some ⟨g, _, _⟩) n _) => ((List.range n).map fun j => match w.cell? ⟨g, j, none⟩ with
    | some (.int _ z) => (ordI l z).length
    | _ => 0).sum
  | _ => 0
theorem leftOf_eq {l : List Int} {b g cap : Nat} {w : World} {st : List Int} (h : w.cell? ⟨b, 0, none⟩ = some (.slice (some ⟨g, 0, none⟩) st.length cap)) (hr : Rw w g cap 3 (ints st)) : leftOf l b w = (st.reverse.flatMap (ordI l)).length := by
  have e1 : leftOf l b w = (st.map fun s => (ordI l s).length).sum := by
    unfold leftOf
    rw [h]
    simp only
    congr 1
    apply List.ext_getElem?
    intro j
    by_cases hj : j < st.length
    · have := hr.cell (j := j) (v := .int .i64 (st[j]'hj)) (by rw [get_ints]; simp [hj])
      simp [hj, this]
    · rw [List.getElem?_eq_none (by simp; omega), List.getElem?_eq_none (by simp; omega)]
  rw [e1, List.length_flatMap, List.map_reverse, List.sum_reverse]
def encA (l : List Int) (x : Nat) : Array Value := #[.int .i64 x, .int .i64 (parN l x)]
/-- A mark among the deferred calls. -/
def mkD (D : Nat) : Deferred := { target := .collected D, args := #[] }
def Marked (w : World) (Ds : List Nat) : Prop := Ds.Nodup ∧ ∀ D ∈ Ds, w.heap[D]? = some (.deferred (some []))
theorem Marked.lt {w : World} {Ds : List Nat} (h : Marked w Ds) : ∀ D ∈ Ds, D < w.heap.size := fun D hD => (Array.getElem?_eq_some_iff.1 (h.2 D hD)).1
theorem Marked.kept {w w' : World} {Ds : List Nat} {S : Nat → Prop} (h : Marked w Ds) (hk : Kept S w w') (hn : ∀ D ∈ Ds, ¬ S D) : Marked w' Ds :=
  ⟨h.1, fun D hD => (hk.block D (h.lt D hD) (hn D hD)).trans (h.2 D hD)⟩
theorem Marked.ne {w : World} {Ds : List Nat} (h : Marked w Ds) {b : Nat} {t : TypeId} {cs : List Value} (hb : Blk w b t cs) : ∀ D ∈ Ds, D ≠ b := fun D hD e => by
  subst e
  have h1 := (h.2 D hD).symm.trans hb
  simp at h1
theorem Rw.blk {w : World} {g cap : Nat} {t : TypeId} {cs : List Value} (h : Rw w g cap t cs) : ∃ rest, Blk w g t (cs ++ rest) := by
  obtain ⟨rest, hb, _⟩ := h
  exact ⟨rest, hb⟩
/-- The way out of a function that holds marks. -/
theorem leaves_marks {F : Fence} {n : Nat} {P : Program} {fn : Func} {tmps : Array Value} {R : Ending → World → Prop} (G : World → Prop) : ∀ (Ds : List Nat) (w : World), Marked w Ds → (∀ A D, D ∈ Ds → A.heap[D]? = some (.deferred (some [])) → G A → G (A.putObj D (.deferred none))) → G w →
    (∀ w', G w' → LeavesIn F n P fn tmps R [] .returning w') → LeavesInM F n P fn tmps R (Ds.map mkD) .returning w := by
  intro Ds
  induction Ds with
  | nil => exact fun w _ _ hg h => h w hg
  | cons D Ds ih =>
    intro w hm hG hg h
    have hD := hm.2 D (List.mem_cons_self ..)
    refine ⟨by simp, .inl ⟨D, w.putObj D (.deferred none), rfl, run_takeDeferred hD, ?_⟩⟩
    have hnd := List.nodup_cons.1 hm.1
    have hk : Kept (fun k => k = D) w (w.putObj D (.deferred none)) := Kept.putObj w D _
    exact ih _ (Marked.kept (S := fun k => k = D) ⟨hnd.2, fun E hE => hm.2 E (List.mem_cons_of_mem _ hE)⟩ hk (fun E hE e => hnd.1 (e ▸ hE))) (fun A E hE => hG A E (List.mem_cons_of_mem _ hE)) (hG w D (List.mem_cons_self ..) hD hg) h
/-- The array behind the slice that block b holds. -/
def arrOf (b : Nat) (W : World) (k : Nat) : Prop := ∃ g n cap, W.cell? ⟨b, 0, none⟩ = some (.slice (some ⟨g, 0, none⟩) n cap) ∧ k = g
/-- What the iterator keeps: the tree, its stack. -/
structure AlI (l : List Int) (own : Nat → Prop) (p bt bl B : Nat) (tt : TypeId) (st : List Int) (g cap : Nat) (w : World) : Prop where
  tree : KT w p own l
  ob : ∀ k, own k → k < B
  box : Blk w bt tt [.pointer (some ⟨p, 0, none⟩)]
  left : Blk w bl 22 [.slice (some ⟨g, 0, none⟩) st.length cap]
  row : Rw w g cap 3 (ints st)
  ne : g ≠ bl
  bg : B ≤ g
  bb : B ≤ bl
  tb : bt < B
theorem AlI.kept {l : List Int} {own : Nat → Prop} {p bt bl B : Nat} {tt : TypeId} {st : List Int} {g cap : Nat} {w w' : World} (h : AlI l own p bt bl B tt st g cap w) {S : Nat → Prop} (hk : Kept S w w') (h1 : ∀ k, k < B → ¬ S k) (h2 : ¬ S bl) (h3 : ¬ S g) : AlI l own p bt bl B tt st g cap w' :=
  ⟨h.tree.kept hk (fun k ho => h1 k (h.ob k ho)), h.ob, h.box.kept hk (h1 bt h.tb), h.left.kept hk h2, h.row.kept hk h3, h.ne, h.bg, h.bb, h.tb⟩
theorem AlI.kept' {l : List Int} {own : Nat → Prop} {p bt bl B : Nat} {tt : TypeId} {st : List Int} {g cap : Nat} {w w' : World} (h : AlI l own p bt bl B tt st g cap w) {S : Nat → Prop} (hk : Kept S w w') (h0 : ∀ k, own k → ¬ S k) (h1 : ¬ S bt) (h2 : ¬ S bl) (h3 : ¬ S g) : AlI l own p bt bl B tt st g cap w' :=
  ⟨h.tree.kept hk h0, h.ob, h.box.kept hk h1, h.left.kept hk h2, h.row.kept hk h3, h.ne, h.bg, h.bb, h.tb⟩
theorem AlI.arr {l : List Int} {own : Nat → Prop} {p bt bl B : Nat} {tt : TypeId} {st : List Int} {g cap : Nat} {w : World} (h : AlI l own p bt bl B tt st g cap w) {k : Nat} : arrOf bl w k ↔ k = g := by
  have hc : w.cell? ⟨bl, 0, none⟩ = some (.slice (some ⟨g, 0, none⟩) st.length cap) := h.left.cell 0
  constructor
  · rintro ⟨g', n, c, h1, rfl⟩
    rw [hc] at h1
    simp at h1
    exact h1.1.symm
  · rintro rfl
    exact ⟨_, _, _, hc, rfl⟩
/-- What holds at a round's start. -/
structure LpR (l : List Int) (own : Nat → Prop) (p bt bl B : Nat) (tt : TypeId) (Pr : World → Nat → Prop) (J : List Nat → World → Prop) (Ds : List Nat) (pre : List Nat) (st : List Int) (g cap : Nat) (wr : World) : Prop where
  ord : Hid (ordN l 0 = pre ++ st.reverse.flatMap (ordI l))
  sin : Hid (∀ s ∈ st, inK l.length s = true)
  j : J pre wr
  al : AlI l own p bt bl B tt st g cap wr
  nbl : ¬ Pr wr bl
  ng : ¬ Pr wr g
  mks : Marked wr Ds
  nD : ∀ D ∈ Ds, ¬ Pr wr D
  dB : ∀ D ∈ Ds, B ≤ D
/-- What holds in the inner loop: bs: the inner iterator's box; N: the heap's size where it begins. -/
structure InI (l : List Int) (own : Nat → Prop) (p bt bl B : Nat) (tt : TypeId) (Pr : World → Nat → Prop) (J : List Nat → World → Prop) (Ds : List Nat) (pre : List Nat) (bs N : Nat) (st : List Int) (g cap : Nat) (A : World) : Prop where
  j : J pre A
  al : AlI l own p bt bl B tt st g cap A
  nbl : ¬ Pr A bl
  ng : ¬ Pr A g
  mks : Marked A Ds
  nD : ∀ D ∈ Ds, ¬ Pr A D
  nb : g ≠ bs
  le : ∀ k, Pr A k → k < N
  sz : N ≤ A.heap.size
/-- The blocks on which it stands. -/
def PrI (Pr : World → Nat → Prop) (own : Nat → Prop) (bt bl : Nat) (Ds : List Nat) (A : World) (k : Nat) : Prop := Pr A k ∨ k = bl ∨ arrOf bl A k ∨ k = bt ∨ own k ∨ k ∈ Ds
section
variable {l : List Int} {own : Nat → Prop} {p bt bl B : Nat} {tt : TypeId} {Pr Wr : World → Nat → Prop} {J : List Nat → World → Prop} {Ds : List Nat} {pre : List Nat} {bs N : Nat} {st : List Int} {g cap : Nat} {A w' : World}
theorem InI.go (hSt : Stands Pr Wr J) (h : InI l own p bt bl B tt Pr J Ds pre bs N st g cap A) (hk : Kept (fun k => ¬ PrI Pr own bt bl Ds A k) A w') :
    InI l own p bt bl B tt Pr J Ds pre bs N st g cap w' ∧ (∀ k, PrI Pr own bt bl Ds w' k → PrI Pr own bt bl Ds A k) ∧ ∀ k, arrOf bl w' k → arrOf bl A k := by
  obtain ⟨hj, hp, _⟩ := hSt.go _ _ _ h.j (hk.mono (fun k _ e e2 => e (.inl e2)))
  have hal := h.al.kept' hk (fun k ho e => e (.inr (.inr (.inr (.inr (.inl ho)))))) (fun e => e (.inr (.inr (.inr (.inl rfl))))) (fun e => e (.inr (.inl rfl))) (fun e => e (.inr (.inr (.inl (h.al.arr.2 rfl)))))
  have harr : ∀ k, arrOf bl w' k → arrOf bl A k := fun k e => h.al.arr.2 (hal.arr.1 e)
  refine ⟨⟨hj, hal, fun e => h.nbl (hp _ e), fun e => h.ng (hp _ e), h.mks.kept hk (fun D hD e => e (.inr (.inr (.inr (.inr (.inr hD)))))), fun D hD e => h.nD D hD (hp _ e), h.nb, fun k e => h.le k (hp k e), Nat.le_trans h.sz hk.size⟩, ?_, harr⟩
  rintro k (e | e | e | e)
  · exact .inl (hp k e)
  · exact .inr (.inl e)
  · exact .inr (.inr (.inl (harr k e)))
  · exact .inr (.inr (.inr e))
theorem InI.next (hSt : Stands Pr Wr J) (h : InI l own p bt bl B tt Pr J Ds pre bs N st g cap A) (hbs : bs < N) {v : Int} {g' cap' : Nat} {w1 : World} (h1 : Ls w1 0 (some ⟨g', 0, none⟩) cap' (st ++ [v]))
    (hk : Kept (fun k => (some ⟨g, 0, none⟩ : Option Addr) = some ⟨k, 0, none⟩) (A.alloc (.cells #[.int .i64 v] 3)) w1) (hw : (some ⟨g, 0, none⟩ : Option Addr) = some ⟨g', 0, none⟩ ∨ g' = (A.alloc (.cells #[.int .i64 v] 3)).heap.size) :
    InI l own p bt bl B tt Pr J Ds pre bs N (st ++ [v]) g' cap' (w1.setCell ⟨bl, 0, none⟩ (.slice (some ⟨g', 0, none⟩) (st.length + 1) cap')) ∧
    Kept (fun k => k = bl ∨ arrOf bl A k) A (w1.setCell ⟨bl, 0, none⟩ (.slice (some ⟨g', 0, none⟩) (st.length + 1) cap')) ∧
    ∀ k, k < A.heap.size → PrI Pr own bt bl Ds (w1.setCell ⟨bl, 0, none⟩ (.slice (some ⟨g', 0, none⟩) (st.length + 1) cap')) k → PrI Pr own bt bl Ds A k := by
  have hg : ∀ k, (some ⟨g, 0, none⟩ : Option Addr) = some ⟨k, 0, none⟩ → k = g := fun k e => (congrArg Addr.block (Option.some.inj e)).symm
  have hal := h.al
  have hgA := hal.row.lt
  have hblA := hal.left.lt
  rw [World.size_alloc] at hw
  have hg' : g' = g ∨ g' = A.heap.size + 1 := hw.imp (fun e => hg g' e) id
  have hr1 : Rw w1 g' cap' 3 (ints (st ++ [v])) := by
    rcases h1 with ⟨e, _⟩ | ⟨g2, e, hr, _⟩
    · cases e
    · have e2 : g' = g2 := congrArg Addr.block (Option.some.inj e)
      subst e2; exact hr
  have kA : Kept (fun k => k = g) A w1 := ((Kept.refl (fun k => k = g) A).alloc _).trans hk (fun k _ e => hg k e)
  have k2 : Kept (fun k => k = bl ∨ k = g) A (w1.setCell ⟨bl, 0, none⟩ (.slice (some ⟨g', 0, none⟩) (st.length + 1) cap')) := (kA.mono (S' := fun k => k = bl ∨ k = g) (fun k _ e => .inr e)).setCell (p := ⟨bl, 0, none⟩) (.inl (.inl rfl)) _
  obtain ⟨hj, hp, _⟩ := hSt.go _ _ _ h.j (k2.mono (fun k _ e e2 => by
    rcases e with e | e
    · subst e; exact h.nbl e2
    · subst e; exact h.ng e2))
  have hne' : g' ≠ bl := by
    rcases hg' with e | e
    · rw [e]; exact hal.ne
    · omega
  have hal2 : AlI l own p bt bl B tt (st ++ [v]) g' cap' (w1.setCell ⟨bl, 0, none⟩ (.slice (some ⟨g', 0, none⟩) (st.length + 1) cap')) := by
    have hB : ∀ k, k < B → ¬ (k = bl ∨ k = g) := fun k hkB e => by have := hal.bb; have := hal.bg; omega
    refine ⟨hal.tree.kept k2 (fun k ho => hB k (hal.ob k ho)), hal.ob, hal.box.kept k2 (hB bt hal.tb), ?_, ?_, hne', ?_, hal.bb, hal.tb⟩
    · have hl1 := hal.left.kept kA (fun e => hal.ne e.symm)
      have := hl1.set 0 (.slice (some ⟨g', 0, none⟩) (st.length + 1) cap')
      rw [List.length_append, List.length_singleton]; exact this
    · exact hr1.setOther (p := ⟨bl, 0, none⟩) hne' _
    · have := hal.bg
      have := hal.bb
      omega
  have hgg : ∀ k, k < A.heap.size → k = g' → k = g := fun k hk e => by omega
  have hsz := k2.size
  refine ⟨⟨hj, hal2, fun e => h.nbl (hp _ e), fun e => ?_, h.mks.kept k2 (fun D hD e => ?_), fun D hD e => h.nD D hD (hp _ e), ?_, fun k e => h.le k (hp k e), by have := h.sz; omega⟩, ?_, ?_⟩
  · have e2 := hp _ e
    rcases hg' with e3 | e3
    · rw [e3] at e2; exact h.ng e2
    · have := h.le _ e2; have := h.sz; omega
  · rcases e with e | e
    · exact h.mks.ne hal.left D hD e
    · obtain ⟨rest, hb⟩ := hal.row.blk
      exact h.mks.ne hb D hD e
  · rcases hg' with e3 | e3
    · rw [e3]; exact h.nb
    · have := h.sz; omega
  · exact k2.mono (fun k _ e => e.imp id (fun e => hal.arr.2 e))
  · rintro k hkA (e | e | e | e)
    · exact .inl (hp k e)
    · exact .inr (.inl e)
    · exact .inr (.inr (.inl (hal.arr.2 (hgg k hkA (hal2.arr.1 e)))))
    · exact .inr (.inr (.inr e))
end
set_option maxRecDepth 20000 in
set_option maxHeartbeats 4000000 in
theorem all1_seq (n : Nat) (hn : 6 ≤ n) (bt p : Nat) (own : Nat → Prop) (l : List Int) (few : l.length ≤ 1000) (h0l : 0 < l.length) (w : World) (tt : TypeId) (hbt : Blk w bt tt [.pointer (some ⟨p, 0, none⟩)]) (hT : KT w p own l) :
    SeqP n Try.prog 34 #[.pointer (some ⟨bt, 0, none⟩)] (encA l) (fun k => k = bt ∨ own k) (fun _ => False) (fun ys => ys = ordN l 0) (fun pre => pre <+: ordN l 0) (ordN l 0).length w := by
  intro lp Pr Wr J Jx W hbW hSt hOwn hY hJxs h0
  have hbt := hbt.below hbW hbt.lt
  have hT := hT.below hbW (Nat.le_refl _)
  clear hbW
  have hwf := hT.wf
  have c0 : W.cell? ⟨bt, 0, none⟩ = some (.pointer (some ⟨p, 0, none⟩)) := hbt.cell 0
  have b1 := kbox1 W 3 0
  have bb1 : Below W.heap.size W (W.alloc (.cells #[.int .i64 0] 3)) := (Below.refl _ W).alloc (Nat.le_refl _) _
  have hh := khas1 (hT.below bb1 (Nat.le_refl _)) b1 (s := 0) (inK_nat (s := 0) h0l)
  -- the start
  have hI0 : AlI l own p bt (W.heap.size + 2) W.heap.size tt [0] (W.heap.size + 1) 1 (((W.alloc (.cells #[.int .i64 0] 3)).alloc (.cells #[.int .i64 0] 3)).alloc (.cells #[.slice (some ⟨W.heap.size + 1, 0, none⟩) 1 1] 22)) := by
    have bb3 : Below W.heap.size W (((W.alloc (.cells #[.int .i64 0] 3)).alloc (.cells #[.int .i64 0] 3)).alloc (.cells #[.slice (some ⟨W.heap.size + 1, 0, none⟩) 1 1] 22)) := (bb1.alloc bb1.size _).alloc (by simp; omega) _
    refine ⟨hT.below bb3 (Nat.le_refl _), hT.lt, hbt.below bb3 hbt.lt, ?_, ?_, by omega, by omega, by omega, hbt.lt⟩
    · have := Blk.new ((W.alloc (.cells #[.int .i64 0] 3)).alloc (.cells #[.int .i64 0] 3)) 22 [.slice (some ⟨W.heap.size + 1, 0, none⟩) 1 1]
      simp only [World.size_alloc] at this
      exact this
    · have := (Rw.of (Blk.new (W.alloc (.cells #[.int .i64 0] 3)) 3 [.int .i64 0]) (by unfold maxLen; simp)).alloc (.cells #[.slice (some ⟨W.heap.size + 1, 0, none⟩) 1 1] 22)
      rw [World.size_alloc] at this
      exact this
  have kp3 : Kept (fun _ => False) W (((W.alloc (.cells #[.int .i64 0] 3)).alloc (.cells #[.int .i64 0] 3)).alloc (.cells #[.slice (some ⟨W.heap.size + 1, 0, none⟩) 1 1] 22)) := (((Kept.refl _ W).alloc _).alloc _).alloc _
  have HI0 := Lib.hid hI0
  have KP3 := Lib.hid kp3
  clear hI0 kp3 hT b1 bb1
  refine callsIn_of_wp_marks Try.func34 rfl trivial ?_ rfl
  simp only [Try.ntmps34, List.size_toArray, List.length_cons, List.length_nil, Nat.reduceAdd, Nat.reduceSub, Array.replicate_succ, Array.replicate_zero, List.push_toArray, List.append_toArray, List.nil_append, List.cons_append]
  gi_wp2_with fail
  refine ⟨trivial, fun _ => by omega, ?_⟩
  refine (callsIn_wide.2 hh).mono ?_
  rintro e w1 ⟨rfl, rfl⟩
  clear hh
  gi_wp2_with fail
  obtain ⟨bl, hbl⟩ : ∃ bl, W.heap.size + 1 + 1 = bl := ⟨_, rfl⟩
  rw [hbl]
  have HI0 : Hid (AlI l own p bt bl W.heap.size tt [0] (W.heap.size + 1) 1 (((W.alloc (.cells #[.int .i64 0] 3)).alloc (.cells #[.int .i64 0] 3)).alloc (.cells #[.slice (some ⟨W.heap.size + 1, 0, none⟩) 1 1] 22))) := Lib.hid (hbl ▸ HI0.out)
  generalize ((W.alloc (.cells #[.int .i64 0] 3)).alloc (.cells #[.int .i64 0] 3)).alloc (.cells #[.slice (some ⟨W.heap.size + 1, 0, none⟩) 1 1] 22) = Ws at *
  obtain ⟨hJ0, hP0, _⟩ := hSt.go _ _ _ h0 (KP3.out.mono (fun _ _ h => h.elim))
  have hstart : LpR l own p bt bl W.heap.size tt Pr J [] [] [0] (W.heap.size + 1) 1 Ws := by
    refine ⟨Lib.hid (by simp [ordI]), Lib.hid (by simp [inK]; exact h0l), hJ0, HI0.out, fun e => ?_, fun e => ?_, ⟨List.nodup_nil, by simp⟩, by simp, by simp⟩
    · have := hSt.lt _ _ _ h0 (hP0 _ e); omega
    · have := hSt.lt _ _ _ h0 (hP0 _ e); omega
  clear HI0 KP3 hJ0 hP0 h0 c0
  refine wpIn_loop (fun a' wr => ∃ (u4 u6 u12 u13 u14 u15 u16 u17 u18 u19 u20 u21 u22 u23 u24 u25 u26 u27 u28 u29 u30 u31 u32 u33 u34 u35 u36 u37 u38 u39 u40 u41 u42 u43 u44 u45 u46 u47 u48 u49 u50 u51 u52 : Value) (Ds : List Nat) (pre : List Nat) (st : List Int) (g cap : Nat), LpR l own p bt bl W.heap.size tt Pr J Ds pre st g cap wr ∧ a' = { tmps := #[.func (.yield lp) #[] #[], .pointer (some ⟨bt, 0, none⟩), undef, .pointer (some ⟨bl, 0, none⟩), u4, undef, u6, .pointer (some ⟨p, 0, none⟩), .slice (some ⟨W.heap.size, 0, none⟩) 1 1, .bool true, .bool false, .slice (some ⟨W.heap.size + 1, 0, none⟩) 1 1, u12, u13, u14, u15, u16, u17, u18, u19, u20, u21, u22, u23, u24, u25, u26, u27, u28, u29, u30, u31, u32, u33, u34, u35, u36, u37, u38, u39, u40, u41, u42, u43, u44, u45, u46, u47, u48, u49, u50, u51, u52], defers := Ds.map mkD }) (fun _ wr => leftOf l bl wr) ?start ?round
  case start => exact ⟨undef, undef, undef, undef, undef, undef, undef, undef, undef, undef, undef, undef, undef, undef, undef, undef, undef, undef, undef, undef, undef, undef, undef, undef, undef, undef, undef, undef, undef, undef, undef, undef, undef, undef, undef, undef, undef, undef, undef, undef, undef, undef, undef, [], [], [0], W.heap.size + 1, 1, hstart, rfl⟩
  case round =>
    clear hstart
    intro _ wr hinv
    obtain ⟨u4, u6, u12, u13, u14, u15, u16, u17, u18, u19, u20, u21, u22, u23, u24, u25, u26, u27, u28, u29, u30, u31, u32, u33, u34, u35, u36, u37, u38, u39, u40, u41, u42, u43, u44, u45, u46, u47, u48, u49, u50, u51, u52, Ds, pre, st, g, cap, hR, ha⟩ := hinv
    subst ha
    dsimp only
    have cl : wr.cell? ⟨bl, 0, none⟩ = some (.slice (some ⟨g, 0, none⟩) st.length cap) := hR.al.left.cell 0
    rcases List.eq_nil_or_concat st with rfl | ⟨st', s, hst⟩
    · simp only [List.length_nil] at cl
      have HR := Lib.hid hR
      clear hR
      gi_wp2_with fail
      refine leaves_marks (fun A => Kept (fun k => k ∈ Ds) wr A) Ds wr HR.out.mks (fun A D hD _ hk => hk.trans (Kept.putObj A D _) (fun i _ e => e ▸ hD)) (Kept.refl _ wr) (fun w' hk => ?_)
      obtain ⟨hJ, _, _⟩ := hSt.go _ _ _ HR.out.j (hk.mono (fun D _ hD => HR.out.nD D hD))
      refine ⟨.tuple #[], ?_, ⟨_, rfl⟩, .inl ⟨pre, ?_, hJ⟩⟩
      · simp [results, Try.f34, go_sem]
      · have := HR.out.ord.out
        simpa using this.symm
    · rw [List.concat_eq_append] at hst
      subst hst
      obtain ⟨m, hm⟩ : ∃ m, st'.length = m := ⟨_, rfl⟩
      have hsin : inK l.length s = true := hR.sin.out s (by simp)
      obtain ⟨x, rfl, hx⟩ := inK_get hsin
      have hsl : (st' ++ [(x : Int)]).length = m + 1 := by simp [hm]
      rw [hsl] at cl
      have cx : wr.cell? ⟨g, m, none⟩ = some (.int .i64 x) := hR.al.row.cell (by rw [get_ints]; simp [← hm])
      have fl := hR.al.left.frozen 0
      have cb : wr.cell? ⟨bt, 0, none⟩ = some (.pointer (some ⟨p, 0, none⟩)) := hR.al.box.cell 0
      have hroom := hR.al.row.room
      rw [length_ints, hsl] at hroom
      -- behind the pop
      have kb : Kept (fun k => k = bl) wr (wr.setCell ⟨bl, 0, none⟩ (.slice (some ⟨g, 0, none⟩) m cap)) := (Kept.refl (fun k => k = bl) wr).setCell (p := ⟨bl, 0, none⟩) (.inl rfl) _
      have hal2 : AlI l own p bt bl W.heap.size tt st' g cap (wr.setCell ⟨bl, 0, none⟩ (.slice (some ⟨g, 0, none⟩) m cap)) := by
        have h := hR.al
        refine ⟨h.tree.kept kb (fun k ho e => by have := h.ob k ho; have := h.bb; omega), h.ob, h.box.kept kb (by have := h.tb; have := h.bb; omega), ?_, ?_, h.ne, h.bg, h.bb, h.tb⟩
        · have := h.left.set 0 (.slice (some ⟨g, 0, none⟩) m cap)
          rw [hm]; exact this
        · have := (h.row.take m).setOther (p := ⟨bl, 0, none⟩) h.ne (.slice (some ⟨g, 0, none⟩) m cap)
          rw [show (ints (st' ++ [(x : Int)])).take m = ints st' by simp [ints, ← hm]] at this
          exact this
      obtain ⟨hJ2, hP2, _⟩ := hSt.go _ _ _ hR.j (kb.mono (fun k _ e => by subst e; exact hR.nbl))
      have hmk2 := hR.mks.kept kb (fun D hD => hR.mks.ne hR.al.left D hD)
      have hpb : ¬ p = bl := fun e => by have := hR.al.ob p hR.al.tree.op; have := hR.al.bb; omega
      have htb : ¬ bt = bl := fun e => by have := hR.al.tb; have := hR.al.bb; omega
      obtain ⟨gt, capt, ct, hct, hct2, hgo, hnd⟩ := hal2.tree.open h0l
      have hgb : ¬ gt = bl := fun e => by have := hR.al.ob gt hgo; have := hR.al.bb; omega
      have cpar := (hnd x hx).par
      have ct' : wr.cell? ⟨p, 0, none⟩ = some (.slice (some ⟨gt, 0, none⟩) l.length capt) := (kb.cell (p := ⟨p, 0, none⟩) (by have := hR.al.ob p hR.al.tree.op; have := hR.al.bb; have := hR.al.left.lt; show p < _; omega) hpb).symm.trans ct
      have cpar' : wr.cell? ⟨gt, x * 3, none⟩ = some (.int .i64 (parN l x)) := (kb.cell (p := ⟨gt, x * 3, none⟩) (by have := hR.al.ob gt hgo; have := hR.al.bb; have := hR.al.left.lt; show gt < _; omega) hgb).symm.trans cpar
      have hordl := hR.ord.out
      have hfl := ordI_len l (st' ++ [(x : Int)]).reverse
      rw [List.length_reverse, hsl] at hfl
      have hlen : (ordN l 0).length = pre.length + ((st' ++ [(x : Int)]).reverse.flatMap (ordI l)).length := by rw [hordl, List.length_append]
      have hol := ordN_length hwf h0l
      have hplt : pre.length < (ordN l 0).length := by omega
      have hm2 : m ≤ 1000 := by omega
      have hm3 : wrap64 (m : Int) = m := by unfold wrap64; omega
      clear hfl hlen hol
      obtain ⟨fn, tmps, assign, body, hy, hY2⟩ := hY pre x _ hJ2 hplt
      simp only [encA] at hy hY2
      obtain ⟨ow1, _⟩ := hOwn pre _ hJ2
      have hxi : (x : Int) < (l.length : Int) := by omega
      have HR := Lib.hid hR
      have HAL2 := Lib.hid hal2
      have HMK2 := Lib.hid hmk2
      have HND := Lib.hid hnd
      have HP2 := Lib.hid hP2
      have HJ2 := Lib.hid hJ2
      have HOW := Lib.hid ow1
      have HSL := Lib.hid hsl
      have HM := Lib.hid hm
      have HORD := Lib.hid hordl
      clear hR hal2 hmk2 hnd hP2 hJ2 ow1 hsl hm hordl hsin kb hplt
      gi_wp2_with fail
      refine ⟨fun _ => by omega, ?_⟩
      have npr2 : ∀ k, ¬ Pr wr k → ¬ Wr (wr.setCell ⟨bl, 0, none⟩ (.slice (some ⟨g, 0, none⟩) m cap)) k := fun k h e => h (HP2.out k (hSt.sub _ _ _ HJ2.out e))
      have NPR2 := Lib.hid npr2
      clear npr2
      refine hY2.mono ?_
      rintro e W3 (⟨rfl, hJ3, hk3, hp3⟩ | ⟨rfl, hJx3, hk3⟩)
      · have hal3 := HAL2.out.kept' hk3 (fun k ho => HOW.out k (.inr ho)) (HOW.out bt (.inl rfl)) (NPR2.out bl HR.out.nbl) (NPR2.out g HR.out.ng)
        have hmk3 := HMK2.out.kept hk3 (fun D hD => NPR2.out D (HR.out.nD D hD))
        have hnp3 : ∀ k, k < wr.heap.size → ¬ Pr wr k → ¬ Pr W3 k := fun k hk h e => h (HP2.out k (hp3 k (by simpa [World.setCell] using hk) e))
        have nbl3 := hnp3 bl HR.out.al.left.lt HR.out.nbl
        have ng3 := hnp3 g HR.out.al.row.lt HR.out.ng
        have nD3 : ∀ D ∈ Ds, ¬ Pr W3 D := fun D hD => hnp3 D (HR.out.mks.lt D hD) (HR.out.nD D hD)
        have cb3 : W3.cell? ⟨bt, 0, none⟩ = some (.pointer (some ⟨p, 0, none⟩)) := hal3.box.cell 0
        obtain ⟨gt3, capt3, ct3, hct3, hct4, hgo3, hnd3⟩ := hal3.tree.open h0l
        obtain ⟨A0, ac, ck3, hls3, hA1, hA2⟩ := (hnd3 x hx).kids
        have hA0 : ∀ k, A0 = some ⟨k, 0, none⟩ → own k := fun k e => by
          by_cases h : kN l x = []
          · rw [hA1 h] at e; cases e
          · obtain ⟨k2, e2, ho⟩ := hA2 h
            rw [e2] at e
            have e3 : k2 = k := congrArg Addr.block (Option.some.inj e)
            exact e3 ▸ ho
        have hbW : bl < W3.heap.size := hal3.left.lt
        have hobl : ∀ k, own k → k < W.heap.size := hal3.ob
        have hblB : W.heap.size ≤ bl := hal3.bb
        have HOBL := Lib.hid hobl
        have HAL3 := Lib.hid hal3
        have HMK3 := Lib.hid hmk3
        have HJ3 := Lib.hid hJ3
        have HN3 := Lib.hid (And.intro nbl3 (And.intro ng3 nD3))
        have HLS3 := Lib.hid hls3
        have HA0 := Lib.hid hA0
        clear hal3 hmk3 hnp3 nbl3 ng3 nD3 hJ3 hk3 hp3 hnd3 hls3 hA0 hA1 hA2 hobl hY2 hy ct cpar cpar' ct' cx cl cb fl HJ2 HP2 HMK2 HAL2 HND HOW NPR2 hct hct2
        gi_wp2_with fail
        refine ⟨trivial, fun _ => by omega, ?_⟩
        refine (callsIn_wide.2 (backward_any A0 (kN l x).length ac W3)).mono ?_
        rintro e w4 ⟨rfl, hw4⟩
        gi_wp2_with fail
        have k4 : Kept (fun _ => False) W3 w4 := by rw [← hw4]; exact (Kept.refl _ W3).alloc _
        have hbs : Blk w4 W3.heap.size 22 [.slice A0 (nI (kN l x)).length ac] := by
          rw [← hw4, length_nI]; exact Blk.new W3 _ _
        have z4 : w4.heap.size = W3.heap.size + 1 := by rw [← hw4]; simp
        have hls4 := HLS3.out.kept k4 (fun _ _ e => e)
        obtain ⟨hJ4, hP4, _⟩ := hSt.go _ _ _ HJ3.out (k4.mono (fun _ _ h => h.elim))
        have hkl := kN_length l x
        have hseq := back1_seq (n - 1) (by omega) W3.heap.size A0 ac (nI (kN l x)) (by rw [length_nI]; omega) w4 22 hbs hls4
        have hin0 : InI l own p bt bl W.heap.size tt Pr J Ds (pre ++ [x]) W3.heap.size w4.heap.size st' g cap w4 := by
          refine ⟨hJ4, HAL3.out.kept' k4 (fun _ _ e => e) id id id, fun e => HN3.out.1 (hP4 _ e), fun e => HN3.out.2.1 (hP4 _ e), HMK3.out.kept k4 (fun _ _ e => e), fun D hD e => HN3.out.2.2 D hD (hP4 _ e), ?_, fun k e => hSt.lt _ _ _ hJ4 e, Nat.le_refl _⟩
          have := HAL3.out.row.lt; omega
        have hWl : W.heap.size ≤ W3.heap.size := by have := HAL3.out.bb; have := HAL3.out.left.lt; omega
        have HIN := Lib.hid hin0
        have HSEQ := Lib.hid hseq
        clear hin0 hseq hls4 hJ4 hP4 k4 hw4 hbs HAL3 HMK3 HJ3 HN3 HLS3 cb3 ct3 ck3
        refine range_own (gf := 37) (lb := #[.pointer (some ⟨W3.heap.size, 0, none⟩)]) rfl (enters_of Try.func37 (by kernel_rfl) rfl) (by omega) HSEQ.out (fun x => rfl)
          (PrI Pr own bt bl Ds) (fun A k => k = bl ∨ arrOf bl A k)
          (fun qs A => ∃ g cap, InI l own p bt bl W.heap.size tt Pr J Ds (pre ++ [x]) W3.heap.size w4.heap.size (st' ++ qs.map (·.2)) g cap A)
          (fun _ _ _ => False)
          ⟨?_, ?_, ?_⟩ ?_ ?_ ?_ ⟨g, cap, by simpa using HIN.out⟩
          (fun v => { tmps := #[.func (.yield lp) #[] #[], .pointer (some ⟨bt, 0, none⟩), undef, .pointer (some ⟨bl, 0, none⟩), .int .i64 x, undef, .int .i64 v.2, .pointer (some ⟨p, 0, none⟩), .slice (some ⟨W.heap.size, 0, none⟩) 1 1, .bool true, .bool false, .slice (some ⟨W.heap.size + 1, 0, none⟩) 1 1, .slice (some ⟨g, 0, none⟩) (m + 1) cap, .int .i64 (m + 1), .bool true, .slice (some ⟨g, 0, none⟩) (m + 1) cap, .slice (some ⟨g, 0, none⟩) (m + 1) cap, .int .i64 (m + 1), .int .i64 m, .pointer (some ⟨g, m, none⟩), .int .i64 x, .slice (some ⟨g, 0, none⟩) (m + 1) cap, .slice (some ⟨g, 0, none⟩) (m + 1) cap, .int .i64 (m + 1), .int .i64 m, .slice (some ⟨g, 0, none⟩) m cap, .func (.yield lp) #[] #[], .int .i64 x, .pointer (some ⟨p, 0, none⟩), .pointer (some ⟨p, 0, none⟩), .pointer (some ⟨p, 0, none⟩), .slice (some ⟨gt, 0, none⟩) l.length capt, .int .i64 x, .pointer (some ⟨gt, x * 3, none⟩), .pointer (some ⟨gt, x * 3, none⟩), .int .i64 (parN l x), .bool true, .bool false, .pointer (some ⟨p, 0, none⟩), .pointer (some ⟨p, 0, none⟩), .pointer (some ⟨p, 0, none⟩), .slice (some ⟨gt3, 0, none⟩) l.length capt3, .int .i64 x, .pointer (some ⟨gt3, x * 3, none⟩), .pointer (some ⟨gt3, x * 3 + 2, none⟩), .slice A0 (kN l x).length ac, .func (.func 37) #[] #[.pointer (some ⟨W3.heap.size, 0, none⟩)], .int .i64 v.1, .int .i64 v.2, u49, u50, u51, u52], defers := [] }) ?assign ?body ?done ?stop
        · rintro qs A k ⟨g, cap, h⟩ (e | e | e | e | e | e)
          · exact hSt.lt _ _ _ h.j e
          · subst e; exact h.al.left.lt
          · rw [h.al.arr.1 e]; exact h.al.row.lt
          · subst e; exact h.al.box.lt
          · exact h.al.tree.lt k e
          · exact h.mks.lt k e
        · rintro qs A k _ (e | e)
          · exact .inr (.inl e)
          · exact .inr (.inr (.inl e))
        · rintro qs A B ⟨g, cap, h⟩ hk
          obtain ⟨h1, h2, h3⟩ := h.go hSt hk
          exact ⟨⟨g, cap, h1⟩, h2, fun k e => e.imp id (h3 k)⟩
        · rintro qs A ⟨g, cap, h⟩
          refine ⟨fun k e e2 => ?_, fun k e _ => e⟩
          have hbl1 := h.al.bb
          have hg1 := h.al.bg
          rcases e2 with e2 | e2
          · rcases e with e | e
            · omega
            · have := HOBL.out k (HA0.out k e); omega
          · have e3 := h.al.arr.1 e2
            rcases e with e | e
            · exact h.nb (e3.symm.trans e)
            · have := HOBL.out k (HA0.out k e); omega
        · rintro k ((e | e) | e)
          · omega
          · have := HOBL.out k (HA0.out k e); omega
          · exact e.elim
        · rintro c qs A r o hr hq h
          exact h.elim
        case assign =>
          intro lp2 v W4 K hK
          simp only [encB] at hK ⊢
          gi_wp2
          simpa using hK
        case body =>
          rintro lp2 qs v W4 ⟨g4, cap4, h⟩ hlen
          rw [length_nI] at hlen
          obtain ⟨n4, hn4⟩ : ∃ n4, (st' ++ qs.map (·.2)).length = n4 := ⟨_, rfl⟩
          have hn5 : n4 ≤ 2000 := by rw [← hn4, List.length_append, List.length_map]; have := HM.out; omega
          have cl4 : W4.cell? ⟨bl, 0, none⟩ = some (.slice (some ⟨g4, 0, none⟩) n4 cap4) := by rw [← hn4]; exact h.al.left.cell 0
          have hbl4 : bl < W4.heap.size := h.al.left.lt
          have RI := Lib.hid (show Ls (W4.alloc (.cells #[.int .i64 v.2] 3)) 0 (some ⟨g4, 0, none⟩) cap4 (st' ++ qs.map (·.2)) from .inr ⟨g4, rfl, h.al.row.alloc _, Nat.zero_le _⟩)
          have NB := Lib.hid (one_cell ((Blk.new W4 3 [.int .i64 v.2]).cell 0))
          have hgb4 : ∀ e : (some ⟨g4, 0, none⟩ : Option Addr) = some ⟨bl, 0, none⟩, False := fun e => h.al.ne (congrArg Addr.block (Option.some.inj e))
          have HL4 := Lib.hid (h.al.left.alloc (.cells #[.int .i64 v.2] 3))
          have HN4 := Lib.hid hn4
          have H := Lib.hid h
          clear h hn4 hlen
          gi_wp2_with (gi_at_builtin; go_loud ((refine wpListIn_append_ls _ rfl (.tmp 49) (.tmp 51) rfl (st' ++ qs.map (·.2)) RI.out n4 HN4.out.symm rfl (Nat.zero_le _) ⟨W4.heap.size, 0, none⟩ 1 1 [v.2] rfl rfl (by omega) NB.out (by omega) ?_); (intro g' cap' w1 h1 hk1 hw1 hl1; have bo1 := HL4.out.kept hk1 (fun e => hgb4 e); have co1 := bo1.cell 0; have fo1 := bo1.frozen 0; simp only [List.getElem?_cons_zero] at co1; have H1 := Lib.hid h1; have HK1 := Lib.hid hk1; have HW1 := Lib.hid hw1; clear bo1 h1 hk1 hw1)))
          have hN := H.out.next hSt (by omega) H1.out HK1.out HW1.out
          rw [HN4.out] at hN
          refine ⟨⟨hN.2.1, hN.2.2⟩, g', cap', ?_⟩
          rw [List.map_append, List.map_singleton, ← List.append_assoc]
          exact hN.1
        case done =>
          rintro D qs W5 hD rfl ⟨g5, cap5, h⟩ hK
          rw [backF_snd] at h
          have hord : ordN l 0 = (pre ++ [x]) ++ (st' ++ (nI (kN l x)).reverse).reverse.flatMap (ordI l) := by
            rw [HORD.out, List.reverse_append, List.reverse_append, List.reverse_reverse, List.flatMap_append, List.flatMap_append, List.append_assoc, ← List.append_assoc [x]]
            congr 2
            have e1 : ([(x : Int)] : List Int).reverse.flatMap (ordI l) = ordN l x := by simp [ordI]
            have e2 : (nI (kN l x)).flatMap (ordI l) = (kN l x).flatMap (ordN l) := by
              unfold nI
              rw [List.flatMap_map]
              rfl
            rw [e1, e2, ordN_step hwf hx]
            rfl
          have hmu1 : leftOf l bl W5 = ((st' ++ (nI (kN l x)).reverse).reverse.flatMap (ordI l)).length := leftOf_eq (h.al.left.cell 0) h.al.row
          have hmu2 : leftOf l bl wr = ((st' ++ [(x : Int)]).reverse.flatMap (ordI l)).length := leftOf_eq (HR.out.al.left.cell 0) HR.out.al.row
          have hmu : leftOf l bl W5 < leftOf l bl wr := by
            have l1 := congrArg List.length hord
            have l2 := congrArg List.length HORD.out
            rw [List.length_append] at l1 l2
            rw [List.length_append, List.length_singleton] at l1
            omega
          have hlp : LpR l own p bt bl W.heap.size tt Pr J (D :: Ds) (pre ++ [x]) (st' ++ (nI (kN l x)).reverse) g5 cap5 W5 := by
            refine ⟨Lib.hid hord, Lib.hid ?_, h.j, h.al, h.nbl, h.ng, ⟨List.nodup_cons.2 ⟨fun e => ?_, h.mks.1⟩, ?_⟩, ?_, ?_⟩
            · intro s hs
              rcases List.mem_append.1 hs with e | e
              · exact HR.out.sin.out s (List.mem_append_left _ e)
              · obtain ⟨k, hk, rfl⟩ := List.mem_map.1 (List.mem_reverse.1 e)
                exact inK_nat (kN_gt hwf hk).2
            · have := HIN.out.mks.lt D e; omega
            · intro E hE
              rcases List.mem_cons.1 hE with e | e
              · rw [e]; exact hK
              · exact h.mks.2 E e
            · intro E hE e
              rcases List.mem_cons.1 hE with e2 | e2
              · subst e2; have := h.le _ e; omega
              · exact h.nD E e2 e
            · intro E hE
              rcases List.mem_cons.1 hE with e2 | e2
              · omega
              · exact HR.out.dB E e2
          have HLP := Lib.hid hlp
          clear hord hmu1 hmu2 h hlp
          gi_wp2
          exact ⟨⟨_, _, _, _, _, _, _, _, _, _, _, _, _, _, _, _, _, _, _, _, _, _, _, _, _, _, _, _, _, _, _, _, _, _, _, _, _, _, _, _, _, _, _, D :: Ds, pre ++ [x], _, g5, cap5, HLP.out, rfl⟩, hmu⟩
        case stop =>
          rintro D c qs W4 hD ht h hK
          exact h.elim
      · have hmk3 := HMK2.out.kept hk3 (fun D hD => NPR2.out D (HR.out.nD D hD))
        have HMK3 := Lib.hid hmk3
        have HJX := Lib.hid hJx3
        clear hmk3 hJx3 hk3 hY2 hy ct cpar cpar' ct' cx cl cb fl
        gi_wp2
        refine leaves_marks (fun A => Jx (pre ++ [x]) A) Ds W3 HMK3.out (fun A D hD hd hj => hJxs _ _ _ _ _ (HR.out.dB D hD) hd rfl hj) HJX.out (fun w' hj => ?_)
        refine ⟨.tuple #[], ?_, ⟨_, rfl⟩, .inr ⟨pre ++ [x], ?_, hj⟩⟩
        · simp [results, Try.f34, go_sem]
        · rw [HORD.out, List.reverse_append]
          exact List.prefix_append_right_inj .. |>.2 (by simp [ordI, ordN_step hwf hx])
end Go.Proofs.Ytogobpnbkmdnfaa
