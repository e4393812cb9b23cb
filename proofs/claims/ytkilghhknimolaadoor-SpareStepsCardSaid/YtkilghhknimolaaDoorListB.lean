/-
  WHAT IS PROVED HERE: the contract of pelotonlaw12's list over idle's iterator. Conditions: the table math/bits.deBruijn64tab lies as its initialiser lays it; the second number is 1 or more.
-/
import Derived.Test.YtkilghhknimolaaDoorListA
namespace Go.Proofs.YtkilghhknimolaaDoor
open Go.RowKit Go.Shelf
attribute [local go_sem] Oper.semAt_some

theorem linfo_int : ∃ i0, Tryd.prog.info? 3 = some i0 ∧ i0.zero = some (.int .i64 0) ∧ i0.size = 1 ∧ i0.bytes = 8 := by
  have h : (Tryd.prog.info? 3).map (fun i => (i.zero, i.size, i.bytes)) = some (some (.int .i64 0), 1, 8) := by kernel_rfl
  cases hc : Tryd.prog.info? 3 with
  | none => rw [hc] at h; simp at h
  | some i =>
    rw [hc] at h
    simp at h
    exact ⟨i, rfl, h.1, h.2.1, h.2.2⟩
/-- The array behind the slice that block b holds. -/
def arrOf (b : Nat) (W : World) (k : Nat) : Prop := ∃ g n cap, W.cell? ⟨b, 0, none⟩ = some (.slice (some ⟨g, 0, none⟩) n cap) ∧ k = g
/-- What list keeps: its list so far. -/
structure LsI (w : World) (most : Int) (pre : List Int) (W : World) (g cap : Nat) : Prop where
  bm : Blk W w.heap.size 3 [.int .i64 most]
  bo : Blk W (w.heap.size + 2) 22 [.slice (some ⟨g, 0, none⟩) pre.length cap]
  row : Rw W g cap 3 (ints pre)
  gt : w.heap.size < g
  bel : Below w.heap.size w W
theorem LsI.ne {w W : World} {most : Int} {pre : List Int} {g cap : Nat} (h : LsI w most pre W g cap) : g ≠ w.heap.size + 2 := by
  intro e
  obtain ⟨rest, hb, _⟩ := h.row
  subst e
  have h1 : some (Obj.cells _ _ (0, 0)) = some (Obj.cells _ _ (0, 0)) := hb.symm.trans h.bo
  injection h1 with h1
  injection h1 with _ h1
  exact absurd h1 (by decide)
theorem LsI.arr {w W : World} {most : Int} {pre : List Int} {g cap : Nat} (h : LsI w most pre W g cap) {k : Nat} : arrOf (w.heap.size + 2) W k ↔ k = g := by
  have hc : W.cell? ⟨w.heap.size + 2, 0, none⟩ = some (.slice (some ⟨g, 0, none⟩) pre.length cap) := h.bo.cell 0
  constructor
  · rintro ⟨g', n, c, h1, rfl⟩
    rw [hc] at h1
    simp at h1
    exact h1.1.symm
  · rintro rfl
    exact ⟨_, _, _, hc, rfl⟩
theorem LsI.next {w W w1 : World} {most x : Int} {pre : List Int} {g cap g' cap' : Nat} (h : LsI w most pre W g cap) (ri : Rw w1 g' cap' 3 (ints pre ++ [.int .i64 x])) (hk : Kept (fun k => k = g) (W.alloc (.cells #[.int .i64 x] 3)) w1) (hw : g' = g ∨ g' = (W.alloc (.cells #[.int .i64 x] 3)).heap.size) :
    LsI w most (pre ++ [x]) (w1.setCell ⟨w.heap.size + 2, 0, none⟩ (.slice (some ⟨g', 0, none⟩) (pre.length + 1) cap')) g' cap' ∧
    Kept (fun k => k = w.heap.size + 2 ∨ arrOf (w.heap.size + 2) W k) W (w1.setCell ⟨w.heap.size + 2, 0, none⟩ (.slice (some ⟨g', 0, none⟩) (pre.length + 1) cap')) ∧
    ∀ k, k < W.heap.size → (k < w.heap.size ∨ k = w.heap.size ∨ k = w.heap.size + 2 ∨ arrOf (w.heap.size + 2) (w1.setCell ⟨w.heap.size + 2, 0, none⟩ (.slice (some ⟨g', 0, none⟩) (pre.length + 1) cap')) k) → (k < w.heap.size ∨ k = w.heap.size ∨ k = w.heap.size + 2 ∨ arrOf (w.heap.size + 2) W k) := by
  have hne := h.ne
  have hgt := h.gt
  have hbo := h.bo.lt
  rw [World.size_alloc] at hw
  have hg' : g' ≠ w.heap.size + 2 := by
    rcases hw with e | e
    · rw [e]; exact hne
    · omega
  have hgt' : w.heap.size < g' := by omega
  have bo1 := (h.bo.alloc (.cells #[.int .i64 x] 3)).kept hk (Ne.symm hne)
  have bm1 := (h.bm.alloc (.cells #[.int .i64 x] 3)).kept hk (by omega)
  have kW : Kept (fun k => k = w.heap.size + 2 ∨ arrOf (w.heap.size + 2) W k) W (w1.setCell ⟨w.heap.size + 2, 0, none⟩ (.slice (some ⟨g', 0, none⟩) (pre.length + 1) cap')) :=
    (((Kept.refl (fun k => k = w.heap.size + 2 ∨ arrOf (w.heap.size + 2) W k) W).alloc _).trans hk (fun k _ e => .inr (h.arr.2 e))).setCell (p := ⟨w.heap.size + 2, 0, none⟩) (.inl (.inl rfl)) _
  have hL : LsI w most (pre ++ [x]) (w1.setCell ⟨w.heap.size + 2, 0, none⟩ (.slice (some ⟨g', 0, none⟩) (pre.length + 1) cap')) g' cap' := by
    refine ⟨bm1.setOther (by simp) _, ?_, ?_, hgt', below_round' h.bel kW (fun k e e' => ?_) h.bel.size⟩
    · have := bo1.set 0 (.slice (some ⟨g', 0, none⟩) (pre.length + 1) cap')
      rw [List.length_append, List.length_singleton]
      exact this
    · have e : ints (pre ++ [x]) = ints pre ++ [.int .i64 x] := by simp [ints]
      rw [e]
      exact ri.setOther (p := ⟨w.heap.size + 2, 0, none⟩) hg' _
    · rcases e' with e' | e'
      · omega
      · have := h.arr.1 e'; omega
  refine ⟨hL, kW, fun k hk e => ?_⟩
  rcases e with e | e | e | e
  · exact .inl e
  · exact .inr (.inl e)
  · exact .inr (.inr (.inl e))
  · have e2 := hL.arr.1 e
    rcases hw with e3 | e3
    · exact .inr (.inr (.inr (h.arr.2 (e2.trans e3))))
    · omega
set_option maxRecDepth 20000 in
set_option maxHeartbeats 2000000 in
theorem list_ok (z most : Int) (bs : Nat) (w : World) (hbs : Blk w bs 2 [.int .i64 z]) (hT : Tab w) (h1 : 1 ≤ most) :
    Calls Tryd.prog 16 #[.func (.func 48) #[] #[.pointer (some ⟨bs, 0, none⟩)], .int .i64 most] w fun e w' =>
      ∃ g cap, e = .returned (.slice (some ⟨g, 0, none⟩) ((membersOf z).take most.toNat).length cap) ∧ Rw w' g cap 3 (ints ((membersOf z).take most.toNat)) ∧ w.heap.size ≤ g ∧ Below w.heap.size w w' := by
  obtain ⟨ii, hii, hi0, hi1, hi2⟩ := linfo_int
  have hlt := hT.lt
  have hbl := hbs.lt
  obtain ⟨ls, hls⟩ : ∃ ls, (membersOf z).take most.toNat = ls := ⟨_, rfl⟩
  rw [hls]
  have HLS := Lib.hid hls
  clear hls
  refine (callsIn_wide (n := 5)).1 ?_
  refine callsIn_of_wp_marks Tryd.func16 rfl trivial ?_ rfl
  simp only [Tryd.ntmps16, List.size_toArray, List.length_cons, List.length_nil, Nat.reduceAdd, Nat.reduceSub, Array.replicate_succ, Array.replicate_zero, List.push_toArray, List.append_toArray, List.nil_append, List.cons_append]
  have b0 : Blk (w.alloc (.cells #[.int .i64 most] 3)) w.heap.size 3 [.int .i64 most] := Blk.new w _ [.int .i64 most]
  have bl0 : Below w.heap.size w (w.alloc (.cells #[.int .i64 most] 3)) := (Below.refl _ w).alloc (Nat.le_refl _) _
  have z0 : (w.alloc (.cells #[.int .i64 most] 3)).heap.size = w.heap.size + 1 := by simp
  have d1 : decide (most < 1) = false := by simp; omega
  have hnf : ∀ W : World, Sem.run Tryd.prog (binOp .eql 28 (.func (.func 48) #[] #[.pointer (some ⟨bs, 0, none⟩)]) .nilFunc) W = .ok (.bool false) W := fun _ => by first | rfl | kernel_rfl
  gi_wp2_with fail
  have hI : LsI w most [] (((w.alloc (.cells #[.int .i64 most] 3)).alloc (.cells #[] 3)).alloc (.cells #[.slice (some ⟨w.heap.size + 1, 0, none⟩) 0 0] 22)) (w.heap.size + 1) 0 := by
    have e1 : ((w.alloc (.cells #[.int .i64 most] 3)).alloc (.cells #[] 3)).heap.size = w.heap.size + 2 := by simp
    refine ⟨(b0.alloc _).alloc _, ?_, ?_, by omega, (bl0.alloc (by simp) _).alloc (by simp; omega) _⟩
    · have := Blk.new ((w.alloc (.cells #[.int .i64 most] 3)).alloc (.cells #[] 3)) 22 [.slice (some ⟨w.heap.size + 1, 0, none⟩) 0 0]
      rwa [e1] at this
    · have := (Rw.of (Blk.new (w.alloc (.cells #[.int .i64 most] 3)) 3 []) (by unfold maxLen; simp)).alloc (.cells #[.slice (some ⟨w.heap.size + 1, 0, none⟩) 0 0] 22)
      rwa [z0] at this
  have z2 : (((w.alloc (.cells #[.int .i64 most] 3)).alloc (.cells #[] 3)).alloc (.cells #[.slice (some ⟨w.heap.size + 1, 0, none⟩) 0 0] 22)).heap.size = w.heap.size + 3 := by simp
  have hT2 := hT.below hI.bel hlt
  have hbs2 := hbs.below hI.bel hbl
  clear b0 bl0 z0 hT hbs
  rw [show w.heap.size + 1 + 1 = w.heap.size + 2 from rfl]
  generalize (((w.alloc (.cells #[.int .i64 most] 3)).alloc (.cells #[] 3)).alloc (.cells #[.slice (some ⟨w.heap.size + 1, 0, none⟩) 0 0] 22)) = wq at *
  have hN : (membersOf z).length ≤ 64 := by unfold membersOf; rw [List.length_map]; exact bitsOf_length _
  refine range_own (gf := 48) (lb := #[.pointer (some ⟨bs, 0, none⟩)]) rfl (enters_of Tryd.func48 (by kernel_rfl) rfl) (by omega) (members_seq (5 - 1) (by omega) bs z wq 2 hbs2 hT2) (fun x => rfl)
    (fun W k => k < w.heap.size ∨ k = w.heap.size ∨ k = w.heap.size + 2 ∨ arrOf (w.heap.size + 2) W k) (fun W k => k = w.heap.size + 2 ∨ arrOf (w.heap.size + 2) W k)
    (fun pre W => (pre.length : Int) < most ∧ ∃ g cap, LsI w most pre W g cap)
    (fun c pre W => c = .exit 0 ∧ (pre.length : Int) = most ∧ ∃ g cap, LsI w most pre W g cap)
    ⟨?_, ?_, ?_⟩ ?_ ?_ ?_ ⟨by simp; omega, w.heap.size + 1, 0, hI⟩
    (fun x => { tmps := #[.func (.func 48) #[] #[.pointer (some ⟨bs, 0, none⟩)], .int .i64 most, undef, .pointer (some ⟨w.heap.size, 0, none⟩), .slice none 0 0, .pointer (some ⟨w.heap.size + 2, 0, none⟩), .int .i64 x, .slice (some ⟨w.heap.size + 1, 0, none⟩) 0 0, .func (.func 48) #[] #[.pointer (some ⟨bs, 0, none⟩)], .bool false, .bool false, .int .i64 most, .bool false, .bool false, undef, .func (.func 48) #[] #[.pointer (some ⟨bs, 0, none⟩)], .int .i64 x, undef, undef, undef, undef, undef, undef, undef, undef, undef], defers := [] }) ?assign ?body ?done ?stop
  · rintro pre A k ⟨_, g, cap, h⟩ (e | rfl | rfl | e)
    · have := h.bel.size; omega
    · exact h.bm.lt
    · exact h.bo.lt
    · rw [h.arr.1 e]; exact h.row.lt
  · rintro pre A k _ (rfl | e)
    · exact .inr (.inr (.inl rfl))
    · exact .inr (.inr (.inr e))
  · rintro pre A B ⟨hp, g, cap, h⟩ hk
    have hg : arrOf (w.heap.size + 2) A g := h.arr.2 rfl
    have h' : LsI w most pre B g cap := ⟨h.bm.kept hk (fun e => e (.inr (.inl rfl))), h.bo.kept hk (fun e => e (.inr (.inr (.inl rfl)))), h.row.kept hk (fun e => e (.inr (.inr (.inr hg)))), h.gt, below_round' h.bel hk (fun k e e' => e' (.inl e)) h.bel.size⟩
    refine ⟨⟨hp, g, cap, h'⟩, fun k e => ?_, fun k e => ?_⟩
    · rcases e with e | e | e | e
      · exact .inl e
      · exact .inr (.inl e)
      · exact .inr (.inr (.inl e))
      · exact .inr (.inr (.inr (h.arr.2 (h'.arr.1 e))))
    · rcases e with e | e
      · exact .inl e
      · exact .inr (h.arr.2 (h'.arr.1 e))
  · rintro pre A ⟨_, g, cap, h⟩
    refine ⟨fun k e e' => ?_, fun k e e' => e⟩
    have hg := h.gt
    rcases e' with e' | e'
    · rcases e with e | e <;> omega
    · have := h.arr.1 e'
      rcases e with e | e <;> omega
  · rintro k ((h | h) | h)
    · omega
    · omega
    · exact h.elim
  · rintro c pre A r ob hr ⟨q, hq⟩ ⟨e1, e2, g, cap, h⟩
    exact ⟨e1, e2, g, cap, h.bm.putObj ob hq rfl, h.bo.putObj ob hq rfl, h.row.putObj ob hq rfl, h.gt, below_putObj h.bel ob (by omega)⟩
  case assign =>
    intro lp x W K hK
    gi_wp2
    simpa using hK
  case body =>
    rintro lp pre x W ⟨hp, g, cap, h⟩ hlen
    have co : W.cell? ⟨w.heap.size + 2, 0, none⟩ = some (.slice (some ⟨g, 0, none⟩) pre.length cap) := h.bo.cell 0
    have cm : W.cell? ⟨w.heap.size, 0, none⟩ = some (.int .i64 most) := h.bm.cell 0
    have hbo := h.bo.lt
    have hgt := h.gt
    have hne := h.ne
    have hgl := h.row.lt
    have RI := Lib.hid (h.row.alloc (.cells #[.int .i64 x] 3))
    have NB : Hid ((W.alloc (.cells #[.int .i64 x] 3)).cell? ⟨W.heap.size, 0, none⟩ = some (.int .i64 x)) := Lib.hid ((Blk.new W 3 [.int .i64 x]).cell 0)
    have hlp : pre.length < 64 := by omega
    have H := Lib.hid h
    have harr : ∀ k, arrOf (w.heap.size + 2) W k ↔ k = g := fun k => h.arr
    have HARR := Lib.hid harr
    have HP := Lib.hid hp
    clear h harr hp hT2 hbs2
    by_cases hge : most ≤ (pre.length : Int) + 1
    · have dg : decide (most ≤ (pre.length : Int) + 1) = true := by simp; omega
      have HG := Lib.hid hge
      clear hge
      gi_wp2_with (gi_at_builtin; go_loud (refine wpListIn_append_row _ rfl (.tmp 17) (.tmp 19) 22 rfl 3 ii (.int .i64 0) 8 Tryd.underlying22 hii hi0 hi1 hi2 rfl g cap pre.length (ints pre) rfl (length_ints pre).symm RI.out W.heap.size (.int .i64 x) rfl NB.out rfl (by rw [length_ints]; omega) (by omega) ?_); intro g' cap' w1 ri1 hk1 hw1 hl1; have bo1 := (H.out.bo.alloc (.cells #[.int .i64 x] 3)).kept hk1 (Ne.symm hne); have bm1 := (H.out.bm.alloc (.cells #[.int .i64 x] 3)).kept hk1 (by omega); have co1 : w1.cell? ⟨w.heap.size + 2, 0, none⟩ = some (.slice (some ⟨g, 0, none⟩) pre.length cap) := bo1.cell 0; have cm1 : w1.cell? ⟨w.heap.size, 0, none⟩ = some (.int .i64 most) := bm1.cell 0; have fo1 := bo1.frozen 0)
      have hN2 := H.out.next ri1 hk1 hw1
      exact ⟨hN2.2.1, rfl, by rw [List.length_append, List.length_singleton]; have := HP.out; have := HG.out; omega, g', cap', hN2.1⟩
    · have dg : decide (most ≤ (pre.length : Int) + 1) = false := by simp; omega
      have HG := Lib.hid hge
      clear hge
      gi_wp2_with (gi_at_builtin; go_loud (refine wpListIn_append_row _ rfl (.tmp 17) (.tmp 19) 22 rfl 3 ii (.int .i64 0) 8 Tryd.underlying22 hii hi0 hi1 hi2 rfl g cap pre.length (ints pre) rfl (length_ints pre).symm RI.out W.heap.size (.int .i64 x) rfl NB.out rfl (by rw [length_ints]; omega) (by omega) ?_); intro g' cap' w1 ri1 hk1 hw1 hl1; have bo1 := (H.out.bo.alloc (.cells #[.int .i64 x] 3)).kept hk1 (Ne.symm hne); have bm1 := (H.out.bm.alloc (.cells #[.int .i64 x] 3)).kept hk1 (by omega); have co1 : w1.cell? ⟨w.heap.size + 2, 0, none⟩ = some (.slice (some ⟨g, 0, none⟩) pre.length cap) := bo1.cell 0; have cm1 : w1.cell? ⟨w.heap.size, 0, none⟩ = some (.int .i64 most) := bm1.cell 0; have fo1 := bo1.frozen 0)
      have hN2 := H.out.next ri1 hk1 hw1
      exact ⟨⟨hN2.2.1, hN2.2.2⟩, by rw [List.length_append, List.length_singleton]; have := HG.out; omega, g', cap', hN2.1⟩
  case done =>
    rintro D ys W hD rfl ⟨hp, g, cap, h⟩ hK
    have co : W.cell? ⟨w.heap.size + 2, 0, none⟩ = some (.slice (some ⟨g, 0, none⟩) (membersOf z).length cap) := h.bo.cell 0
    have hgt := h.gt
    have ht : Hid (ls = membersOf z) := Lib.hid (by rw [← HLS.out]; exact List.take_of_length_le (by omega))
    have HH := Lib.hid h
    clear h hT2 hbs2
    gi_wp2
    refine ⟨by simp, .inl ⟨_, _, rfl, run_takeDeferred hK, ?_⟩⟩
    rw [ht.out]
    refine ⟨.slice (some ⟨g, 0, none⟩) (membersOf z).length cap, ?_, g, cap, rfl, HH.out.row.putObj _ hK rfl, by omega, below_putObj HH.out.bel _ (by omega)⟩
    simp [results, Tryd.f16, go_sem]
  case stop =>
    rintro D c pre W hD ⟨ys, hys⟩ ⟨rfl, hp, g, cap, h⟩ hK
    have co : W.cell? ⟨w.heap.size + 2, 0, none⟩ = some (.slice (some ⟨g, 0, none⟩) pre.length cap) := h.bo.cell 0
    have hgt := h.gt
    have ht : Hid (ls = pre) := Lib.hid (by rw [← HLS.out, ← hys, show most.toNat = pre.length by omega]; simp)
    have HH := Lib.hid h
    clear h hT2 hbs2
    gi_wp2
    refine ⟨by simp, .inl ⟨_, _, rfl, run_takeDeferred hK, ?_⟩⟩
    rw [ht.out]
    refine ⟨.slice (some ⟨g, 0, none⟩) pre.length cap, ?_, g, cap, rfl, HH.out.row.putObj _ hK rfl, by omega, below_putObj HH.out.bel _ (by omega)⟩
    simp [results, Tryd.f16, go_sem]
end Go.Proofs.YtkilghhknimolaaDoor
