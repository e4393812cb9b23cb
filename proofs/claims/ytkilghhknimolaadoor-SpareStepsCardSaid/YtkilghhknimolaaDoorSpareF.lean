/-
  WHAT IS PROVED HERE: contracts of spare.New, and of Bits, On, Blocked. Conditions: as in the contracts.
-/
import Derived.Test.YtkilghhknimolaaDoorSpareE
namespace Go.Proofs.YtkilghhknimolaaDoor
open Go.RowKit

def i64B (m : Int) : Prop := -9223372036854775808 ≤ m ∧ m ≤ 9223372036854775807
def bitsV (b : Nat) (v : Int) : Int := bits .or .i64 (baseV b) v
section
variable {w : World} {mb : MB} {st : MS}
set_option maxRecDepth 20000 in
set_option maxHeartbeats 1000000 in
theorem new_nomach (i b m : Int) (w : World) : Calls Tryd.prog 24 #[.pointer none, .int .i64 i, .int .i64 b, .int .i64 m] w fun e w' => e = .returned (.tuple #[spV 0 0 0, .int .i64 2]) ∧ Below w.heap.size w w' := by
  have b0 : Blk (w.alloc (.cells #[.int .i64 0, .int .i64 0, .int .i64 0] 42)) w.heap.size 42 [.int .i64 0, .int .i64 0, .int .i64 0] := Blk.new w _ _
  have z0 : (w.alloc (.cells #[.int .i64 0, .int .i64 0, .int .i64 0] 42)).heap.size = w.heap.size + 1 := by simp
  have b1 := b0.alloc (.cells #[.int .i64 0, .int .i64 b, .int .i64 m] 42)
  have b2 : Blk ((w.alloc (.cells #[.int .i64 0, .int .i64 0, .int .i64 0] 42)).alloc (.cells #[.int .i64 0, .int .i64 b, .int .i64 m] 42)) (w.heap.size + 1) 42 [.int .i64 0, .int .i64 b, .int .i64 m] := by
    have := Blk.new (w.alloc (.cells #[.int .i64 0, .int .i64 0, .int .i64 0] 42)) 42 [.int .i64 0, .int .i64 b, .int .i64 m]
    rw [z0] at this
    exact this
  have hbl : Below w.heap.size w ((w.alloc (.cells #[.int .i64 0, .int .i64 0, .int .i64 0] 42)).alloc (.cells #[.int .i64 0, .int .i64 b, .int .i64 m] 42)) := ((Below.refl _ w).alloc (Nat.le_refl _) _).alloc (by simp) _
  have c1 := b1.cell
  have c2 := b2.cell
  have f1 := b1.frozen
  have f2 := b2.frozen
  have HB := Lib.hid hbl
  clear b0 b1 b2 hbl
  go_enter Tryd.func24, Tryd.ntmps24
  go_wp2_with fail
  refine bodyPost_ret (v := .tuple #[spV 0 0 0, .int .i64 2]) ?_ rfl ⟨rfl, HB.out⟩
  simp [results, Tryd.f24, go_sem, c1, spV]
set_option maxRecDepth 20000 in
set_option maxHeartbeats 1000000 in
theorem new_wrong (p : Addr) (i b m : Int) (w : World) (hi : i64B m) (hr : rightB b m = false) : Calls Tryd.prog 24 #[.pointer (some p), .int .i64 i, .int .i64 b, .int .i64 m] w fun e w' => e = .returned (.tuple #[spV 0 0 0, .int .i64 10]) ∧ Below w.heap.size w w' := by
  have b0 : Blk (w.alloc (.cells #[.int .i64 0, .int .i64 0, .int .i64 0] 42)) w.heap.size 42 [.int .i64 0, .int .i64 0, .int .i64 0] := Blk.new w _ _
  have z0 : (w.alloc (.cells #[.int .i64 0, .int .i64 0, .int .i64 0] 42)).heap.size = w.heap.size + 1 := by simp
  have b1 := b0.alloc (.cells #[.int .i64 0, .int .i64 b, .int .i64 m] 42)
  have b2 : Blk ((w.alloc (.cells #[.int .i64 0, .int .i64 0, .int .i64 0] 42)).alloc (.cells #[.int .i64 0, .int .i64 b, .int .i64 m] 42)) (w.heap.size + 1) 42 [.int .i64 0, .int .i64 b, .int .i64 m] := by
    have := Blk.new (w.alloc (.cells #[.int .i64 0, .int .i64 0, .int .i64 0] 42)) 42 [.int .i64 0, .int .i64 b, .int .i64 m]
    rw [z0] at this
    exact this
  have hbl : Below w.heap.size w ((w.alloc (.cells #[.int .i64 0, .int .i64 0, .int .i64 0] 42)).alloc (.cells #[.int .i64 0, .int .i64 b, .int .i64 m] 42)) := ((Below.refl _ w).alloc (Nat.le_refl _) _).alloc (by simp) _
  have c1 := b1.cell
  have c2 := b2.cell
  have f1 := b1.frozen
  have f2 := b2.frozen
  have hr0 := right_ok 0 b m ((w.alloc (.cells #[.int .i64 0, .int .i64 0, .int .i64 0] 42)).alloc (.cells #[.int .i64 0, .int .i64 b, .int .i64 m] 42)) hi
  rw [hr] at hr0
  unfold spV at hr0
  have HB := Lib.hid hbl
  have B1 := Lib.hid b1
  have B2 := Lib.hid b2
  have HR := Lib.hid hr0
  clear b0 b1 b2 hbl hr0
  go_enter Tryd.func24, Tryd.ntmps24
  go_wp2_with fail
  refine HR.out.mono ?_
  rintro e w2 ⟨rfl, hb2⟩
  have h1 := B1.out.below hb2 B1.out.lt
  have d1 := h1.cell
  have e1 := h1.frozen
  have HB2 := Lib.hid (HB.out.trans (hb2.mono HB.out.size))
  have H1 := Lib.hid h1
  clear h1 c1 c2 f1 f2 HR hb2 HB B1 B2
  go_wp2_with fail
  have D := (((H1.out.set 0 (.int .i64 0)).set 1 (.int .i64 0)).set 2 (.int .i64 0)).cell
  simp only [List.set_cons_zero, List.set_cons_succ] at D
  refine bodyPost_ret (v := .tuple #[spV 0 0 0, .int .i64 10]) ?_ rfl ⟨rfl, ((HB2.out.setCell (Nat.le_refl _) _).setCell (Nat.le_refl _) _).setCell (Nat.le_refl _) _⟩
  simp [results, Tryd.f24, go_sem, D, spV]
set_option maxRecDepth 20000 in
set_option maxHeartbeats 1000000 in
theorem new_full (hm : MachP w mb st) (i b m : Int) (hi : i64B m) (hr : rightB b m = true) (g1 : st.isCaller i = true) (g3 : st.size < st.cells.length + 2) (g4 : 0 ≤ st.size) (g5 : st.size ≤ 1048576) : Calls Tryd.prog 24 #[.pointer (some ⟨mb.p, 0, none⟩), .int .i64 i, .int .i64 b, .int .i64 m] w fun e w' => e = .returned (.tuple #[spV 0 0 0, .int .i64 21]) ∧ Below w.heap.size w w' := by
  have b0 : Blk (w.alloc (.cells #[.int .i64 0, .int .i64 0, .int .i64 0] 42)) w.heap.size 42 [.int .i64 0, .int .i64 0, .int .i64 0] := Blk.new w _ _
  have z0 : (w.alloc (.cells #[.int .i64 0, .int .i64 0, .int .i64 0] 42)).heap.size = w.heap.size + 1 := by simp
  have b1 := b0.alloc (.cells #[.int .i64 0, .int .i64 b, .int .i64 m] 42)
  have b2 : Blk ((w.alloc (.cells #[.int .i64 0, .int .i64 0, .int .i64 0] 42)).alloc (.cells #[.int .i64 0, .int .i64 b, .int .i64 m] 42)) (w.heap.size + 1) 42 [.int .i64 0, .int .i64 b, .int .i64 m] := by
    have := Blk.new (w.alloc (.cells #[.int .i64 0, .int .i64 0, .int .i64 0] 42)) 42 [.int .i64 0, .int .i64 b, .int .i64 m]
    rw [z0] at this
    exact this
  have hbl : Below w.heap.size w ((w.alloc (.cells #[.int .i64 0, .int .i64 0, .int .i64 0] 42)).alloc (.cells #[.int .i64 0, .int .i64 b, .int .i64 m] 42)) := ((Below.refl _ w).alloc (Nat.le_refl _) _).alloc (by simp) _
  have c1 := b1.cell
  have c2 := b2.cell
  have f1 := b1.frozen
  have f2 := b2.frozen
  have hr0 := right_ok 0 b m ((w.alloc (.cells #[.int .i64 0, .int .i64 0, .int .i64 0] 42)).alloc (.cells #[.int .i64 0, .int .i64 b, .int .i64 m] 42)) hi
  rw [hr] at hr0
  unfold spV at hr0
  have HB := Lib.hid hbl
  have B1 := Lib.hid b1
  have B2 := Lib.hid b2
  have HR := Lib.hid hr0
  clear b0 b1 b2 hbl hr0
  go_enter Tryd.func24, Tryd.ntmps24
  go_wp2_with fail
  refine HR.out.mono ?_
  rintro e w2 ⟨rfl, hb2⟩
  have h1 := B1.out.below hb2 B1.out.lt
  have h2 := B2.out.below hb2 B2.out.lt
  have hbl2 := HB.out.trans (hb2.mono HB.out.size)
  have hm2 := hm.kept (Kept.of_below (S := fun _ => False) hbl2) (fun k hk e => e)
  have d1 := h1.cell
  have e1 := h1.frozen
  have hz2 : w.heap.size + 1 < w2.heap.size := h2.lt
  have hal := alloc_full mb st i 2 _ hm2 g1 (by omega) g3 g4 g5
  have HA := Lib.hid hal
  have HB2 := Lib.hid hbl2
  have H1 := Lib.hid h1
  clear h1 h2 hbl2 hm2 c1 c2 f1 f2 HR hb2 HB B1 B2 hal g1 g3 g4 g5 hz2
  go_wp2_with fail
  refine HA.out.mono ?_
  rintro e wn ⟨rfl, rfl⟩
  go_wp2_with fail
  have D := (((H1.out.set 0 (.int .i64 0)).set 1 (.int .i64 0)).set 2 (.int .i64 0)).cell
  simp only [List.set_cons_zero, List.set_cons_succ] at D
  refine bodyPost_ret (v := .tuple #[spV 0 0 0, .int .i64 21]) ?_ rfl ⟨rfl, ((HB2.out.setCell (Nat.le_refl _) _).setCell (Nat.le_refl _) _).setCell (Nat.le_refl _) _⟩
  simp [results, Tryd.f24, go_sem, D, spV]
set_option maxRecDepth 20000 in
set_option maxHeartbeats 1000000 in
theorem new_okS (hm : MachP w mb st) (i b m : Int) (hi : i64B m) (hr : rightB b m = true) (g1 : st.isCaller i = true) (g3 : (st.cells.length : Int) + 2 ≤ st.size) (g4 : st.size ≤ 1048576) : Calls Tryd.prog 24 #[.pointer (some ⟨mb.p, 0, none⟩), .int .i64 i, .int .i64 b, .int .i64 m] w fun e w' => e = .returned (.tuple #[spV st.cells.length b m, .int .i64 0]) ∧ Kept mb.has w w' ∧ ∃ c, w.heap.size ≤ c ∧ MachP w' ⟨mb.p, c, mb.s⟩ ((st.did i).more 2) := by
  have hlt := hm.lt
  have b0 : Blk (w.alloc (.cells #[.int .i64 0, .int .i64 0, .int .i64 0] 42)) w.heap.size 42 [.int .i64 0, .int .i64 0, .int .i64 0] := Blk.new w _ _
  have z0 : (w.alloc (.cells #[.int .i64 0, .int .i64 0, .int .i64 0] 42)).heap.size = w.heap.size + 1 := by simp
  have b1 := b0.alloc (.cells #[.int .i64 0, .int .i64 b, .int .i64 m] 42)
  have b2 : Blk ((w.alloc (.cells #[.int .i64 0, .int .i64 0, .int .i64 0] 42)).alloc (.cells #[.int .i64 0, .int .i64 b, .int .i64 m] 42)) (w.heap.size + 1) 42 [.int .i64 0, .int .i64 b, .int .i64 m] := by
    have := Blk.new (w.alloc (.cells #[.int .i64 0, .int .i64 0, .int .i64 0] 42)) 42 [.int .i64 0, .int .i64 b, .int .i64 m]
    rw [z0] at this
    exact this
  have hbl : Below w.heap.size w ((w.alloc (.cells #[.int .i64 0, .int .i64 0, .int .i64 0] 42)).alloc (.cells #[.int .i64 0, .int .i64 b, .int .i64 m] 42)) := ((Below.refl _ w).alloc (Nat.le_refl _) _).alloc (by simp) _
  have c1 := b1.cell
  have c2 := b2.cell
  have f1 := b1.frozen
  have f2 := b2.frozen
  have hr0 := right_ok 0 b m ((w.alloc (.cells #[.int .i64 0, .int .i64 0, .int .i64 0] 42)).alloc (.cells #[.int .i64 0, .int .i64 b, .int .i64 m] 42)) hi
  rw [hr] at hr0
  unfold spV at hr0
  have HB := Lib.hid hbl
  have B1 := Lib.hid b1
  have B2 := Lib.hid b2
  have HR := Lib.hid hr0
  clear b0 b1 b2 hbl hr0
  go_enter Tryd.func24, Tryd.ntmps24
  go_wp2_with fail
  refine HR.out.mono ?_
  rintro e w2 ⟨rfl, hb2⟩
  have h1 := B1.out.below hb2 B1.out.lt
  have h2 := B2.out.below hb2 B2.out.lt
  have hbl2 := HB.out.trans (hb2.mono HB.out.size)
  have hm2 := hm.kept (Kept.of_below (S := fun _ => False) hbl2) (fun k hk e => e)
  have d1 := h1.cell
  have e1 := h1.frozen
  have hz2 : w.heap.size + 1 < w2.heap.size := h2.lt
  have hn1 : ¬ mb.has w.heap.size := fun e => by have := hlt _ e; omega
  have hn2 : ¬ mb.has (w.heap.size + 1) := fun e => by have := hlt _ e; omega
  have hal := alloc_okI mb st i 2 _ hm2 g1 (by omega) g3 g4
  have HA := Lib.hid hal
  have HB2 := Lib.hid hbl2
  have H1 := Lib.hid h1
  have H2 := Lib.hid h2
  clear h1 h2 hbl2 hm2 c1 c2 f1 f2 HR hb2 HB B1 B2 hal g1 g3 g4 e1 d1
  go_wp2_with fail
  refine HA.out.mono ?_
  rintro e w3 ⟨rfl, hk3, c3, hc3, hm3⟩
  have h13 := H1.out.kept hk3 hn1
  have h23 := H2.out.kept hk3 hn2
  have HB3 := Lib.hid ((Kept.of_below (S := mb.has) HB2.out).trans hk3 (fun _ _ e => e))
  have d1 := h13.cell
  have d2 := h23.cell
  have e1 := h13.frozen
  have e2 := h23.frozen
  have H13 := Lib.hid h13
  have H23 := Lib.hid h23
  have HM3 := Lib.hid hm3
  clear h13 h23 hk3 hm3 HA H1 H2 HB2
  go_wp2_with fail
  have D := (((H13.out.setOther (p := ⟨w.heap.size + 1, 0, none⟩) (by simp) (.int .i64 st.cells.length)).set 0 (.int .i64 st.cells.length)).set 1 (.int .i64 b)).set 2 (.int .i64 m)
  have D' := D.cell
  simp only [List.set_cons_zero, List.set_cons_succ] at D'
  have hs : Kept (fun k => k = w.heap.size ∨ k = w.heap.size + 1) w3 ((((w3.setCell ⟨w.heap.size + 1, 0, none⟩ (.int .i64 st.cells.length)).setCell ⟨w.heap.size, 0, none⟩ (.int .i64 st.cells.length)).setCell ⟨w.heap.size, 1, none⟩ (.int .i64 b)).setCell ⟨w.heap.size, 2, none⟩ (.int .i64 m)) :=
    ((((Kept.refl _ w3).setCell (p := ⟨w.heap.size + 1, 0, none⟩) (.inl (.inr rfl)) _).setCell (p := ⟨w.heap.size, 0, none⟩) (.inl (.inl rfl)) _).setCell (p := ⟨w.heap.size, 1, none⟩) (.inl (.inl rfl)) _).setCell (p := ⟨w.heap.size, 2, none⟩) (.inl (.inl rfl)) _
  have hk : Kept mb.has w _ := HB3.out.trans hs (fun k hk e => by rcases e with e | e <;> omega)
  have hm : MachP _ ⟨mb.p, c3, mb.s⟩ _ := HM3.out.kept hs (fun k hk e => by
    rcases hk with h | h | h
    · have h' : k = mb.p := h
      have := hlt mb.p (.inl rfl)
      omega
    · have h' : k = c3 := h
      omega
    · have h' : k = mb.s := h
      have := hlt mb.s (.inr (.inr rfl))
      omega)
  refine bodyPost_ret (v := .tuple #[spV st.cells.length b m, .int .i64 0]) ?_ rfl ⟨rfl, hk, c3, by omega, hm⟩
  simp [results, Tryd.f24, go_sem, D', spV]
set_option maxRecDepth 20000 in
set_option maxHeartbeats 1000000 in
theorem bits_nomach (a b m : Int) (w : World) : Calls Tryd.prog 28 #[spV a b m, .pointer none] w fun e w' => e = .returned (.int .i64 0) ∧ Below w.heap.size w w' := by
  have b0 : Blk (w.alloc (.cells #[.int .i64 a, .int .i64 b, .int .i64 m] 42)) w.heap.size 42 [.int .i64 a, .int .i64 b, .int .i64 m] := Blk.new w _ _
  have hbl : Below w.heap.size w (w.alloc (.cells #[.int .i64 a, .int .i64 b, .int .i64 m] 42)) := (Below.refl _ w).alloc (Nat.le_refl _) _
  have hz : (w.alloc (.cells #[.int .i64 a, .int .i64 b, .int .i64 m] 42)).heap.size = w.heap.size + 1 := by simp
  have c0 := b0.cell
  have HB := Lib.hid hbl
  unfold spV
  clear b0 hz hbl
  go_enter Tryd.func28, Tryd.ntmps28
  go_wp2_with fail
  go_ret
  exact ⟨rfl, HB.out⟩
set_option maxRecDepth 20000 in
set_option maxHeartbeats 1000000 in
theorem bits_wrong (a b m : Int) (p : Addr) (hi : i64B m) (hr : rightB b m = false) (w : World) : Calls Tryd.prog 28 #[spV a b m, .pointer (some p)] w fun e w' => e = .returned (.int .i64 0) ∧ Below w.heap.size w w' := by
  have b0 : Blk (w.alloc (.cells #[.int .i64 a, .int .i64 b, .int .i64 m] 42)) w.heap.size 42 [.int .i64 a, .int .i64 b, .int .i64 m] := Blk.new w _ _
  have hbl : Below w.heap.size w (w.alloc (.cells #[.int .i64 a, .int .i64 b, .int .i64 m] 42)) := (Below.refl _ w).alloc (Nat.le_refl _) _
  have hz : (w.alloc (.cells #[.int .i64 a, .int .i64 b, .int .i64 m] 42)).heap.size = w.heap.size + 1 := by simp
  have c0 := b0.cell
  have hr0 := right_ok a b m (w.alloc (.cells #[.int .i64 a, .int .i64 b, .int .i64 m] 42)) hi
  rw [hr] at hr0
  unfold spV at hr0 ⊢
  have HB := Lib.hid hbl
  have HR := Lib.hid hr0
  clear b0 hz hbl hr0
  go_enter Tryd.func28, Tryd.ntmps28
  go_wp2_with fail
  refine HR.out.mono ?_
  rintro e w2 ⟨rfl, hb2⟩
  have HB2 := Lib.hid (HB.out.trans (hb2.mono HB.out.size))
  clear hb2 HB HR c0
  go_wp2_with fail
  go_ret
  exact ⟨rfl, HB2.out⟩
set_option maxRecDepth 20000 in
set_option maxHeartbeats 1000000 in
theorem blocked_nomach (a b m : Int) (w : World) : Calls Tryd.prog 30 #[spV a b m, .pointer none] w fun e w' => e = .returned (.int .i64 0) ∧ Below w.heap.size w w' := by
  have b0 : Blk (w.alloc (.cells #[.int .i64 a, .int .i64 b, .int .i64 m] 42)) w.heap.size 42 [.int .i64 a, .int .i64 b, .int .i64 m] := Blk.new w _ _
  have hbl : Below w.heap.size w (w.alloc (.cells #[.int .i64 a, .int .i64 b, .int .i64 m] 42)) := (Below.refl _ w).alloc (Nat.le_refl _) _
  have hz : (w.alloc (.cells #[.int .i64 a, .int .i64 b, .int .i64 m] 42)).heap.size = w.heap.size + 1 := by simp
  have c0 := b0.cell
  have HB := Lib.hid hbl
  unfold spV
  clear b0 hz hbl
  go_enter Tryd.func30, Tryd.ntmps30
  go_wp2_with fail
  go_ret
  exact ⟨rfl, HB.out⟩
set_option maxRecDepth 20000 in
set_option maxHeartbeats 1000000 in
theorem blocked_wrong (a b m : Int) (p : Addr) (hi : i64B m) (hr : rightB b m = false) (w : World) : Calls Tryd.prog 30 #[spV a b m, .pointer (some p)] w fun e w' => e = .returned (.int .i64 0) ∧ Below w.heap.size w w' := by
  have b0 : Blk (w.alloc (.cells #[.int .i64 a, .int .i64 b, .int .i64 m] 42)) w.heap.size 42 [.int .i64 a, .int .i64 b, .int .i64 m] := Blk.new w _ _
  have hbl : Below w.heap.size w (w.alloc (.cells #[.int .i64 a, .int .i64 b, .int .i64 m] 42)) := (Below.refl _ w).alloc (Nat.le_refl _) _
  have hz : (w.alloc (.cells #[.int .i64 a, .int .i64 b, .int .i64 m] 42)).heap.size = w.heap.size + 1 := by simp
  have c0 := b0.cell
  have hr0 := right_ok a b m (w.alloc (.cells #[.int .i64 a, .int .i64 b, .int .i64 m] 42)) hi
  rw [hr] at hr0
  unfold spV at hr0 ⊢
  have HB := Lib.hid hbl
  have HR := Lib.hid hr0
  clear b0 hz hbl hr0
  go_enter Tryd.func30, Tryd.ntmps30
  go_wp2_with fail
  refine HR.out.mono ?_
  rintro e w2 ⟨rfl, hb2⟩
  have HB2 := Lib.hid (HB.out.trans (hb2.mono HB.out.size))
  clear hb2 HB HR c0
  go_wp2_with fail
  go_ret
  exact ⟨rfl, HB2.out⟩
set_option maxRecDepth 20000 in
set_option maxHeartbeats 1000000 in
theorem blocked_ok (hm : MachP w mb st) (b m : Int) (hi : i64B m) (hr : rightB b m = true) (v : Int) (hv : st.cellOf 0 = v) : Calls Tryd.prog 30 #[spV 0 b m, .pointer (some ⟨mb.p, 0, none⟩)] w fun e w' => e = .returned (.int .i64 v) ∧ Below w.heap.size w w' := by
  have b0 : Blk (w.alloc (.cells #[.int .i64 0, .int .i64 b, .int .i64 m] 42)) w.heap.size 42 [.int .i64 0, .int .i64 b, .int .i64 m] := Blk.new w _ _
  have hbl : Below w.heap.size w (w.alloc (.cells #[.int .i64 0, .int .i64 b, .int .i64 m] 42)) := (Below.refl _ w).alloc (Nat.le_refl _) _
  have hz : (w.alloc (.cells #[.int .i64 0, .int .i64 b, .int .i64 m] 42)).heap.size = w.heap.size + 1 := by simp
  have c0 := b0.cell
  have hr0 := right_ok 0 b m (w.alloc (.cells #[.int .i64 0, .int .i64 b, .int .i64 m] 42)) hi
  rw [hr] at hr0
  unfold spV at hr0 ⊢
  have HB := Lib.hid hbl
  have HR := Lib.hid hr0
  have B0 := Lib.hid b0
  have HM := Lib.hid hm
  clear b0 hz hbl hr0 hm
  go_enter Tryd.func30, Tryd.ntmps30
  go_wp2_with fail
  refine HR.out.mono ?_
  rintro e w2 ⟨rfl, hb2⟩
  have c2 := (B0.out.below hb2 B0.out.lt).cell
  have hbl2 := HB.out.trans (hb2.mono HB.out.size)
  have hp := peek_any mb st 0 w2 (HM.out.kept (Kept.of_below (S := fun _ => False) hbl2) (fun k hk e => e))
  rw [hv] at hp
  have HP := Lib.hid hp
  have HB2 := Lib.hid hbl2
  clear hb2 HB HR c0 hbl2 hp B0 HM
  go_wp2_with fail
  refine HP.out.mono ?_
  rintro e wn ⟨rfl, rfl⟩
  go_wp2_with fail
  go_ret
  exact ⟨rfl, HB2.out⟩
set_option maxRecDepth 20000 in
set_option maxHeartbeats 1000000 in
theorem bits_ok (hm : MachP w mb st) (b : Nat) (hb : b ≤ 16) (m : Int) (hi : i64B m) (hr : rightB b m = true) (v : Int) (hv : st.cellOf 1 = v) : Calls Tryd.prog 28 #[spV 0 b m, .pointer (some ⟨mb.p, 0, none⟩)] w fun e w' => e = .returned (.int .i64 (bitsV b v)) ∧ Below w.heap.size w w' := by
  have b0 : Blk (w.alloc (.cells #[.int .i64 0, .int .i64 b, .int .i64 m] 42)) w.heap.size 42 [.int .i64 0, .int .i64 b, .int .i64 m] := Blk.new w _ _
  have hbl : Below w.heap.size w (w.alloc (.cells #[.int .i64 0, .int .i64 b, .int .i64 m] 42)) := (Below.refl _ w).alloc (Nat.le_refl _) _
  have hz : (w.alloc (.cells #[.int .i64 0, .int .i64 b, .int .i64 m] 42)).heap.size = w.heap.size + 1 := by simp
  have c0 := b0.cell
  have hr0 := right_ok 0 b m (w.alloc (.cells #[.int .i64 0, .int .i64 b, .int .i64 m] 42)) hi
  rw [hr] at hr0
  unfold spV at hr0 ⊢
  have HB := Lib.hid hbl
  have HR := Lib.hid hr0
  have B0 := Lib.hid b0
  have HM := Lib.hid hm
  clear b0 hz hbl hr0 hm
  go_enter Tryd.func28, Tryd.ntmps28
  have E1 : Hid (IntKind.i64.wrap 1 = 1) := Lib.hid (by decide)
  go_wp2_with fail
  refine HR.out.mono ?_
  rintro e w2 ⟨rfl, hb2⟩
  have h2 := B0.out.below hb2 B0.out.lt
  have c2 := h2.cell
  have hbl2 := HB.out.trans (hb2.mono HB.out.size)
  have hm2 := HM.out.kept (Kept.of_below (S := fun _ => False) hbl2) (fun k hk e => e)
  have H2 := Lib.hid h2
  have HB2 := Lib.hid hbl2
  have HM2 := Lib.hid hm2
  clear hb2 HB HR c0 hbl2 B0 HM h2 hm2
  obtain ⟨B, hB⟩ : ∃ B, w.heap.size = B := ⟨_, rfl⟩
  rw [hB] at c2 H2 ⊢
  have hbase := fun W => base_ok 0 m b hb W
  unfold spV at hbase
  have HBA := Lib.hid hbase
  clear hbase
  go_upto_region 3 with fail
  go_region_held3 (fun w' => ∀ j, w'.cell? ⟨B, j, none⟩ = [Value.int .i64 0, .int .i64 b, .int .i64 m][j]?) (first | exact c2 | exact c3) (first
    | (go_at_call 52; refine (HBA.out _).mono ?_; rintro e w3 ⟨rfl, hb3⟩; have c3 : ∀ j, w3.cell? ⟨B, j, none⟩ = [Value.int .i64 0, .int .i64 b, .int .i64 m][j]? := (H2.out.drew.below hb3 H2.out.drew.lt).cell)
    | (go_at_call 34; rw [E1.out]; refine (peek_any mb st 1 _ (HM2.out.drew.kept (Kept.of_below (S := fun _ => False) hb3) (fun k hk e => e))).mono ?_; rintro e w4 ⟨rfl, hw4⟩; obtain rfl := hw4))
  have HB3 := Lib.hid (HB2.out.drew.trans (hb3.mono HB2.out.drew.size))
  clear c2 c3 hb3
  go_wp2_with fail
  go_ret
  exact ⟨ret_int (by unfold bitsV baseV; rw [Int.natCast_pow]; rfl), HB3.out⟩
set_option maxRecDepth 20000 in
set_option maxHeartbeats 1000000 in
theorem on_nomach (b m : Int) (i : Int) (w : World) : Calls Tryd.prog 29 #[spV 0 b m, .pointer none, .int .i64 i] w fun e w' => e = .returned (.bool (hasBit 0 i)) ∧ Below w.heap.size w w' := by
  have b0 : Blk (w.alloc (.cells #[.int .i64 0, .int .i64 b, .int .i64 m] 42)) w.heap.size 42 [.int .i64 0, .int .i64 b, .int .i64 m] := Blk.new w _ _
  have hbl : Below w.heap.size w (w.alloc (.cells #[.int .i64 0, .int .i64 b, .int .i64 m] 42)) := (Below.refl _ w).alloc (Nat.le_refl _) _
  have hz : (w.alloc (.cells #[.int .i64 0, .int .i64 b, .int .i64 m] 42)).heap.size = w.heap.size + 1 := by simp
  have c0 := b0.cell
  have hbi := bits_nomach 0 b m (w.alloc (.cells #[.int .i64 0, .int .i64 b, .int .i64 m] 42))
  unfold spV at hbi ⊢
  have HB := Lib.hid hbl
  have HI := Lib.hid hbi
  clear b0 hz hbl hbi
  go_enter Tryd.func29, Tryd.ntmps29
  go_wp2_with fail
  refine HI.out.mono ?_
  rintro e w2 ⟨rfl, hb2⟩
  have HB2 := Lib.hid (HB.out.trans (hb2.mono HB.out.size))
  clear hb2 HB HI c0
  go_wp2_with fail
  refine (has_ok _ _ _).mono ?_
  rintro e wn ⟨rfl, rfl⟩
  go_wp2_with fail
  go_ret
  exact ⟨rfl, HB2.out⟩
set_option maxRecDepth 20000 in
set_option maxHeartbeats 1000000 in
theorem on_wrong (b m : Int) (p : Addr) (hi : i64B m) (hr : rightB b m = false) (i : Int) (w : World) : Calls Tryd.prog 29 #[spV 0 b m, .pointer (some p), .int .i64 i] w fun e w' => e = .returned (.bool (hasBit 0 i)) ∧ Below w.heap.size w w' := by
  have b0 : Blk (w.alloc (.cells #[.int .i64 0, .int .i64 b, .int .i64 m] 42)) w.heap.size 42 [.int .i64 0, .int .i64 b, .int .i64 m] := Blk.new w _ _
  have hbl : Below w.heap.size w (w.alloc (.cells #[.int .i64 0, .int .i64 b, .int .i64 m] 42)) := (Below.refl _ w).alloc (Nat.le_refl _) _
  have hz : (w.alloc (.cells #[.int .i64 0, .int .i64 b, .int .i64 m] 42)).heap.size = w.heap.size + 1 := by simp
  have c0 := b0.cell
  have hbi := bits_wrong 0 b m p hi hr (w.alloc (.cells #[.int .i64 0, .int .i64 b, .int .i64 m] 42))
  unfold spV at hbi ⊢
  have HB := Lib.hid hbl
  have HI := Lib.hid hbi
  clear b0 hz hbl hbi
  go_enter Tryd.func29, Tryd.ntmps29
  go_wp2_with fail
  refine HI.out.mono ?_
  rintro e w2 ⟨rfl, hb2⟩
  have HB2 := Lib.hid (HB.out.trans (hb2.mono HB.out.size))
  clear hb2 HB HI c0
  go_wp2_with fail
  refine (has_ok _ _ _).mono ?_
  rintro e wn ⟨rfl, rfl⟩
  go_wp2_with fail
  go_ret
  exact ⟨rfl, HB2.out⟩
set_option maxRecDepth 20000 in
set_option maxHeartbeats 1000000 in
theorem on_ok (hm : MachP w mb st) (b : Nat) (hb : b ≤ 16) (m : Int) (hi : i64B m) (hr : rightB b m = true) (v : Int) (hv : st.cellOf 1 = v) (i : Int) : Calls Tryd.prog 29 #[spV 0 b m, .pointer (some ⟨mb.p, 0, none⟩), .int .i64 i] w fun e w' => e = .returned (.bool (hasBit (bitsV b v) i)) ∧ Below w.heap.size w w' := by
  have b0 : Blk (w.alloc (.cells #[.int .i64 0, .int .i64 b, .int .i64 m] 42)) w.heap.size 42 [.int .i64 0, .int .i64 b, .int .i64 m] := Blk.new w _ _
  have hbl : Below w.heap.size w (w.alloc (.cells #[.int .i64 0, .int .i64 b, .int .i64 m] 42)) := (Below.refl _ w).alloc (Nat.le_refl _) _
  have hz : (w.alloc (.cells #[.int .i64 0, .int .i64 b, .int .i64 m] 42)).heap.size = w.heap.size + 1 := by simp
  have c0 := b0.cell
  have hbi := bits_ok (hm.alloc (.cells #[.int .i64 0, .int .i64 b, .int .i64 m] 42)) b hb m hi hr v hv
  unfold spV at hbi ⊢
  have HB := Lib.hid hbl
  have HI := Lib.hid hbi
  clear b0 hz hbl hbi
  go_enter Tryd.func29, Tryd.ntmps29
  go_wp2_with fail
  refine HI.out.mono ?_
  rintro e w2 ⟨rfl, hb2⟩
  have HB2 := Lib.hid (HB.out.trans (hb2.mono HB.out.size))
  clear hb2 HB HI c0
  go_wp2_with fail
  refine (has_ok _ _ _).mono ?_
  rintro e wn ⟨rfl, rfl⟩
  go_wp2_with fail
  go_ret
  exact ⟨rfl, HB2.out⟩
end
end Go.Proofs.YtkilghhknimolaaDoor
