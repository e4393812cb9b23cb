/-
  WHAT IS PROVED HERE: contracts of idle's sets on a machine: New, Enter, Leave, Read. Conditions: as in the contracts.
-/
import Derived.Test.YtkilghhknimolaaDoorRefM
import Derived.Test.YtkilghhknimolaaDoorCellsD
import Derived.Test.YtkilghhknimolaaDoorMs
import Derived.StillTailTactics
import Derived.Deep.RegionWith
import Derived.Deep.DeepCutAuto
import Derived.Deep.RegionHeld3
import Derived.Deep.CutBlock
namespace Go.Proofs.YtkilghhknimolaaDoor
open Go.RowKit

def setV (at_ : Int) : Value := .agg #[.int .i64 at_]
section
variable {w : World} {mb : MB} {st : MS}
theorem inew_ok (hm : MachP w mb st) (i : Int) (g1 : st.isCaller i = true) (g3 : (st.cells.length : Int) + 1 ≤ st.size) (g4 : st.size ≤ 1048576) :
    Calls Tryd.prog 38 #[.pointer (some ⟨mb.p, 0, none⟩), .int .i64 i] w fun e w' =>
      e = .returned (.tuple #[setV st.cells.length, .int .i64 0]) ∧ Kept mb.has w w' ∧ ∃ c, w.heap.size ≤ c ∧ MachP w' ⟨mb.p, c, mb.s⟩ ((st.did i).more 1) := by
  have b0 : Blk (w.alloc (.cells #[.int .i64 0] 71)) w.heap.size 71 [.int .i64 0] := Blk.new w _ _
  have hm0 := hm.alloc (.cells #[.int .i64 0] 71)
  have hlt := hm.lt
  have hal := alloc_okI mb st i 1 _ hm0 g1 (by omega) g3 g4
  have HAL := Lib.hid hal
  clear hal hm0
  go_enter Tryd.func38, Tryd.ntmps38
  go_wp2_with fail
  refine HAL.out.mono ?_
  rintro e w2 ⟨rfl, hk2, c2, hc2, hm2⟩
  have b2 := b0.kept hk2 (fun e => by have := hlt _ e; omega)
  have c0 := b2.cell 0
  have f0 := b2.frozen 0
  simp only [List.getElem?_cons_zero] at c0
  go_wp2_with fail
  have b3 := b2.set 0 (.int .i64 st.cells.length)
  have c3 := b3.cell 0
  simp only [List.set_cons_zero, List.getElem?_cons_zero] at c3
  have hm3 := hm2.setOther (p := ⟨w.heap.size, 0, none⟩) (fun e => by
    rcases e with e | e | e
    · have := hlt mb.p (.inl rfl); have e' : w.heap.size = mb.p := e; omega
    · have e' : w.heap.size = c2 := e; simp at hc2; omega
    · have := hlt mb.s (.inr (.inr rfl)); have e' : w.heap.size = mb.s := e; omega) (.int .i64 st.cells.length)
  have hk3 : Kept mb.has w (w2.setCell ⟨w.heap.size, 0, none⟩ (.int .i64 st.cells.length)) := (((Kept.refl mb.has w).alloc _).trans hk2 (fun _ _ e => e)).setCell (p := ⟨w.heap.size, 0, none⟩) (.inr (Nat.le_refl _)) _
  simp at hc2
  refine bodyPost_ret (v := .tuple #[setV st.cells.length, .int .i64 0]) ?_ rfl ⟨rfl, hk3, c2, by omega, hm3⟩
  simp [results, Tryd.f38, go_sem, c3, setV]
set_option maxRecDepth 20000 in
set_option maxHeartbeats 1000000 in
theorem turn_ok (hm : MachP w mb st) (at_ times : Int) (k : Nat) (hk : k ≤ 16) (g1 : st.isCaller k = true) (g2 : st.isGiven at_ = true) (v : Int) (hv : st.cellOf at_ = v) :
    Calls Tryd.prog 56 #[setV at_, .pointer (some ⟨mb.p, 0, none⟩), .int .i64 k, .int .i64 times] w fun e w' =>
      e = .returned (.int .i64 0) ∧ MachP w' mb ((st.did k).putAt at_ (wrap64 (v + IntKind.i64.wrap (times * 2 ^ k)))) ∧ Kept mb.has w w' := by
  have b0 : Blk (w.alloc (.cells #[.int .i64 at_] 71)) w.heap.size 71 [.int .i64 at_] := Blk.new w _ _
  have c0 := b0.cell 0
  simp only [List.getElem?_cons_zero] at c0
  have hm0 := hm.alloc (.cells #[.int .i64 at_] 71)
  have hk0 : Kept mb.has w (w.alloc (.cells #[.int .i64 at_] 71)) := (Kept.refl mb.has w).alloc _
  have d1 : decide ((k : Int) < 0) = false := by simp
  have d2 : decide ((16 : Int) < (k : Int)) = false := by simp; omega
  have hlt := hm.lt
  unfold setV
  go_enter Tryd.func56, Tryd.ntmps56
  go_upto_region 5 with fail
  obtain ⟨b, hb⟩ : ∃ b, w.heap.size = b := ⟨_, rfl⟩
  rw [hb] at b0 c0 ⊢
  generalize (w.alloc (.cells #[.int .i64 at_] 71)) = w1 at *
  have hnb : ¬ mb.has b := fun e => by have := hlt b e; omega
  have HM0 := Lib.hid hm0
  have HB0 := Lib.hid b0
  have HK0 := Lib.hid hk0
  clear hm hm0 b0 hk0 hb hlt
  go_region_held3 (fun w' => w'.cell? ⟨b, 0, none⟩ = some (.int .i64 at_)) (first | exact c0 | exact c2) (first | (go_at_call 63; refine (add_v mb st k at_ (IntKind.i64.wrap (times * 2 ^ k)) v _ HM0.out.drew g1 g2 hv).mono ?_; rintro e w2 ⟨rfl, hm2, hk2⟩; have hk2' : Kept mb.has w1 w2 := (Kept.refl mb.has w1).drew.trans hk2 (fun _ _ e => e); have c2 : w2.cell? ⟨b, 0, none⟩ = some (.int .i64 at_) := (HB0.out.kept hk2' hnb).cell 0; have HM2 := Lib.hid hm2; have HK2 := Lib.hid hk2'; clear hm2 hk2 hk2'))
  have HK2' : Kept mb.has w w2 := HK0.out.trans HK2.out (fun _ _ e => e)
  go_wp2_with fail
  go_ret
  exact ⟨rfl, HM2.out, HK2'⟩
theorem enter_ok (hm : MachP w mb st) (at_ : Int) (k : Nat) (hk : k ≤ 16) (g1 : st.isCaller k = true) (g2 : st.isGiven at_ = true) (v : Int) (hv : st.cellOf at_ = v) :
    Calls Tryd.prog 39 #[setV at_, .pointer (some ⟨mb.p, 0, none⟩), .int .i64 k] w fun e w' =>
      e = .returned (.int .i64 0) ∧ MachP w' mb ((st.did k).putAt at_ (wrap64 (v + IntKind.i64.wrap (1 * 2 ^ k)))) ∧ Kept mb.has w w' := by
  have b0 : Blk (w.alloc (.cells #[.int .i64 at_] 71)) w.heap.size 71 [.int .i64 at_] := Blk.new w _ _
  have c0 := b0.cell 0
  simp only [List.getElem?_cons_zero] at c0
  have hk0 : Kept mb.has w (w.alloc (.cells #[.int .i64 at_] 71)) := (Kept.refl mb.has w).alloc _
  have ht := turn_ok (hm.alloc (.cells #[.int .i64 at_] 71)) at_ 1 k hk g1 g2 v hv
  unfold setV at ht ⊢
  have HT := Lib.hid ht
  clear ht hm
  go_enter Tryd.func39, Tryd.ntmps39
  go_wp2_with fail
  refine HT.out.mono ?_
  rintro e w2 ⟨rfl, hm2, hk2⟩
  have HM2 := Lib.hid hm2
  clear hm2
  go_wp2_with fail
  go_ret
  exact ⟨rfl, HM2.out, hk0.trans hk2 (fun _ _ e => e)⟩
theorem ileave_ok (hm : MachP w mb st) (at_ : Int) (k : Nat) (hk : k ≤ 16) (g1 : st.isCaller k = true) (g2 : st.isGiven at_ = true) (v : Int) (hv : st.cellOf at_ = v) :
    Calls Tryd.prog 40 #[setV at_, .pointer (some ⟨mb.p, 0, none⟩), .int .i64 k] w fun e w' =>
      e = .returned (.int .i64 0) ∧ MachP w' mb ((st.did k).putAt at_ (wrap64 (v + IntKind.i64.wrap (-1 * 2 ^ k)))) ∧ Kept mb.has w w' := by
  have b0 : Blk (w.alloc (.cells #[.int .i64 at_] 71)) w.heap.size 71 [.int .i64 at_] := Blk.new w _ _
  have c0 := b0.cell 0
  simp only [List.getElem?_cons_zero] at c0
  have hk0 : Kept mb.has w (w.alloc (.cells #[.int .i64 at_] 71)) := (Kept.refl mb.has w).alloc _
  have ht := turn_ok (hm.alloc (.cells #[.int .i64 at_] 71)) at_ (-1) k hk g1 g2 v hv
  unfold setV at ht ⊢
  have HT := Lib.hid ht
  clear ht hm
  go_enter Tryd.func40, Tryd.ntmps40
  go_wp2_with fail
  refine HT.out.mono ?_
  rintro e w2 ⟨rfl, hm2, hk2⟩
  have HM2 := Lib.hid hm2
  clear hm2
  go_wp2_with fail
  go_ret
  exact ⟨rfl, HM2.out, hk0.trans hk2 (fun _ _ e => e)⟩
theorem iread_ok (hm : MachP w mb st) (at_ i : Int) (g1 : st.isCaller i = true) (g2 : st.isGiven at_ = true) (v : Int) (hv : st.cellOf at_ = v) :
    Calls Tryd.prog 42 #[setV at_, .pointer (some ⟨mb.p, 0, none⟩), .int .i64 i] w fun e w' =>
      e = .returned (.tuple #[.int .i64 v, .int .i64 0]) ∧ MachP w' mb (st.did i) ∧ Kept mb.has w w' := by
  have b0 : Blk (w.alloc (.cells #[.int .i64 at_] 71)) w.heap.size 71 [.int .i64 at_] := Blk.new w _ _
  have c0 := b0.cell 0
  simp only [List.getElem?_cons_zero] at c0
  have hk0 : Kept mb.has w (w.alloc (.cells #[.int .i64 at_] 71)) := (Kept.refl mb.has w).alloc _
  have ht := load_v mb st i at_ v _ (hm.alloc (.cells #[.int .i64 at_] 71)) g1 g2 hv
  unfold setV
  have HT := Lib.hid ht
  clear ht hm
  go_enter Tryd.func42, Tryd.ntmps42
  go_wp2_with fail
  refine HT.out.mono ?_
  rintro e w2 ⟨rfl, hm2, hk2⟩
  have HM2 := Lib.hid hm2
  clear hm2
  go_wp2_with fail
  go_ret2
  exact ⟨rfl, HM2.out, hk0.trans hk2 (fun _ _ e => e)⟩
end
end Go.Proofs.YtkilghhknimolaaDoor
