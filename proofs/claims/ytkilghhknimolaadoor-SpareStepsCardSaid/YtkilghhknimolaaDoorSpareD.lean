/-
  WHAT IS PROVED HERE: contracts of the steps of spare's operations: turn; and of a step by a worker who is none. Conditions: as in the contracts.
-/
import Derived.Test.YtkilghhknimolaaDoorSpareC
namespace Go.Proofs.YtkilghhknimolaaDoor
open Go.RowKit

/-- Bits, in which one is turned. -/
def flipV (on : Int) (k : Nat) : Int := bits .xor .i64 on (IntKind.i64.wrap (2 ^ k))
section
variable {w : World} {mb : MB} {st : MS} {o : Nat} {m self wait on mv : Int} {next : Value}
set_option maxRecDepth 20000 in
set_option maxHeartbeats 1000000 in
theorem turn_hit (b k : Nat) (hk : k < 64) (hm : MachP w mb st) (h : OpB w o 0 b m k wait on mv next) (ho : ¬ mb.has o) (i : Int) (g1 : st.isCaller i = true) (g2 : st.isGiven 1 = true) (hv : st.cellOf 1 = on) :
    Calls Tryd.prog 67 #[.pointer (some ⟨o, 0, none⟩), .pointer (some ⟨mb.p, 0, none⟩), .int .i64 i] w fun e w' =>
      e = .returned (.int .i64 0) ∧ MachP w' mb ((st.did i).putAt 1 (flipV on k)) ∧ OpB w' o 0 b m k wait on k .nilFunc ∧ Kept (fun k => mb.has k ∨ k = o) w w' := by
  have c0 := h.cell
  have hcas := cas_hit mb st i 1 on (flipV on k) w.drew hm.drew g1 g2 hv
  have E1 : Hid (IntKind.i64.wrap 1 = 1) := Lib.hid (by decide)
  have E2 : Hid ((if (k : Int) < 0 then 0 else (k : Int)).toNat = k) := Lib.hid (by rw [if_neg (by omega)]; omega)
  have H := Lib.hid h
  have HA := Lib.hid hcas
  clear h hm hcas
  go_enter Tryd.func67, Tryd.ntmps67
  go_upto_region 1 with fail
  go_region_held3 (fun w' => ∀ j, w'.cell? ⟨o, j, none⟩ = [Value.int .i64 0, .int .i64 b, .int .i64 m, .int .i64 k, .int .i64 wait, .int .i64 on, .int .i64 mv, next][j]?) (first | exact c0 | exact c9) (first | (go_at_call 68; rw [E1.out, E2.out]; refine HA.out.mono ?_; rintro e w2 ⟨rfl, hm2, hk2⟩; have c9 : ∀ j, w2.cell? ⟨o, j, none⟩ = [Value.int .i64 0, .int .i64 b, .int .i64 m, .int .i64 k, .int .i64 wait, .int .i64 on, .int .i64 mv, next][j]? := (H.out.drew.kept hk2 ho).cell))
  clear c9
  have h2 := H.out.drew.kept hk2 ho
  have c2 := h2.cell
  have f2 := h2.frozen
  have H2 := Lib.hid h2
  have HM2 := Lib.hid hm2
  have HK2 : Hid (Kept mb.has w w2) := Lib.hid ((Kept.refl mb.has w).drew.trans hk2 (fun _ _ e => e))
  clear h2 hm2 hk2 c0 HA H
  go_wp2_with fail
  go_ret
  have hs : Kept (fun k => k = o) w2 ((w2.setCell ⟨o, 7, none⟩ .nilFunc).setCell ⟨o, 6, none⟩ (.int .i64 k)) := ((Kept.refl (fun k => k = o) w2).setCell (p := ⟨o, 7, none⟩) (.inl rfl) _).setCell (p := ⟨o, 6, none⟩) (.inl rfl) _
  exact ⟨rfl, HM2.out.kept hs (fun k hk e => ho (e ▸ hk)), (H2.out.set 7 .nilFunc).set 6 _, (HK2.out.mono (fun _ _ e => .inl e)).trans hs (fun _ _ e => .inr e)⟩
set_option maxRecDepth 20000 in
set_option maxHeartbeats 1000000 in
theorem turn_miss (b k : Nat) (hk : k < 64) (hm : MachP w mb st) (h : OpB w o 0 b m k wait on mv next) (ho : ¬ mb.has o) (i : Int) (g1 : st.isCaller i = true) (g2 : st.isGiven 1 = true) (hv : ¬ st.cellOf 1 = on) :
    Calls Tryd.prog 67 #[.pointer (some ⟨o, 0, none⟩), .pointer (some ⟨mb.p, 0, none⟩), .int .i64 i] w fun e w' =>
      e = .returned (.int .i64 0) ∧ MachP w' mb (st.did i) ∧ OpB w' o 0 b m k wait on mv .nilFunc ∧ Kept (fun k => mb.has k ∨ k = o) w w' := by
  have c0 := h.cell
  have hcas := cas_miss mb st i 1 on (flipV on k) w.drew hm.drew g1 g2 hv
  have E1 : Hid (IntKind.i64.wrap 1 = 1) := Lib.hid (by decide)
  have E2 : Hid ((if (k : Int) < 0 then 0 else (k : Int)).toNat = k) := Lib.hid (by rw [if_neg (by omega)]; omega)
  have H := Lib.hid h
  have HA := Lib.hid hcas
  clear h hm hcas
  go_enter Tryd.func67, Tryd.ntmps67
  go_upto_region 1 with fail
  go_region_held3 (fun w' => ∀ j, w'.cell? ⟨o, j, none⟩ = [Value.int .i64 0, .int .i64 b, .int .i64 m, .int .i64 k, .int .i64 wait, .int .i64 on, .int .i64 mv, next][j]?) (first | exact c0 | exact c9) (first | (go_at_call 68; rw [E1.out, E2.out]; refine HA.out.mono ?_; rintro e w2 ⟨rfl, hm2, hk2⟩; have c9 : ∀ j, w2.cell? ⟨o, j, none⟩ = [Value.int .i64 0, .int .i64 b, .int .i64 m, .int .i64 k, .int .i64 wait, .int .i64 on, .int .i64 mv, next][j]? := (H.out.drew.kept hk2 ho).cell))
  clear c9
  have h2 := H.out.drew.kept hk2 ho
  have c2 := h2.cell
  have f2 := h2.frozen
  have H2 := Lib.hid h2
  have HM2 := Lib.hid hm2
  have HK2 : Hid (Kept mb.has w w2) := Lib.hid ((Kept.refl mb.has w).drew.trans hk2 (fun _ _ e => e))
  clear h2 hm2 hk2 c0 HA H
  go_wp2_with fail
  go_ret
  have hs : Kept (fun k => k = o) w2 (w2.setCell ⟨o, 7, none⟩ .nilFunc) := (Kept.refl (fun k => k = o) w2).setCell (p := ⟨o, 7, none⟩) (.inl rfl) _
  exact ⟨rfl, HM2.out.kept hs (fun k hk e => ho (e ▸ hk)), H2.out.set 7 _, (HK2.out.mono (fun _ _ e => .inl e)).trans hs (fun _ _ e => .inr e)⟩
set_option maxRecDepth 20000 in
set_option maxHeartbeats 1000000 in
theorem more_no (b : Nat) (hm : MachP w mb st) (h : OpB w o 0 b m self wait on mv next) (ho : ¬ mb.has o) (i : Int) (g : st.isCaller i = false) :
    Calls Tryd.prog 58 #[.pointer (some ⟨o, 0, none⟩), .pointer (some ⟨mb.p, 0, none⟩), .int .i64 i] w fun e w' =>
      e = .returned (.int .i64 10) ∧ MachP w' mb st ∧ OpB w' o 0 b m self wait on mv next ∧ Kept (fun k => mb.has k ∨ k = o) w w' := by
  have c0 := h.cell
  have hno := add_no mb st i 0 1 w hm (.inl g)
  have H := Lib.hid h
  have HA := Lib.hid hno
  have HM := Lib.hid hm
  clear h hm hno
  go_enter Tryd.func58, Tryd.ntmps58
  go_wp2_with fail
  refine HA.out.mono ?_
  rintro e w2 ⟨rfl, hm2, hk2⟩
  have h2 := H.out.kept hk2 ho
  have H2 := Lib.hid h2
  have HM2 := Lib.hid hm2
  have HK2 := Lib.hid hk2
  clear h2 hm2 hk2 c0 HA H HM
  go_wp2_with fail
  go_ret
  exact ⟨rfl, HM2.out, H2.out, HK2.out.mono (fun _ _ e => .inl e)⟩
set_option maxRecDepth 20000 in
set_option maxHeartbeats 1000000 in
theorem less_no (b : Nat) (hm : MachP w mb st) (h : OpB w o 0 b m self wait on mv next) (ho : ¬ mb.has o) (i : Int) (g : st.isCaller i = false) :
    Calls Tryd.prog 60 #[.pointer (some ⟨o, 0, none⟩), .pointer (some ⟨mb.p, 0, none⟩), .int .i64 i] w fun e w' =>
      e = .returned (.int .i64 10) ∧ MachP w' mb st ∧ OpB w' o 0 b m self wait on mv next ∧ Kept (fun k => mb.has k ∨ k = o) w w' := by
  have c0 := h.cell
  have hno := add_no mb st i 0 (-1) w hm (.inl g)
  have H := Lib.hid h
  have HA := Lib.hid hno
  have HM := Lib.hid hm
  clear h hm hno
  go_enter Tryd.func60, Tryd.ntmps60
  go_wp2_with fail
  refine HA.out.mono ?_
  rintro e w2 ⟨rfl, hm2, hk2⟩
  have h2 := H.out.kept hk2 ho
  have H2 := Lib.hid h2
  have HM2 := Lib.hid hm2
  have HK2 := Lib.hid hk2
  clear h2 hm2 hk2 c0 HA H HM
  go_wp2_with fail
  go_ret
  exact ⟨rfl, HM2.out, H2.out, HK2.out.mono (fun _ _ e => .inl e)⟩
set_option maxRecDepth 20000 in
set_option maxHeartbeats 1000000 in
theorem olook_no (b : Nat) (hm : MachP w mb st) (h : OpB w o 0 b m self wait on mv next) (i : Int) (g : st.isCaller i = false) :
    Calls Tryd.prog 59 #[.pointer (some ⟨o, 0, none⟩), .pointer (some ⟨mb.p, 0, none⟩), .int .i64 i] w fun e w' =>
      e = .returned (.int .i64 10) ∧ MachP w' mb st ∧ OpB w' o 0 b m self wait on mv next ∧ Kept (fun k => mb.has k ∨ k = o) w w' := by
  have c0 := h.cell
  have hno := load_no mb st i 0 w hm (.inl g)
  have H := Lib.hid h
  have HA := Lib.hid hno
  have HM := Lib.hid hm
  clear h hm hno
  go_enter Tryd.func59, Tryd.ntmps59
  go_wp2_with fail
  refine HA.out.mono ?_
  rintro e w2 ⟨rfl, rfl⟩
  go_wp2_with fail
  go_ret
  exact ⟨rfl, HM.out, H.out, Kept.refl _ w⟩
set_option maxRecDepth 20000 in
set_option maxHeartbeats 1000000 in
theorem need_no (b : Nat) (hm : MachP w mb st) (h : OpB w o 0 b m self wait on mv next) (i : Int) (g : st.isCaller i = false) :
    Calls Tryd.prog 64 #[.pointer (some ⟨o, 0, none⟩), .pointer (some ⟨mb.p, 0, none⟩), .int .i64 i] w fun e w' =>
      e = .returned (.int .i64 10) ∧ MachP w' mb st ∧ OpB w' o 0 b m self wait on mv next ∧ Kept (fun k => mb.has k ∨ k = o) w w' := by
  have c0 := h.cell
  have hno := load_no mb st i 1 w hm (.inl g)
  have H := Lib.hid h
  have HA := Lib.hid hno
  have HM := Lib.hid hm
  clear h hm hno
  go_enter Tryd.func64, Tryd.ntmps64
  go_wp2_with fail
  refine HA.out.mono ?_
  rintro e w2 ⟨rfl, rfl⟩
  go_wp2_with fail
  go_ret
  exact ⟨rfl, HM.out, H.out, Kept.refl _ w⟩
set_option maxRecDepth 20000 in
set_option maxHeartbeats 1000000 in
theorem many_no (b : Nat) (hm : MachP w mb st) (h : OpB w o 0 b m self wait on mv next) (i : Int) (g : st.isCaller i = false) :
    Calls Tryd.prog 65 #[.pointer (some ⟨o, 0, none⟩), .pointer (some ⟨mb.p, 0, none⟩), .int .i64 i] w fun e w' =>
      e = .returned (.int .i64 10) ∧ MachP w' mb st ∧ OpB w' o 0 b m self wait on mv next ∧ Kept (fun k => mb.has k ∨ k = o) w w' := by
  have c0 := h.cell
  have hno := load_no mb st i 1 w hm (.inl g)
  have H := Lib.hid h
  have HA := Lib.hid hno
  have HM := Lib.hid hm
  clear h hm hno
  go_enter Tryd.func65, Tryd.ntmps65
  go_wp2_with fail
  refine HA.out.mono ?_
  rintro e w2 ⟨rfl, rfl⟩
  go_wp2_with fail
  go_ret
  exact ⟨rfl, HM.out, H.out, Kept.refl _ w⟩
set_option maxRecDepth 20000 in
set_option maxHeartbeats 1000000 in
theorem turn_no (b : Nat) (k : Nat) (hk : k < 64) (hm : MachP w mb st) (h : OpB w o 0 b m k wait on mv next) (i : Int) (g : st.isCaller i = false) :
    Calls Tryd.prog 67 #[.pointer (some ⟨o, 0, none⟩), .pointer (some ⟨mb.p, 0, none⟩), .int .i64 i] w fun e w' =>
      e = .returned (.int .i64 10) ∧ MachP w' mb st ∧ OpB w' o 0 b m k wait on mv next ∧ Kept (fun k => mb.has k ∨ k = o) w w' := by
  have c0 := h.cell
  have hno := cas_no mb st i 1 on (flipV on k) w.drew hm.drew (.inl g)
  have E1 : Hid (IntKind.i64.wrap 1 = 1) := Lib.hid (by decide)
  have E2 : Hid ((if (k : Int) < 0 then 0 else (k : Int)).toNat = k) := Lib.hid (by rw [if_neg (by omega)]; omega)
  have H := Lib.hid h
  have HA := Lib.hid hno
  have HM := Lib.hid hm
  clear h hm hno
  go_enter Tryd.func67, Tryd.ntmps67
  go_upto_region 1 with fail
  go_region_held3 (fun w' => ∀ j, w'.cell? ⟨o, j, none⟩ = [Value.int .i64 0, .int .i64 b, .int .i64 m, .int .i64 k, .int .i64 wait, .int .i64 on, .int .i64 mv, next][j]?) (first | exact c0) (first | (go_at_call 68; rw [E1.out, E2.out]; refine HA.out.mono ?_; rintro e w2 ⟨rfl, hw2⟩; obtain rfl := hw2))
  go_wp2_with fail
  go_ret
  exact ⟨rfl, HM.out.drew, H.out.drew, (Kept.refl _ w).drew⟩
end
end Go.Proofs.YtkilghhknimolaaDoor
