/-
  WHAT IS PROVED HERE: contracts of the steps of spare's operations: more, less, look. Conditions: as in the contracts.
-/
import Derived.Test.YtkilghhknimolaaDoorSpareA
namespace Go.Proofs.YtkilghhknimolaaDoor
open Go.RowKit

section
variable {w : World} {mb : MB} {st : MS} {o : Nat} {a b m self wait on mv : Int} {next : Value}
set_option maxRecDepth 20000 in
set_option maxHeartbeats 1000000 in
theorem more_ok (hm : MachP w mb st) (h : OpB w o a b m self wait on mv next) (ho : ¬ mb.has o) (i : Int) (g1 : st.isCaller i = true) (g2 : st.isGiven a = true) (v : Int) (hv : st.cellOf a = v) :
    Calls Tryd.prog 58 #[.pointer (some ⟨o, 0, none⟩), .pointer (some ⟨mb.p, 0, none⟩), .int .i64 i] w fun e w' =>
      e = .returned (.int .i64 0) ∧ MachP w' mb ((st.did i).putAt a (wrap64 (v + 1))) ∧ OpB w' o a b m self (wrap64 (v + 1)) on mv (.func (.func 64) #[.pointer (some ⟨o, 0, none⟩)] #[]) ∧ Kept (fun k => mb.has k ∨ k = o) w w' := by
  have c0 := h.cell
  have hadd := add_v mb st i a 1 v w hm g1 g2 hv
  have HA := Lib.hid hadd
  have H := Lib.hid h
  clear hadd h hm
  go_enter Tryd.func58, Tryd.ntmps58
  go_wp2_with fail
  refine HA.out.mono ?_
  rintro e w2 ⟨rfl, hm2, hk2⟩
  have h2 := H.out.kept hk2 ho
  have c2 := h2.cell
  have f2 := h2.frozen
  have H2 := Lib.hid h2
  have HM2 := Lib.hid hm2
  have HK2 := Lib.hid hk2
  clear h2 hm2 hk2 c0 HA H
  go_wp2_with fail
  go_ret
  have hs : Kept (fun k => k = o) w2 ((w2.setCell ⟨o, 4, none⟩ (.int .i64 (wrap64 (v + 1)))).setCell ⟨o, 7, none⟩ (.func (.func 64) #[.pointer (some ⟨o, 0, none⟩)] #[])) := ((Kept.refl (fun k => k = o) w2).setCell (p := ⟨o, 4, none⟩) (.inl rfl) _).setCell (p := ⟨o, 7, none⟩) (.inl rfl) _
  exact ⟨rfl, HM2.out.kept hs (fun k hk e => ho (e ▸ hk)), (H2.out.set 4 (.int .i64 (wrap64 (v + 1)))).set 7 _, (HK2.out.mono (fun _ _ e => .inl e)).trans hs (fun _ _ e => .inr e)⟩
set_option maxRecDepth 20000 in
set_option maxHeartbeats 1000000 in
theorem less_ok (hm : MachP w mb st) (h : OpB w o a b m self wait on mv next) (ho : ¬ mb.has o) (i : Int) (g1 : st.isCaller i = true) (g2 : st.isGiven a = true) (v : Int) (hv : st.cellOf a = v) :
    Calls Tryd.prog 60 #[.pointer (some ⟨o, 0, none⟩), .pointer (some ⟨mb.p, 0, none⟩), .int .i64 i] w fun e w' =>
      e = .returned (.int .i64 0) ∧ MachP w' mb ((st.did i).putAt a (wrap64 (v + -1))) ∧ OpB w' o a b m self wait on mv .nilFunc ∧ Kept (fun k => mb.has k ∨ k = o) w w' := by
  have c0 := h.cell
  have hadd := add_v mb st i a (-1) v w hm g1 g2 hv
  have HA := Lib.hid hadd
  have H := Lib.hid h
  clear hadd h hm
  go_enter Tryd.func60, Tryd.ntmps60
  go_wp2_with fail
  refine HA.out.mono ?_
  rintro e w2 ⟨rfl, hm2, hk2⟩
  have h2 := H.out.kept hk2 ho
  have c2 := h2.cell
  have f2 := h2.frozen
  have H2 := Lib.hid h2
  have HM2 := Lib.hid hm2
  have HK2 := Lib.hid hk2
  clear h2 hm2 hk2 c0 HA H
  go_wp2_with fail
  go_ret
  have hs : Kept (fun k => k = o) w2 (w2.setCell ⟨o, 7, none⟩ .nilFunc) := (Kept.refl (fun k => k = o) w2).setCell (p := ⟨o, 7, none⟩) (.inl rfl) _
  exact ⟨rfl, HM2.out.kept hs (fun k hk e => ho (e ▸ hk)), H2.out.set 7 _, (HK2.out.mono (fun _ _ e => .inl e)).trans hs (fun _ _ e => .inr e)⟩
set_option maxRecDepth 20000 in
set_option maxHeartbeats 1000000 in
theorem olook_ok (hm : MachP w mb st) (h : OpB w o a b m self wait on mv next) (ho : ¬ mb.has o) (i : Int) (g1 : st.isCaller i = true) (g2 : st.isGiven a = true) (v : Int) (hv : st.cellOf a = v) :
    Calls Tryd.prog 59 #[.pointer (some ⟨o, 0, none⟩), .pointer (some ⟨mb.p, 0, none⟩), .int .i64 i] w fun e w' =>
      e = .returned (.int .i64 0) ∧ MachP w' mb (st.did i) ∧ OpB w' o a b m self v on mv (.func (.func 65) #[.pointer (some ⟨o, 0, none⟩)] #[]) ∧ Kept (fun k => mb.has k ∨ k = o) w w' := by
  have c0 := h.cell
  have hadd := load_v mb st i a v w hm g1 g2 hv
  have HA := Lib.hid hadd
  have H := Lib.hid h
  clear hadd h hm
  go_enter Tryd.func59, Tryd.ntmps59
  go_wp2_with fail
  refine HA.out.mono ?_
  rintro e w2 ⟨rfl, hm2, hk2⟩
  have h2 := H.out.kept hk2 ho
  have c2 := h2.cell
  have f2 := h2.frozen
  have H2 := Lib.hid h2
  have HM2 := Lib.hid hm2
  have HK2 := Lib.hid hk2
  clear h2 hm2 hk2 c0 HA H
  go_wp2_with fail
  go_ret
  have hs : Kept (fun k => k = o) w2 ((w2.setCell ⟨o, 4, none⟩ (.int .i64 v)).setCell ⟨o, 7, none⟩ (.func (.func 65) #[.pointer (some ⟨o, 0, none⟩)] #[])) := ((Kept.refl (fun k => k = o) w2).setCell (p := ⟨o, 4, none⟩) (.inl rfl) _).setCell (p := ⟨o, 7, none⟩) (.inl rfl) _
  exact ⟨rfl, HM2.out.kept hs (fun k hk e => ho (e ▸ hk)), (H2.out.set 4 (.int .i64 v)).set 7 _, (HK2.out.mono (fun _ _ e => .inl e)).trans hs (fun _ _ e => .inr e)⟩
end
end Go.Proofs.YtkilghhknimolaaDoor
