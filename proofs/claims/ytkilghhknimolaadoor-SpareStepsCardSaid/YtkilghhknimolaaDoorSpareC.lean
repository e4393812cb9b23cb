/-
  WHAT IS PROVED HERE: contracts of the steps of spare's operations: need, many, turn. Conditions: as in the contracts.
-/
import Derived.Test.YtkilghhknimolaaDoorSpareB
import Derived.Test.YtkilghhknimolaaDoorFirstP
namespace Go.Proofs.YtkilghhknimolaaDoor
open Go.RowKit

/-- The bits of base workers. -/
def baseV (b : Nat) : Int := ((2 ^ b : Nat) - 1 : Int)
/-- Whom a Block lets in. -/
def pickV (on : Int) (b : Nat) : Int := firstOf (bits .or .i64 on (baseV b)) 16
def turnV (o : Nat) : Value := .func (.func 67) #[.pointer (some ⟨o, 0, none⟩)] #[]
theorem has_drewN (z v : Int) (b : Bool) (w : World) (n : Nat) (hb : hasBit z v = b) :
    Calls Tryd.prog 18 #[.int .i64 z, .int .i64 v] (w.drewN n) fun e w' => e = .returned (.bool b) ∧ ∃ m, w' = w.drewN m := by
  subst hb
  exact Calls.quiet_of_same ((has_ok z v _).mono fun _ _ h => ⟨h.1, h.2.symm⟩)
section
variable {w : World} {mb : MB} {st : MS} {o : Nat} {m self wait on mv : Int} {next : Value}
set_option maxRecDepth 20000 in
set_option maxHeartbeats 1000000 in
theorem need_yes (b : Nat) (hb : b ≤ 16) (hm : MachP w mb st) (h : OpB w o 0 b m self wait on mv next) (ho : ¬ mb.has o) (hT : Tab w) (h0 : ¬ (mb.has 0 ∨ 0 = o)) (i : Int) (g1 : st.isCaller i = true) (g2 : st.isGiven 1 = true) (v : Int) (hv : st.cellOf 1 = v) (y1 : ((membersOf v).length : Int) < m) (y2 : ((membersOf v).length : Int) < wait) :
    Calls Tryd.prog 64 #[.pointer (some ⟨o, 0, none⟩), .pointer (some ⟨mb.p, 0, none⟩), .int .i64 i] w fun e w' =>
      e = .returned (.int .i64 0) ∧ MachP w' mb (st.did i) ∧ OpB w' o 0 b m (pickV v b) wait v mv (turnV o) ∧ Kept (fun k => mb.has k ∨ k = o) w w' := by
  have c0 := h.cell
  have hadd := load_v mb st i 1 v w hm g1 g2 hv
  have hlt := hm.lt
  have HA := Lib.hid hadd
  have H := Lib.hid h
  clear hadd h hm
  go_enter Tryd.func64, Tryd.ntmps64
  go_wp2_with fail
  refine HA.out.mono ?_
  rintro e w2 ⟨rfl, hm2, hk2⟩
  have hT2 := hT.kept hk2 (fun e => h0 (.inl e))
  have h2 := H.out.kept hk2 ho
  have c2 := h2.cell
  have f2 := h2.frozen
  clear c0 HA
  have hs : Kept (fun k => k = o) w2 ((w2.setCell ⟨o, 5, none⟩ (.int .i64 v)).setCell ⟨o, 7, none⟩ .nilFunc) := ((Kept.refl (fun k => k = o) w2).setCell (p := ⟨o, 5, none⟩) (.inl rfl) _).setCell (p := ⟨o, 7, none⟩) (.inl rfl) _
  have h3 := (h2.set 5 (.int .i64 v)).set 7 .nilFunc
  have hm3 := hm2.kept hs (fun k hk e => ho (e ▸ hk))
  have hT3 := hT2.kept hs (fun e => h0 (.inr e))
  have hk3 : Kept (fun k => mb.has k ∨ k = o) w _ := (hk2.mono (fun _ _ e => .inl e)).trans hs (fun _ _ e => .inr e)
  clear h2 hs hT2 hm2 hk2 H
  go_upto_region 5 with fail
  generalize ((w2.setCell ⟨o, 5, none⟩ (.int .i64 v)).setCell ⟨o, 7, none⟩ .nilFunc) = w3 at *
  clear c2 f2
  have c3 := h3.cell
  have f3 := h3.frozen
  have hb4 := count_ok v w3 hT3
  have HC := Lib.hid hb4
  have H3 := Lib.hid h3
  have HM3 := Lib.hid hm3
  have HK3 := Lib.hid hk3
  clear hb4 h3 hm3 hk3
  go_wp2_with fail
  refine HC.out.mono ?_
  rintro e w4 ⟨rfl, hb4⟩
  have h4 := H3.out.below hb4 H3.out.lt
  have hm4 := HM3.out.kept (Kept.of_below (S := fun _ => False) hb4) (fun k hk e => e)
  have hk4 := HK3.out.trans (Kept.of_below (S := fun _ => False) hb4) (fun _ _ e => e.elim)
  have hT4 := hT3.below hb4 hT3.lt
  have c4 := h4.cell
  have f4 := h4.frozen
  have d1 : decide (((membersOf v).length : Int) < m) = true := by simp [y1]
  have d2 : decide (((membersOf v).length : Int) < wait) = true := by simp [y2]
  have hbase := base_ok 0 m b hb w4
  unfold spV at hbase
  have HB := Lib.hid hbase
  have H4 := Lib.hid h4
  have HM4 := Lib.hid hm4
  have HK4 := Lib.hid hk4
  clear hbase c3 f3 H3 HM3 HK3 hb4 HC h4 hm4 hk4 hT3 hT y1 y2
  go_wp2_with fail
  refine HB.out.mono ?_
  rintro e w5 ⟨rfl, hb5⟩
  have h5 := H4.out.below hb5 H4.out.lt
  have hm5 := HM4.out.kept (Kept.of_below (S := fun _ => False) hb5) (fun k hk e => e)
  have hk5 := HK4.out.trans (Kept.of_below (S := fun _ => False) hb5) (fun _ _ e => e.elim)
  have hT5 := hT4.below hb5 hT4.lt
  have c5 := h5.cell
  have f5 := h5.frozen
  have hf := first_ok (bits .or .i64 v (baseV b)) 16 w5 hT5
  have HF := Lib.hid hf
  have H5 := Lib.hid h5
  have HM5 := Lib.hid hm5
  have HK5 := Lib.hid hk5
  clear hf h5 hm5 hk5 hb5 HB H4 HM4 HK4 c4 f4 hT4 hT5
  go_wp2_with fail
  refine HF.out.mono ?_
  rintro e wn ⟨rfl, rfl⟩
  clear HF
  go_wp2_with fail
  go_ret
  have hs6 : Kept (fun k => k = o) w5 ((w5.setCell ⟨o, 3, none⟩ (.int .i64 (pickV v b))).setCell ⟨o, 7, none⟩ (turnV o)) := ((Kept.refl (fun k => k = o) w5).setCell (p := ⟨o, 3, none⟩) (.inl rfl) _).setCell (p := ⟨o, 7, none⟩) (.inl rfl) _
  exact ⟨rfl, HM5.out.kept hs6 (fun k hk e => ho (e ▸ hk)), (H5.out.set 3 (.int .i64 (pickV v b))).set 7 _, HK5.out.trans hs6 (fun _ _ e => .inr e)⟩
set_option maxRecDepth 20000 in
set_option maxHeartbeats 1000000 in
theorem need_not (b : Nat) (hm : MachP w mb st) (h : OpB w o 0 b m self wait on mv next) (ho : ¬ mb.has o) (hT : Tab w) (h0 : ¬ (mb.has 0 ∨ 0 = o)) (i : Int) (g1 : st.isCaller i = true) (g2 : st.isGiven 1 = true) (v : Int) (hv : st.cellOf 1 = v) (y : ¬ (((membersOf v).length : Int) < m ∧ ((membersOf v).length : Int) < wait)) :
    Calls Tryd.prog 64 #[.pointer (some ⟨o, 0, none⟩), .pointer (some ⟨mb.p, 0, none⟩), .int .i64 i] w fun e w' =>
      e = .returned (.int .i64 0) ∧ MachP w' mb (st.did i) ∧ OpB w' o 0 b m self wait v mv .nilFunc ∧ Kept (fun k => mb.has k ∨ k = o) w w' := by
  have c0 := h.cell
  have hadd := load_v mb st i 1 v w hm g1 g2 hv
  have hlt := hm.lt
  have HA := Lib.hid hadd
  have H := Lib.hid h
  clear hadd h hm
  go_enter Tryd.func64, Tryd.ntmps64
  go_wp2_with fail
  refine HA.out.mono ?_
  rintro e w2 ⟨rfl, hm2, hk2⟩
  have hT2 := hT.kept hk2 (fun e => h0 (.inl e))
  have h2 := H.out.kept hk2 ho
  have c2 := h2.cell
  have f2 := h2.frozen
  clear c0 HA
  have hs : Kept (fun k => k = o) w2 ((w2.setCell ⟨o, 5, none⟩ (.int .i64 v)).setCell ⟨o, 7, none⟩ .nilFunc) := ((Kept.refl (fun k => k = o) w2).setCell (p := ⟨o, 5, none⟩) (.inl rfl) _).setCell (p := ⟨o, 7, none⟩) (.inl rfl) _
  have h3 := (h2.set 5 (.int .i64 v)).set 7 .nilFunc
  have hm3 := hm2.kept hs (fun k hk e => ho (e ▸ hk))
  have hT3 := hT2.kept hs (fun e => h0 (.inr e))
  have hk3 : Kept (fun k => mb.has k ∨ k = o) w _ := (hk2.mono (fun _ _ e => .inl e)).trans hs (fun _ _ e => .inr e)
  clear h2 hs hT2 hm2 hk2 H
  go_upto_region 5 with fail
  generalize ((w2.setCell ⟨o, 5, none⟩ (.int .i64 v)).setCell ⟨o, 7, none⟩ .nilFunc) = w3 at *
  clear c2 f2
  have c3 := h3.cell
  have f3 := h3.frozen
  have hb4 := count_ok v w3 hT3
  have HC := Lib.hid hb4
  have H3 := Lib.hid h3
  have HM3 := Lib.hid hm3
  have HK3 := Lib.hid hk3
  clear hb4 h3 hm3 hk3
  go_wp2_with fail
  refine HC.out.mono ?_
  rintro e w4 ⟨rfl, hb4⟩
  have h4 := H3.out.below hb4 H3.out.lt
  have hm4 := HM3.out.kept (Kept.of_below (S := fun _ => False) hb4) (fun k hk e => e)
  have hk4 := HK3.out.trans (Kept.of_below (S := fun _ => False) hb4) (fun _ _ e => e.elim)
  have c4 := h4.cell
  have H4 := Lib.hid h4
  have HM4 := Lib.hid hm4
  have HK4 := Lib.hid hk4
  clear c3 f3 H3 HM3 HK3 hb4 HC h4 hm4 hk4 hT3 hT
  by_cases y1 : ((membersOf v).length : Int) < m
  · have d1 : decide (((membersOf v).length : Int) < m) = true := by simp [y1]
    have d2 : decide (((membersOf v).length : Int) < wait) = false := by simp; omega
    clear y y1
    go_wp2_with fail
    go_ret
    exact ⟨rfl, HM4.out, H4.out, HK4.out⟩
  · have d1 : decide (((membersOf v).length : Int) < m) = false := by simp; omega
    clear y y1
    go_wp2_with fail
    go_ret
    exact ⟨rfl, HM4.out, H4.out, HK4.out⟩
-- PART many
set_option maxRecDepth 20000 in
set_option maxHeartbeats 1000000 in
theorem many_any (b : Nat) (hm : MachP w mb st) (h : OpB w o 0 b m self wait on mv next) (ho : ¬ mb.has o) (hT : Tab w) (h0 : ¬ (mb.has 0 ∨ 0 = o)) (i : Int) (g1 : st.isCaller i = true) (g2 : st.isGiven 1 = true) (v : Int) (hv : st.cellOf 1 = v) (hx : Bool) (y1 : hasBit v self = hx) (yes : Bool) (y2 : (hx && decide (wait < ((membersOf v).length : Int))) = yes) :
    Calls Tryd.prog 65 #[.pointer (some ⟨o, 0, none⟩), .pointer (some ⟨mb.p, 0, none⟩), .int .i64 i] w fun e w' =>
      e = .returned (.int .i64 0) ∧ MachP w' mb (st.did i) ∧ OpB w' o 0 b m self wait v mv (if yes = true then turnV o else .nilFunc) ∧ Kept (fun k => mb.has k ∨ k = o) w w' := by
  have c0 := h.cell
  have hadd := load_v mb st i 1 v w hm g1 g2 hv
  have hlt := hm.lt
  have HA := Lib.hid hadd
  have H := Lib.hid h
  clear hadd h hm
  go_enter Tryd.func65, Tryd.ntmps65
  go_wp2_with fail
  refine HA.out.mono ?_
  rintro e w2 ⟨rfl, hm2, hk2⟩
  have hT2 := hT.kept hk2 (fun e => h0 (.inl e))
  have h2 := H.out.kept hk2 ho
  have c2 := h2.cell
  have f2 := h2.frozen
  clear c0 HA
  have hs : Kept (fun k => k = o) w2 ((w2.setCell ⟨o, 5, none⟩ (.int .i64 v)).setCell ⟨o, 7, none⟩ .nilFunc) := ((Kept.refl (fun k => k = o) w2).setCell (p := ⟨o, 5, none⟩) (.inl rfl) _).setCell (p := ⟨o, 7, none⟩) (.inl rfl) _
  have h3 := (h2.set 5 (.int .i64 v)).set 7 .nilFunc
  have hm3 := hm2.kept hs (fun k hk e => ho (e ▸ hk))
  have hT3 := hT2.kept hs (fun e => h0 (.inr e))
  have hk3 : Kept (fun k => mb.has k ∨ k = o) w _ := (hk2.mono (fun _ _ e => .inl e)).trans hs (fun _ _ e => .inr e)
  clear h2 hs hT2 hm2 hk2 H
  go_upto_region 5 with fail
  generalize ((w2.setCell ⟨o, 5, none⟩ (.int .i64 v)).setCell ⟨o, 7, none⟩ .nilFunc) = w3 at *
  clear c2 f2
  have c3 := h3.cell
  have f3 := h3.frozen
  have H3 := Lib.hid h3
  have HM3 := Lib.hid hm3
  have HK3 := Lib.hid hk3
  clear h3 hm3 hk3
  have hhs := has_ok v self
  rw [y1] at hhs
  have HH := Lib.hid hhs
  clear hhs
  have hn0 : ∀ j, w3.drew.cell? ⟨o, j, none⟩ = _ := c3
  cases hx with
  | false =>
    obtain rfl : yes = false := by rw [← y2]; rfl
    have Y1 := Lib.hid y1
    clear y1 y2 f3
    go_quiet ((go_at_call 18; exact has_drewN _ _ _ _ _ Y1.out))
    go_wp2_with fail
    go_ret
    exact ⟨rfl, HM3.out.drewN _, H3.out.drewN _, HK3.out.drewN _⟩
  | true =>
    go_region_held3 (fun w' => ∀ j, w'.cell? ⟨o, j, none⟩ = [Value.int .i64 0, .int .i64 b, .int .i64 m, .int .i64 self, .int .i64 wait, .int .i64 v, .int .i64 mv, .nilFunc][j]?) (first | exact c3 | exact c5) (first
      | (go_at_call 18; refine (HH.out _).mono ?_; rintro e w4 ⟨rfl, hw4⟩; obtain rfl := hw4)
      | (go_at_call 20; refine (count_ok v _ (hT3.kept (Kept.refl (fun _ => False) w3).drew (fun e => e))).mono ?_; rintro e w5 ⟨rfl, hb5⟩; have c5 : ∀ j, w5.cell? ⟨o, j, none⟩ = [Value.int .i64 0, .int .i64 b, .int .i64 m, .int .i64 self, .int .i64 wait, .int .i64 v, .int .i64 mv, .nilFunc][j]? := (H3.out.drew.below hb5 H3.out.drew.lt).cell))
    have h6 := H3.out.drew.below hb5 H3.out.drew.lt
    have hm6 := HM3.out.drew.kept (Kept.of_below (S := fun _ => False) hb5) (fun k hk e => e)
    have hk6 := HK3.out.drew.trans (Kept.of_below (S := fun _ => False) hb5) (fun _ _ e => e.elim)
    have f6 := h6.frozen
    cases hd : decide (wait < ((membersOf v).length : Int)) with
    | true =>
      obtain rfl : yes = true := by rw [← y2, hd]; rfl
      clear y1 y2
      have H6 := Lib.hid h6
      have HM6 := Lib.hid hm6
      have HK6 := Lib.hid hk6
      clear h6 hm6 hk6 c3 H3 HM3 HK3 hb5
      go_wp2_with fail
      go_ret
      have hs6 : Kept (fun k => k = o) w5 (w5.setCell ⟨o, 7, none⟩ (turnV o)) := (Kept.refl (fun k => k = o) w5).setCell (p := ⟨o, 7, none⟩) (.inl rfl) _
      exact ⟨rfl, HM6.out.kept hs6 (fun k hk e => ho (e ▸ hk)), H6.out.set 7 _, HK6.out.trans hs6 (fun _ _ e => .inr e)⟩
    | false =>
      obtain rfl : yes = false := by rw [← y2, hd]; rfl
      clear y1 y2
      have H6 := Lib.hid h6
      have HM6 := Lib.hid hm6
      have HK6 := Lib.hid hk6
      clear h6 hm6 hk6 c3 H3 HM3 HK3 hb5
      go_wp2_with fail
      go_ret
      exact ⟨rfl, HM6.out, H6.out, HK6.out⟩
-- END many
end
end Go.Proofs.YtkilghhknimolaaDoor
