/-
  WHAT IS PROVED HERE: contracts of the reference's operations (pelotonref18): Begin; the steps that add to those that wait, and the refusals. Conditions: as in the contracts.
-/
import Derived.Test.YtkilghhknimolaaDoorSpareP
import Derived.Test.YtkilghhknimolaaDoorRefF
namespace Go.Proofs.YtkilghhknimolaaDoor
open Go.RowKit

/-- The reference's spares, and an operation of it. -/
abbrev RSp (w : World) (r : Nat) (wt on b m : Int) : Prop := Blk w r 61 [.int .i64 wt, .int .i64 on, .int .i64 b, .int .i64 m]
abbrev ROp (w : World) (x : Nat) (kd self nx n on mv : Int) : Prop := Blk w x 66 [.int .i64 kd, .int .i64 self, .int .i64 nx, .int .i64 n, .int .i64 on, .int .i64 mv]
theorem rbegin_ok (kd self : Int) (w : World) :
    Calls Tryd.prog 36 #[.int .i64 kd, .int .i64 self] w fun e w' => ∃ x, e = .returned (.pointer (some ⟨x, 0, none⟩)) ∧ w.heap.size ≤ x ∧ ROp w' x kd self 1 0 0 (-1) ∧ Below w.heap.size w w' := by
  go_enter Tryd.func36, Tryd.ntmps36
  go_wp2
  go_ret
  exact ⟨w.heap.size, rfl, Nat.le_refl _, Blk.new w 66 [.int .i64 kd, .int .i64 self, .int .i64 1, .int .i64 0, .int .i64 0, .int .i64 (-1)], (Below.refl _ _).alloc (Nat.le_refl _) _⟩
section
variable {w : World} {r x : Nat} {wt on b m kd self nx n on0 mv : Int}
set_option maxRecDepth 20000 in
set_option maxHeartbeats 1000000 in
theorem rstep_end (hr : RSp w r wt on b m) (hx : ROp w x kd self 0 n on0 mv) (i : Int) :
    Calls Tryd.prog 37 #[.pointer (some ⟨x, 0, none⟩), .pointer (some ⟨r, 0, none⟩), .int .i64 i, .int .i64 3] w fun e w' => e = .returned (.tuple #[.bool false, .int .i64 0]) ∧ w = w' := by
  have c0 := hr.cell
  have c1 := hx.cell
  clear hr hx
  go_enter Tryd.func37, Tryd.ntmps37
  go_wp2_with fail
  go_ret2
  exact ⟨rfl, rfl⟩
set_option maxRecDepth 20000 in
set_option maxHeartbeats 1000000 in
theorem rstep_no (hr : RSp w r wt on b m) (hx : ROp w x kd self nx n on0 mv) (h0 : (nx == 0) = false) (i : Int) (hi : ¬ (0 ≤ i ∧ i ≤ 3)) :
    Calls Tryd.prog 37 #[.pointer (some ⟨x, 0, none⟩), .pointer (some ⟨r, 0, none⟩), .int .i64 i, .int .i64 3] w fun e w' => e = .returned (.tuple #[.bool false, .int .i64 10]) ∧ w = w' := by
  have c0 := hr.cell
  have c1 := hx.cell
  clear hr hx
  by_cases h1 : i < 0
  · have d1 : decide (i < 0) = true := decide_eq_true h1
    go_enter Tryd.func37, Tryd.ntmps37
    go_wp2_with fail
    go_ret2
    exact ⟨rfl, rfl⟩
  · have d1 : decide (i < 0) = false := decide_eq_false h1
    have d2 : decide (3 < i) = true := decide_eq_true (by omega)
    go_enter Tryd.func37, Tryd.ntmps37
    go_wp2_with fail
    go_ret2
    exact ⟨rfl, rfl⟩
set_option maxRecDepth 20000 in
set_option maxHeartbeats 1000000 in
theorem rstep_less (hr : RSp w r wt on b m) (hx : ROp w x 1 self 1 n on0 mv) (ne : r ≠ x) (i : Int) (hi : 0 ≤ i ∧ i ≤ 3) :
    Calls Tryd.prog 37 #[.pointer (some ⟨x, 0, none⟩), .pointer (some ⟨r, 0, none⟩), .int .i64 i, .int .i64 3] w fun e w' => e = .returned (.tuple #[.bool true, .int .i64 0]) ∧ RSp w' r (wrap64 (wt - 1)) on b m ∧ ROp w' x 1 self 0 n on0 mv ∧ Kept (fun k => k = r ∨ k = x) w w' := by
  have c0 := hr.cell
  have c1 := hx.cell
  have d1 : decide (i < 0) = false := decide_eq_false (by omega)
  have d2 : decide (3 < i) = false := decide_eq_false (by omega)
  have HR := Lib.hid hr
  have HX := Lib.hid hx
  clear hr hx
  go_enter Tryd.func37, Tryd.ntmps37
  go_wp2_with fail
  refine (rmem_ok on w).mono ?_
  rintro e w2 ⟨g, cap, rfl, _, _, hb2⟩
  have hr2 := HR.out.below hb2 HR.out.lt
  have hx2 := HX.out.below hb2 HX.out.lt
  have c2 := hr2.cell
  have c3 := hx2.cell
  have f2 := hr2.frozen
  have f3 := hx2.frozen
  have HR2 := Lib.hid hr2
  have HX2 := Lib.hid hx2
  have HB2 := Lib.hid hb2
  clear hr2 hx2 hb2 c0 c1 HR HX
  go_upto_region 8 with fail
  obtain ⟨v, hv⟩ : ∃ v, wrap64 (wt - 1) = v := ⟨_, rfl⟩
  rw [hv]
  have hr3 : RSp (w2.setCell ⟨r, 0, none⟩ (.int .i64 v)) r v on b m := HR2.out.set 0 _
  have hx3 : ROp (w2.setCell ⟨r, 0, none⟩ (.int .i64 v)) x 1 self 1 n on0 mv := HX2.out.setOther (p := ⟨r, 0, none⟩) (fun e => ne e.symm) _
  have hk3 : Kept (fun k => k = r ∨ k = x) w (w2.setCell ⟨r, 0, none⟩ (.int .i64 v)) := (Kept.of_below (S := fun k => k = r ∨ k = x) HB2.out).setCell (p := ⟨r, 0, none⟩) (.inl (.inl rfl)) _
  have HR3 := Lib.hid hr3
  have HX3 := Lib.hid hx3
  have HK3 := Lib.hid hk3
  have HV := Lib.hid hv
  clear hr3 hx3 hk3 c2 c3 f2 f3 HR2 HX2 HB2 hv
  generalize (w2.setCell ⟨r, 0, none⟩ (.int .i64 v)) = w3 at *
  have c3 := HX3.out.cell
  have f3 := HX3.out.frozen
  go_wp2_with fail
  go_ret2
  exact ⟨rfl, by rw [HV.out]; exact HR3.out.setOther (p := ⟨x, 2, none⟩) ne _, HX3.out.set 2 _, HK3.out.setCell (p := ⟨x, 2, none⟩) (.inl (.inr rfl)) _⟩
set_option maxRecDepth 20000 in
set_option maxHeartbeats 1000000 in
theorem rstep_more (hr : RSp w r wt on b m) (hx : ROp w x 0 self 1 n on0 mv) (ne : r ≠ x) (i : Int) (hi : 0 ≤ i ∧ i ≤ 3) :
    Calls Tryd.prog 37 #[.pointer (some ⟨x, 0, none⟩), .pointer (some ⟨r, 0, none⟩), .int .i64 i, .int .i64 3] w fun e w' => e = .returned (.tuple #[.bool true, .int .i64 0]) ∧ RSp w' r (wrap64 (wt + 1)) on b m ∧ ROp w' x 0 self 2 (wrap64 (wt + 1)) on0 mv ∧ Kept (fun k => k = r ∨ k = x) w w' := by
  have c0 := hr.cell
  have c1 := hx.cell
  have d1 : decide (i < 0) = false := decide_eq_false (by omega)
  have d2 : decide (3 < i) = false := decide_eq_false (by omega)
  have HR := Lib.hid hr
  have HX := Lib.hid hx
  clear hr hx
  go_enter Tryd.func37, Tryd.ntmps37
  go_wp2_with fail
  refine (rmem_ok on w).mono ?_
  rintro e w2 ⟨g, cap, rfl, _, _, hb2⟩
  have hr2 := HR.out.below hb2 HR.out.lt
  have hx2 := HX.out.below hb2 HX.out.lt
  have c2 := hr2.cell
  have c3 := hx2.cell
  have f2 := hr2.frozen
  have HR2 := Lib.hid hr2
  have HX2 := Lib.hid hx2
  have HB2 := Lib.hid hb2
  clear hr2 hx2 hb2 c0 c1 HR HX
  go_upto_region 12 with fail
  obtain ⟨v, hv⟩ : ∃ v, wrap64 (wt + 1) = v := ⟨_, rfl⟩
  rw [hv]
  have hr3 : RSp (w2.setCell ⟨r, 0, none⟩ (.int .i64 v)) r v on b m := HR2.out.set 0 _
  have hx3 : ROp (w2.setCell ⟨r, 0, none⟩ (.int .i64 v)) x 0 self 1 n on0 mv := HX2.out.setOther (p := ⟨r, 0, none⟩) (fun e => ne e.symm) _
  have hk3 : Kept (fun k => k = r ∨ k = x) w (w2.setCell ⟨r, 0, none⟩ (.int .i64 v)) := (Kept.of_below (S := fun k => k = r ∨ k = x) HB2.out).setCell (p := ⟨r, 0, none⟩) (.inl (.inl rfl)) _
  have HR3 := Lib.hid hr3
  have HX3 := Lib.hid hx3
  have HK3 := Lib.hid hk3
  have HV := Lib.hid hv
  clear hr3 hx3 hk3 c2 c3 f2 HR2 HX2 HB2 hv
  generalize (w2.setCell ⟨r, 0, none⟩ (.int .i64 v)) = w3 at *
  have c3 := HX3.out.cell
  have c4 := HR3.out.cell
  have f3 := HX3.out.frozen
  go_upto_region 13 with fail
  have hr4 : RSp (w3.setCell ⟨x, 3, none⟩ (.int .i64 v)) r v on b m := HR3.out.setOther (p := ⟨x, 3, none⟩) ne _
  have hx4 : ROp (w3.setCell ⟨x, 3, none⟩ (.int .i64 v)) x 0 self 1 v on0 mv := HX3.out.set 3 _
  have hk4 := HK3.out.setCell (p := ⟨x, 3, none⟩) (.inl (.inr rfl)) (.int .i64 v)
  have HR4 := Lib.hid hr4
  have HX4 := Lib.hid hx4
  have HK4 := Lib.hid hk4
  clear hr4 hx4 hk4 c3 c4 f3 HR3 HX3 HK3
  generalize (w3.setCell ⟨x, 3, none⟩ (.int .i64 v)) = w4 at *
  have c3 := HX4.out.cell
  have f3 := HX4.out.frozen
  go_wp2_with fail
  go_ret2
  exact ⟨rfl, by rw [HV.out]; exact HR4.out.setOther (p := ⟨x, 2, none⟩) ne _, by rw [HV.out]; exact HX4.out.set 2 _, HK4.out.setCell (p := ⟨x, 2, none⟩) (.inl (.inr rfl)) _⟩
set_option maxRecDepth 20000 in
set_option maxHeartbeats 1000000 in
theorem rstep_look (hr : RSp w r wt on b m) (hx : ROp w x 2 self 1 n on0 mv) (ne : r ≠ x) (i : Int) (hi : 0 ≤ i ∧ i ≤ 3) :
    Calls Tryd.prog 37 #[.pointer (some ⟨x, 0, none⟩), .pointer (some ⟨r, 0, none⟩), .int .i64 i, .int .i64 3] w fun e w' => e = .returned (.tuple #[.bool true, .int .i64 0]) ∧ RSp w' r wt on b m ∧ ROp w' x 2 self 2 wt on0 mv ∧ Kept (fun k => k = r ∨ k = x) w w' := by
  have c0 := hr.cell
  have c1 := hx.cell
  have d1 : decide (i < 0) = false := decide_eq_false (by omega)
  have d2 : decide (3 < i) = false := decide_eq_false (by omega)
  have HR := Lib.hid hr
  have HX := Lib.hid hx
  clear hr hx
  go_enter Tryd.func37, Tryd.ntmps37
  go_wp2_with fail
  refine (rmem_ok on w).mono ?_
  rintro e w2 ⟨g, cap, rfl, _, _, hb2⟩
  have hr2 := HR.out.below hb2 HR.out.lt
  have hx2 := HX.out.below hb2 HX.out.lt
  have c2 := hr2.cell
  have c3 := hx2.cell
  have f3 := hx2.frozen
  have HR2 := Lib.hid hr2
  have HX2 := Lib.hid hx2
  have HK2 := Lib.hid (Kept.of_below (S := fun k => k = r ∨ k = x) hb2)
  clear hr2 hx2 hb2 c0 c1 HR HX
  go_upto_region 13 with fail
  have hr4 : RSp (w2.setCell ⟨x, 3, none⟩ (.int .i64 wt)) r wt on b m := HR2.out.setOther (p := ⟨x, 3, none⟩) ne _
  have hx4 : ROp (w2.setCell ⟨x, 3, none⟩ (.int .i64 wt)) x 2 self 1 wt on0 mv := HX2.out.set 3 _
  have hk4 := HK2.out.setCell (p := ⟨x, 3, none⟩) (.inl (.inr rfl)) (.int .i64 wt)
  have HR4 := Lib.hid hr4
  have HX4 := Lib.hid hx4
  have HK4 := Lib.hid hk4
  clear hr4 hx4 hk4 c2 c3 f3 HR2 HX2 HK2
  generalize (w2.setCell ⟨x, 3, none⟩ (.int .i64 wt)) = w4 at *
  have c3 := HX4.out.cell
  have f3 := HX4.out.frozen
  go_wp2_with fail
  go_ret2
  exact ⟨rfl, HR4.out.setOther (p := ⟨x, 2, none⟩) ne _, HX4.out.set 2 _, HK4.out.setCell (p := ⟨x, 2, none⟩) (.inl (.inr rfl)) _⟩
end
end Go.Proofs.YtkilghhknimolaaDoor
