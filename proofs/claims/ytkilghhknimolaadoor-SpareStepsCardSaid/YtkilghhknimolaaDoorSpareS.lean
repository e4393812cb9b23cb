/-
  WHAT IS PROVED HERE: contracts of the reference's operations (pelotonref18): the step that looks whether too many step in; the step that turns one. Conditions: as in the contracts.
-/
import Derived.Test.YtkilghhknimolaaDoorSpareR
import Derived.Test.YtkilghhknimolaaDoorQuietB
namespace Go.Proofs.YtkilghhknimolaaDoor
open Go.RowKit

section
variable {w : World} {r x : Nat} {wt on b m kd self nx n on0 mv : Int}
set_option maxRecDepth 20000 in
set_option maxHeartbeats 2000000 in
theorem rstep_many (hr : RSp w r wt on b m) (hx : ROp w x 2 self 2 n on0 mv) (ne : r ≠ x) (i : Int) (hi : 0 ≤ i ∧ i ≤ 3) (C : Nat) (hC : (membersOf on).length = C) (v : Bool) (hv : hasBit on self = v) (u : Bool) (hu : decide (n < (C : Int)) = u) :
    Calls Tryd.prog 37 #[.pointer (some ⟨x, 0, none⟩), .pointer (some ⟨r, 0, none⟩), .int .i64 i, .int .i64 3] w fun e w' => e = .returned (.tuple #[.bool true, .int .i64 0]) ∧ RSp w' r wt on b m ∧ ROp w' x 2 self (if (v && u) = true then 3 else 0) n on mv ∧ Kept (fun k => k = r ∨ k = x) w w' := by
  have c0 := hr.cell
  have c1 := hx.cell
  have d1 : decide (i < 0) = false := decide_eq_false (by omega)
  have d2 : decide (3 < i) = false := decide_eq_false (by omega)
  have HR := Lib.hid hr
  have HX := Lib.hid hx
  have hmem := rmem_ok on w
  rw [hC] at hmem
  have HMEM := Lib.hid hmem
  have hhas := fun W => rhas_ok on self W
  rw [hv] at hhas
  have HHAS := Lib.hid hhas
  clear hr hx hmem hC hhas hv
  go_enter Tryd.func37, Tryd.ntmps37
  go_wp2_with fail
  refine HMEM.out.mono ?_
  rintro e w2 ⟨g, cap, rfl, _, _, hb2⟩
  have hr2 := HR.out.below hb2 HR.out.lt
  have hx2 := HX.out.below hb2 HX.out.lt
  have c2 := hr2.cell
  have c3 := hx2.cell
  have f3 := hx2.frozen
  have HR2 := Lib.hid hr2
  have HX2 := Lib.hid hx2
  have HK2 := Lib.hid (Kept.of_below (S := fun k => k = r ∨ k = x) hb2)
  clear hr2 hx2 hb2 c0 c1 HR HX HMEM
  go_upto_region 16 with fail
  have hr4 : RSp (w2.setCell ⟨x, 4, none⟩ (.int .i64 on)) r wt on b m := HR2.out.setOther (p := ⟨x, 4, none⟩) ne _
  have hx4 : ROp (w2.setCell ⟨x, 4, none⟩ (.int .i64 on)) x 2 self 2 n on mv := HX2.out.set 4 _
  have hk4 := HK2.out.setCell (p := ⟨x, 4, none⟩) (.inl (.inr rfl)) (.int .i64 on)
  have HR4 := Lib.hid hr4
  have HX4 := Lib.hid hx4
  have HK4 := Lib.hid hk4
  clear hr4 hx4 hk4 c2 c3 f3 HR2 HX2 HK2
  generalize (w2.setCell ⟨x, 4, none⟩ (.int .i64 on)) = w4 at *
  have c3 := HX4.out.cell
  have f3 := HX4.out.frozen
  go_upto_region 17 with fail
  have hr5 : RSp (w4.setCell ⟨x, 2, none⟩ (.int .i64 0)) r wt on b m := HR4.out.setOther (p := ⟨x, 2, none⟩) ne _
  have hx5 : ROp (w4.setCell ⟨x, 2, none⟩ (.int .i64 0)) x 2 self 0 n on mv := HX4.out.set 2 _
  have hk5 := HK4.out.setCell (p := ⟨x, 2, none⟩) (.inl (.inr rfl)) (.int .i64 0)
  have HR5 := Lib.hid hr5
  have HX5 := Lib.hid hx5
  have HK5 := Lib.hid hk5
  clear hr5 hx5 hk5 c3 f3 HR4 HX4 HK4
  generalize (w4.setCell ⟨x, 2, none⟩ (.int .i64 0)) = w5 at *
  have c4 := HR5.out.cell
  have c5 := HX5.out.cell
  go_upto_region 22 with fail
  clear c4 c5
  have c4 : ∀ (q : BelowOf w5) (i : Nat), q.v.cell? ⟨r, i, none⟩ = [Value.int .i64 wt, .int .i64 on, .int .i64 b, .int .i64 m][i]? := fun q => (HR5.out.below q.bel HR5.out.lt).cell
  have c5 : ∀ (q : BelowOf w5) (i : Nat), q.v.cell? ⟨x, i, none⟩ = [Value.int .i64 2, .int .i64 self, .int .i64 0, .int .i64 n, .int .i64 on, .int .i64 mv][i]? := fun q => (HX5.out.below q.bel HX5.out.lt).cell
  cases v with
  | false =>
    refine wp_region_quiet_below (by kernel_rfl) (by kernel_rfl) ?_
    repeat (go_big_quiet_step ((go_at_call 19; exact Calls.below_of _ (HHAS.out _))))
    refine wpQuiet_nil ?_
    intro _ hw'
    obtain ⟨pq, hw''⟩ := hw'
    subst hw''
    have HR8 := Lib.hid (HR5.out.below pq.bel HR5.out.lt)
    have HX8 := Lib.hid (HX5.out.below pq.bel HX5.out.lt)
    have HK8 := Lib.hid (HK5.out.trans (Kept.of_below (S := fun _ => False) pq.bel) (fun _ _ e => e.elim))
    clear c4 c5
    go_wp2_with fail
    go_ret2
    exact ⟨rfl, HR8.out, by simpa using HX8.out, HK8.out⟩
  | true =>
    cases u with
    | false =>
      refine wp_region_quiet_below (by kernel_rfl) (by kernel_rfl) ?_
      repeat (go_big_quiet_step ((go_at_call 19; exact Calls.below_of _ (HHAS.out _))))
      refine wpQuiet_nil ?_
      intro _ hw'
      obtain ⟨pq, hw''⟩ := hw'
      subst hw''
      have HR8 := Lib.hid (HR5.out.below pq.bel HR5.out.lt)
      have HX8 := Lib.hid (HX5.out.below pq.bel HX5.out.lt)
      have HK8 := Lib.hid (HK5.out.trans (Kept.of_below (S := fun _ => False) pq.bel) (fun _ _ e => e.elim))
      clear c4 c5
      go_wp2_with fail
      go_ret2
      exact ⟨rfl, HR8.out, by simpa using HX8.out, HK8.out⟩
    | true =>
      refine wp_region_quiet_below (by kernel_rfl) (by kernel_rfl) ?_
      repeat (go_big_quiet_step ((go_at_call 19; exact Calls.below_of _ (HHAS.out _))))
      refine wpQuiet_nil ?_
      intro _ hw'
      obtain ⟨pq, hw''⟩ := hw'
      subst hw''
      have HR8 := Lib.hid (HR5.out.below pq.bel HR5.out.lt)
      have HX8 := Lib.hid (HX5.out.below pq.bel HX5.out.lt)
      have HK8 := Lib.hid (HK5.out.trans (Kept.of_below (S := fun _ => False) pq.bel) (fun _ _ e => e.elim))
      clear c4 c5
      have f8 := HX8.out.frozen
      have c8 := HX8.out.cell
      go_wp2_with fail
      go_ret2
      exact ⟨rfl, HR8.out.setOther (p := ⟨x, 2, none⟩) ne _, HX8.out.set 2 _, HK8.out.setCell (p := ⟨x, 2, none⟩) (.inl (.inr rfl)) _⟩
set_option maxRecDepth 20000 in
set_option maxHeartbeats 2000000 in
/-- The bits are not as they were: nobody is turned. -/
theorem rstep_miss (hr : RSp w r wt on b m) (hx : ROp w x kd self 3 n on0 mv) (ne : r ≠ x) (i : Int) (hi : 0 ≤ i ∧ i ≤ 3) (hk1 : (kd == 1) = false) (hno : (on == on0) = false) :
    Calls Tryd.prog 37 #[.pointer (some ⟨x, 0, none⟩), .pointer (some ⟨r, 0, none⟩), .int .i64 i, .int .i64 3] w fun e w' => e = .returned (.tuple #[.bool true, .int .i64 0]) ∧ RSp w' r wt on b m ∧ ROp w' x kd self 0 n on0 mv ∧ Kept (fun k => k = r ∨ k = x) w w' := by
  have c0 := hr.cell
  have c1 := hx.cell
  have d1 : decide (i < 0) = false := decide_eq_false (by omega)
  have d2 : decide (3 < i) = false := decide_eq_false (by omega)
  have HR := Lib.hid hr
  have HX := Lib.hid hx
  have HMEM := Lib.hid (rmem_ok on w)
  clear hr hx
  go_enter Tryd.func37, Tryd.ntmps37
  go_wp2_with fail
  refine HMEM.out.mono ?_
  rintro e w2 ⟨g, cap, rfl, _, _, hb2⟩
  have hr2 := HR.out.below hb2 HR.out.lt
  have hx2 := HX.out.below hb2 HX.out.lt
  have c2 := hr2.cell
  have c3 := hx2.cell
  have f3 := hx2.frozen
  have HR2 := Lib.hid hr2
  have HX2 := Lib.hid hx2
  have HK2 := Lib.hid (Kept.of_below (S := fun k => k = r ∨ k = x) hb2)
  clear hr2 hx2 hb2 c0 c1 HR HX HMEM
  generalize (membersOf on).length = C at *
  go_upto_region 26 with fail
  have hr5 : RSp (w2.setCell ⟨x, 2, none⟩ (.int .i64 0)) r wt on b m := HR2.out.setOther (p := ⟨x, 2, none⟩) ne _
  have hx5 : ROp (w2.setCell ⟨x, 2, none⟩ (.int .i64 0)) x kd self 0 n on0 mv := HX2.out.set 2 _
  have hk5 := HK2.out.setCell (p := ⟨x, 2, none⟩) (.inl (.inr rfl)) (.int .i64 0)
  have HR5 := Lib.hid hr5
  have HX5 := Lib.hid hx5
  have HK5 := Lib.hid hk5
  clear hr5 hx5 hk5 c2 c3 f3 HR2 HX2 HK2
  generalize (w2.setCell ⟨x, 2, none⟩ (.int .i64 0)) = w5 at *
  have c4 := HR5.out.cell
  have c5 := HX5.out.cell
  go_quiet (fail)
  go_wp2_with fail
  go_ret2
  exact ⟨rfl, HR5.out, HX5.out, HK5.out.drewN nq⟩
set_option maxRecDepth 20000 in
set_option maxHeartbeats 2000000 in
/-- The bits are as they were: one is let in. -/
theorem rstep_on (k : Nat) (hk : k ≤ 16) (hr : RSp w r wt on b m) (hx : ROp w x 0 k 3 n on mv) (ne : r ≠ x) (i : Int) (hi : 0 ≤ i ∧ i ≤ 3) (v : Int) (hv : wrap64 (on + 2 ^ k) = v) :
    Calls Tryd.prog 37 #[.pointer (some ⟨x, 0, none⟩), .pointer (some ⟨r, 0, none⟩), .int .i64 i, .int .i64 3] w fun e w' => e = .returned (.tuple #[.bool true, .int .i64 0]) ∧ RSp w' r wt v b m ∧ ROp w' x 0 k 0 n on k ∧ Kept (fun k => k = r ∨ k = x) w w' := by
  have c0 := hr.cell
  have c1 := hx.cell
  have d1 : decide (i < 0) = false := decide_eq_false (by omega)
  have d2 : decide (3 < i) = false := decide_eq_false (by omega)
  have HR := Lib.hid hr
  have HX := Lib.hid hx
  have HMEM := Lib.hid (rmem_ok on w)
  have HV := Lib.hid hv
  have HBIT := Lib.hid (fun W => rbit_ok k hk W)
  clear hr hx hv
  go_enter Tryd.func37, Tryd.ntmps37
  go_wp2_with fail
  refine HMEM.out.mono ?_
  rintro e w2 ⟨g, cap, rfl, _, _, hb2⟩
  have hr2 := HR.out.below hb2 HR.out.lt
  have hx2 := HX.out.below hb2 HX.out.lt
  have c2 := hr2.cell
  have c3 := hx2.cell
  have f3 := hx2.frozen
  have HR2 := Lib.hid hr2
  have HX2 := Lib.hid hx2
  have HK2 := Lib.hid (Kept.of_below (S := fun k => k = r ∨ k = x) hb2)
  clear hr2 hx2 hb2 c0 c1 HR HX HMEM
  generalize (membersOf on).length = C at *
  go_upto_region 26 with fail
  have hr5 : RSp (w2.setCell ⟨x, 2, none⟩ (.int .i64 0)) r wt on b m := HR2.out.setOther (p := ⟨x, 2, none⟩) ne _
  have hx5 : ROp (w2.setCell ⟨x, 2, none⟩ (.int .i64 0)) x 0 k 0 n on mv := HX2.out.set 2 _
  have hk5 := HK2.out.setCell (p := ⟨x, 2, none⟩) (.inl (.inr rfl)) (.int .i64 0)
  have HR5 := Lib.hid hr5
  have HX5 := Lib.hid hx5
  have HK5 := Lib.hid hk5
  clear hr5 hx5 hk5 c2 c3 f3 HR2 HX2 HK2
  generalize (w2.setCell ⟨x, 2, none⟩ (.int .i64 0)) = w5 at *
  have c4 := HR5.out.cell
  have c5 := HX5.out.cell
  have hs : (on == on) = true := by simp
  go_quiet (fail)
  have HR6 := Lib.hid (HR5.out.drewN nq)
  have HX6 := Lib.hid (HX5.out.drewN nq)
  have HK6 := Lib.hid (HK5.out.drewN nq)
  clear HR5 HX5 HK5 c4 c5
  generalize (w5.drewN nq) = w6 at *
  have c5 := HX6.out.cell
  have f5 := HX6.out.frozen
  go_upto_region 28 with fail
  have hr7 : RSp (w6.setCell ⟨x, 5, none⟩ (.int .i64 k)) r wt on b m := HR6.out.setOther (p := ⟨x, 5, none⟩) ne _
  have hx7 : ROp (w6.setCell ⟨x, 5, none⟩ (.int .i64 k)) x 0 k 0 n on k := HX6.out.set 5 _
  have hk7 := HK6.out.setCell (p := ⟨x, 5, none⟩) (.inl (.inr rfl)) (.int .i64 k)
  have HR7 := Lib.hid hr7
  have HX7 := Lib.hid hx7
  have HK7 := Lib.hid hk7
  clear hr7 hx7 hk7 c5 f5 HR6 HX6 HK6 hs
  generalize (w6.setCell ⟨x, 5, none⟩ (.int .i64 k)) = w7 at *
  have c4 := HR7.out.cell
  have c5 := HX7.out.cell
  have f4 := HR7.out.frozen
  go_upto_region 29 with fail
  go_still_tail 13, (by kernel_rfl)
  still_call ((HBIT.out _).mono fun _ _ h => ⟨h.1, h.2.symm⟩)
  repeat still_step
  refine wpStill_nil ?_
  change wpList _ _ _ _ _ w7.drew
  have HR8 := Lib.hid HR7.out.drew
  have HX8 := Lib.hid HX7.out.drew
  have HK8 := Lib.hid HK7.out.drew
  clear HR7 HX7 HK7 c4 c5 f4
  generalize w7.drew = w8 at *
  have c4 := HR8.out.cell
  have f4 := HR8.out.frozen
  go_wp2_with fail
  rw [HV.out]
  go_ret2
  exact ⟨rfl, HR8.out.set 1 _, HX8.out.setOther (p := ⟨r, 1, none⟩) (fun e => ne e.symm) _, HK8.out.setCell (p := ⟨r, 1, none⟩) (.inl (.inl rfl)) _⟩
set_option maxRecDepth 20000 in
set_option maxHeartbeats 2000000 in
/-- The bits are as they were: one is let out. -/
theorem rstep_off (k : Nat) (hk : k ≤ 16) (hr : RSp w r wt on b m) (hx : ROp w x 2 k 3 n on mv) (ne : r ≠ x) (i : Int) (hi : 0 ≤ i ∧ i ≤ 3) (v : Int) (hv : wrap64 (on - 2 ^ k) = v) :
    Calls Tryd.prog 37 #[.pointer (some ⟨x, 0, none⟩), .pointer (some ⟨r, 0, none⟩), .int .i64 i, .int .i64 3] w fun e w' => e = .returned (.tuple #[.bool true, .int .i64 0]) ∧ RSp w' r wt v b m ∧ ROp w' x 2 k 0 n on k ∧ Kept (fun k => k = r ∨ k = x) w w' := by
  have c0 := hr.cell
  have c1 := hx.cell
  have d1 : decide (i < 0) = false := decide_eq_false (by omega)
  have d2 : decide (3 < i) = false := decide_eq_false (by omega)
  have HR := Lib.hid hr
  have HX := Lib.hid hx
  have HMEM := Lib.hid (rmem_ok on w)
  have HV := Lib.hid hv
  have HBIT := Lib.hid (fun W => rbit_ok k hk W)
  clear hr hx hv
  go_enter Tryd.func37, Tryd.ntmps37
  go_wp2_with fail
  refine HMEM.out.mono ?_
  rintro e w2 ⟨g, cap, rfl, _, _, hb2⟩
  have hr2 := HR.out.below hb2 HR.out.lt
  have hx2 := HX.out.below hb2 HX.out.lt
  have c2 := hr2.cell
  have c3 := hx2.cell
  have f3 := hx2.frozen
  have HR2 := Lib.hid hr2
  have HX2 := Lib.hid hx2
  have HK2 := Lib.hid (Kept.of_below (S := fun k => k = r ∨ k = x) hb2)
  clear hr2 hx2 hb2 c0 c1 HR HX HMEM
  generalize (membersOf on).length = C at *
  go_upto_region 26 with fail
  have hr5 : RSp (w2.setCell ⟨x, 2, none⟩ (.int .i64 0)) r wt on b m := HR2.out.setOther (p := ⟨x, 2, none⟩) ne _
  have hx5 : ROp (w2.setCell ⟨x, 2, none⟩ (.int .i64 0)) x 2 k 0 n on mv := HX2.out.set 2 _
  have hk5 := HK2.out.setCell (p := ⟨x, 2, none⟩) (.inl (.inr rfl)) (.int .i64 0)
  have HR5 := Lib.hid hr5
  have HX5 := Lib.hid hx5
  have HK5 := Lib.hid hk5
  clear hr5 hx5 hk5 c2 c3 f3 HR2 HX2 HK2
  generalize (w2.setCell ⟨x, 2, none⟩ (.int .i64 0)) = w5 at *
  have c4 := HR5.out.cell
  have c5 := HX5.out.cell
  have hs : (on == on) = true := by simp
  go_quiet (fail)
  have HR6 := Lib.hid (HR5.out.drewN nq)
  have HX6 := Lib.hid (HX5.out.drewN nq)
  have HK6 := Lib.hid (HK5.out.drewN nq)
  clear HR5 HX5 HK5 c4 c5
  generalize (w5.drewN nq) = w6 at *
  have c5 := HX6.out.cell
  have f5 := HX6.out.frozen
  go_upto_region 28 with fail
  have hr7 : RSp (w6.setCell ⟨x, 5, none⟩ (.int .i64 k)) r wt on b m := HR6.out.setOther (p := ⟨x, 5, none⟩) ne _
  have hx7 : ROp (w6.setCell ⟨x, 5, none⟩ (.int .i64 k)) x 2 k 0 n on k := HX6.out.set 5 _
  have hk7 := HK6.out.setCell (p := ⟨x, 5, none⟩) (.inl (.inr rfl)) (.int .i64 k)
  have HR7 := Lib.hid hr7
  have HX7 := Lib.hid hx7
  have HK7 := Lib.hid hk7
  clear hr7 hx7 hk7 c5 f5 HR6 HX6 HK6 hs
  generalize (w6.setCell ⟨x, 5, none⟩ (.int .i64 k)) = w7 at *
  have c4 := HR7.out.cell
  have c5 := HX7.out.cell
  have f4 := HR7.out.frozen
  go_upto_region 30 with fail
  go_still_tail 13, (by kernel_rfl)
  still_call ((HBIT.out _).mono fun _ _ h => ⟨h.1, h.2.symm⟩)
  repeat still_step
  refine wpStill_nil ?_
  change wpList _ _ _ _ _ w7.drew
  have HR8 := Lib.hid HR7.out.drew
  have HX8 := Lib.hid HX7.out.drew
  have HK8 := Lib.hid HK7.out.drew
  clear HR7 HX7 HK7 c4 c5 f4
  generalize w7.drew = w8 at *
  have c4 := HR8.out.cell
  have f4 := HR8.out.frozen
  go_wp2_with fail
  rw [HV.out]
  go_ret2
  exact ⟨rfl, HR8.out.set 1 _, HX8.out.setOther (p := ⟨r, 1, none⟩) (fun e => ne e.symm) _, HK8.out.setCell (p := ⟨r, 1, none⟩) (.inl (.inl rfl)) _⟩
end
end Go.Proofs.YtkilghhknimolaaDoor
