/-
  WHAT IS PROVED HERE: contracts of the reference's operations (pelotonref18): bit; the steps that look whether too few or too many step in, and that turn one. Conditions: as in the contracts.
-/
import Derived.Test.YtkilghhknimolaaDoorSpareQ
import Derived.Deep.RegionHeld3
namespace Go.Proofs.YtkilghhknimolaaDoor
open Go.RowKit

set_option maxRecDepth 20000 in
theorem rbit_ok (k : Nat) (hk : k ≤ 16) (w : World) : Calls Tryd.prog 55 #[.int .i64 k] w fun e w' => e = .returned (.int .i64 (2 ^ k : Nat)) ∧ w = w' := by
  go_enter Tryd.func55, Tryd.ntmps55
  go_wp2_with fail
  go_loopw [3, 4] (fun x v wr => ∃ j : Nat, j ≤ k ∧ x = .int .i64 (2 ^ j : Nat) ∧ v = .int .i64 j ∧ w = wr) (fun _ v _ => k - (intOf v).toNat)
  case atStart => exact ⟨0, by omega, rfl, rfl, rfl⟩
  case round =>
    obtain ⟨j, hj, rfl, rfl, rfl⟩ := hrel
    by_cases hlt : j < k
    · obtain ⟨P, hP⟩ : ∃ P, 2 ^ j = P := ⟨_, rfl⟩
      have hle : P ≤ 65536 := by rw [← hP]; exact Nat.pow_le_pow_right (by omega) (by omega : j ≤ 16)
      have hn : 2 ^ (j + 1) = 2 * P := by rw [Nat.pow_succ, hP]; omega
      have hw : wrap64 (2 * (P : Int)) = 2 * (P : Int) := by unfold wrap64; omega
      rw [hP]
      have HN := Lib.hid hn
      clear hn hP
      go_wp2_with fail
      go_roundw
      case rel => exact ⟨j + 1, hlt, by rw [HN.out]; go_num, by go_num, by first | trivial | rfl⟩
      case measure => simp [intOf]; omega
    · obtain rfl : j = k := by omega
      go_wp2_with fail
      go_ret
      exact ⟨rfl, by first | trivial | rfl⟩
section
variable {w : World} {r x : Nat} {wt on b m kd self nx n on0 mv : Int}
set_option maxRecDepth 20000 in
set_option maxHeartbeats 2000000 in
/-- Nobody is let in: too many are there. -/
theorem rstep_need_no (hr : RSp w r wt on b m) (hx : ROp w x 0 self 2 n on0 mv) (ne : r ≠ x) (i : Int) (hi : 0 ≤ i ∧ i ≤ 3) (C : Nat) (hC : (membersOf on).length = C) (hno : ¬ ((C : Int) < m ∧ (C : Int) < n)) :
    Calls Tryd.prog 37 #[.pointer (some ⟨x, 0, none⟩), .pointer (some ⟨r, 0, none⟩), .int .i64 i, .int .i64 3] w fun e w' => e = .returned (.tuple #[.bool true, .int .i64 0]) ∧ RSp w' r wt on b m ∧ ROp w' x 0 self 0 n on mv ∧ Kept (fun k => k = r ∨ k = x) w w' := by
  have c0 := hr.cell
  have c1 := hx.cell
  have d1 : decide (i < 0) = false := decide_eq_false (by omega)
  have d2 : decide (3 < i) = false := decide_eq_false (by omega)
  have HR := Lib.hid hr
  have HX := Lib.hid hx
  have hmem := rmem_ok on w
  rw [hC] at hmem
  have HMEM := Lib.hid hmem
  clear hr hx hmem hC
  go_enter Tryd.func37, Tryd.ntmps37
  go_wp2_with fail
  refine HMEM.out.mono ?_
  rintro e w2 ⟨g, cap, rfl, _, _, hb2⟩
  have hr2 := HR.out.below hb2 HR.out.lt
  have hx2 := HX.out.below hb2 HX.out.lt
  have c2 := hr2.cell
  have c3 := hx2.cell
  have f3 := hx2.frozen
  have HR2 := Lib.hid hr2
  have HX2 := Lib.hid hx2
  have HK2 := Lib.hid (Kept.of_below (S := fun k => k = r ∨ k = x) hb2)
  clear hr2 hx2 hb2 c0 c1 HR HX HMEM
  go_upto_region 16 with fail
  have hr4 : RSp (w2.setCell ⟨x, 4, none⟩ (.int .i64 on)) r wt on b m := HR2.out.setOther (p := ⟨x, 4, none⟩) ne _
  have hx4 : ROp (w2.setCell ⟨x, 4, none⟩ (.int .i64 on)) x 0 self 2 n on mv := HX2.out.set 4 _
  have hk4 := HK2.out.setCell (p := ⟨x, 4, none⟩) (.inl (.inr rfl)) (.int .i64 on)
  have HR4 := Lib.hid hr4
  have HX4 := Lib.hid hx4
  have HK4 := Lib.hid hk4
  clear hr4 hx4 hk4 c2 c3 f3 HR2 HX2 HK2
  generalize (w2.setCell ⟨x, 4, none⟩ (.int .i64 on)) = w4 at *
  have c3 := HX4.out.cell
  have f3 := HX4.out.frozen
  go_upto_region 17 with fail
  have hr5 : RSp (w4.setCell ⟨x, 2, none⟩ (.int .i64 0)) r wt on b m := HR4.out.setOther (p := ⟨x, 2, none⟩) ne _
  have hx5 : ROp (w4.setCell ⟨x, 2, none⟩ (.int .i64 0)) x 0 self 0 n on mv := HX4.out.set 2 _
  have hk5 := HK4.out.setCell (p := ⟨x, 2, none⟩) (.inl (.inr rfl)) (.int .i64 0)
  have HR5 := Lib.hid hr5
  have HX5 := Lib.hid hx5
  have HK5 := Lib.hid hk5
  clear hr5 hx5 hk5 c3 f3 HR4 HX4 HK4
  generalize (w4.setCell ⟨x, 2, none⟩ (.int .i64 0)) = w5 at *
  have c4 := HR5.out.cell
  have c5 := HX5.out.cell
  by_cases t1 : (C : Int) < m
  · have t1' : decide ((C : Int) < m) = true := decide_eq_true t1
    have t2' : decide ((C : Int) < n) = false := decide_eq_false (fun e => hno ⟨t1, e⟩)
    go_upto_region 22 with fail
    go_quiet (fail)
    go_wp2_with fail
    go_ret2
    exact ⟨rfl, HR5.out, HX5.out, HK5.out.drewN nq⟩
  · have t1' : decide ((C : Int) < m) = false := decide_eq_false t1
    go_upto_region 22 with fail
    go_quiet (fail)
    go_wp2_with fail
    go_ret2
    exact ⟨rfl, HR5.out, HX5.out, HK5.out.drewN nq⟩
set_option maxRecDepth 20000 in
set_option maxHeartbeats 2000000 in
/-- The least that is not there is let in. -/
theorem rstep_need_yes (B k : Nat) (hr : RSp w r wt on B m) (hx : ROp w x 0 self 2 n on0 mv) (ne : r ≠ x) (i : Int) (hi : 0 ≤ i ∧ i ≤ 3) (C : Nat) (hC : (membersOf on).length = C) (h1 : (C : Int) < m) (h2 : (C : Int) < n) (hBk : B ≤ k) (hk : k < 16) (hin : ∀ j, B ≤ j → j < k → hasBit on (j : Int) = true) (hout : hasBit on (k : Int) = false) :
    Calls Tryd.prog 37 #[.pointer (some ⟨x, 0, none⟩), .pointer (some ⟨r, 0, none⟩), .int .i64 i, .int .i64 3] w fun e w' => e = .returned (.tuple #[.bool true, .int .i64 0]) ∧ RSp w' r wt on B m ∧ ROp w' x 0 k 3 n on mv ∧ Kept (fun k => k = r ∨ k = x) w w' := by
  have c0 := hr.cell
  have c1 := hx.cell
  have d1 : decide (i < 0) = false := decide_eq_false (by omega)
  have d2 : decide (3 < i) = false := decide_eq_false (by omega)
  have HR := Lib.hid hr
  have HX := Lib.hid hx
  have hmem := rmem_ok on w
  rw [hC] at hmem
  have HMEM := Lib.hid hmem
  have HIN := Lib.hid hin
  have HOUT := Lib.hid hout
  clear hr hx hmem hC hin hout
  go_enter Tryd.func37, Tryd.ntmps37
  go_wp2_with fail
  refine HMEM.out.mono ?_
  rintro e w2 ⟨g, cap, rfl, _, _, hb2⟩
  have hr2 := HR.out.below hb2 HR.out.lt
  have hx2 := HX.out.below hb2 HX.out.lt
  have c2 := hr2.cell
  have c3 := hx2.cell
  have f3 := hx2.frozen
  have HR2 := Lib.hid hr2
  have HX2 := Lib.hid hx2
  have HK2 := Lib.hid (Kept.of_below (S := fun k => k = r ∨ k = x) hb2)
  clear hr2 hx2 hb2 c0 c1 HR HX HMEM
  go_upto_region 16 with fail
  have hr4 : RSp (w2.setCell ⟨x, 4, none⟩ (.int .i64 on)) r wt on B m := HR2.out.setOther (p := ⟨x, 4, none⟩) ne _
  have hx4 : ROp (w2.setCell ⟨x, 4, none⟩ (.int .i64 on)) x 0 self 2 n on mv := HX2.out.set 4 _
  have hk4 := HK2.out.setCell (p := ⟨x, 4, none⟩) (.inl (.inr rfl)) (.int .i64 on)
  have HR4 := Lib.hid hr4
  have HX4 := Lib.hid hx4
  have HK4 := Lib.hid hk4
  clear hr4 hx4 hk4 c2 c3 f3 HR2 HX2 HK2
  generalize (w2.setCell ⟨x, 4, none⟩ (.int .i64 on)) = w4 at *
  have c3 := HX4.out.cell
  have f3 := HX4.out.frozen
  go_upto_region 17 with fail
  have hr5 : RSp (w4.setCell ⟨x, 2, none⟩ (.int .i64 0)) r wt on B m := HR4.out.setOther (p := ⟨x, 2, none⟩) ne _
  have hx5 : ROp (w4.setCell ⟨x, 2, none⟩ (.int .i64 0)) x 0 self 0 n on mv := HX4.out.set 2 _
  have hk5 := HK4.out.setCell (p := ⟨x, 2, none⟩) (.inl (.inr rfl)) (.int .i64 0)
  have HR5 := Lib.hid hr5
  have HX5 := Lib.hid hx5
  have HK5 := Lib.hid hk5
  clear hr5 hx5 hk5 c3 f3 HR4 HX4 HK4
  generalize (w4.setCell ⟨x, 2, none⟩ (.int .i64 0)) = w5 at *
  have c4 := HR5.out.cell
  have c5 := HX5.out.cell
  have f5 := HX5.out.frozen
  have t1' : decide ((C : Int) < m) = true := decide_eq_true h1
  have t2' : decide ((C : Int) < n) = true := decide_eq_true h2
  go_upto_block 1 with fail
  have hr6 : RSp (w5.setCell ⟨x, 1, none⟩ (.int .i64 B)) r wt on B m := HR5.out.setOther (p := ⟨x, 1, none⟩) ne _
  have hx6 : ROp (w5.setCell ⟨x, 1, none⟩ (.int .i64 B)) x 0 B 0 n on mv := HX5.out.set 1 _
  have hk6 := HK5.out.setCell (p := ⟨x, 1, none⟩) (.inl (.inr rfl)) (.int .i64 B)
  have HR6 := Lib.hid hr6
  have HX6 := Lib.hid hx6
  have HK6 := Lib.hid hk6
  clear hr6 hx6 hk6 c4 c5 f5 HR5 HX5 HK5 t1' t2'
  generalize (w5.setCell ⟨x, 1, none⟩ (.int .i64 B)) = w6 at *
  go_wp2_with fail
  go_loopw [] (fun wr => ∃ j : Nat, B ≤ j ∧ j ≤ k ∧ RSp wr r wt on B m ∧ ROp wr x 0 j 0 n on mv ∧ Kept (fun k => k = r ∨ k = x) w wr) (fun wr => k - (intOf ((wr.cell? ⟨x, 1, none⟩).getD undef)).toNat)
  case atStart => exact ⟨B, by omega, hBk, HR6.out, HX6.out, HK6.out⟩
  case round =>
    clear HR6 HX6 HK6
    obtain ⟨j, j1, j2, hr7, hx7, hk7⟩ := hrel
    have HR7 := Lib.hid hr7
    have HX7 := Lib.hid hx7
    have HK7 := Lib.hid hk7
    have c4 := hr7.cell
    have c5 := hx7.cell
    have HM2 := Lib.hid (hx7.cell 1)
    clear hr7 hx7 hk7
    obtain ⟨v, hv⟩ : ∃ v, hasBit on (j : Int) = v := ⟨_, rfl⟩
    have hhas := fun W => rhas_ok on (j : Int) W
    rw [hv] at hhas
    have HHAS := Lib.hid hhas
    have HV := Lib.hid hv
    clear hhas hv
    go_upto_region 19 with fail
    go_region_held3 (fun w' => (∀ i, w'.cell? ⟨r, i, none⟩ = [Value.int .i64 wt, .int .i64 on, .int .i64 B, .int .i64 m][i]?) ∧ (∀ i, w'.cell? ⟨x, i, none⟩ = [Value.int .i64 0, .int .i64 j, .int .i64 0, .int .i64 n, .int .i64 on, .int .i64 mv][i]?)) (first | exact ⟨c4, c5⟩ | exact ⟨c4', c5'⟩) (first
      | (go_at_call 19; refine (HHAS.out _).mono ?_; rintro e w8 ⟨rfl, hb8⟩; have HR8 := Lib.hid (HR7.out.drew.below hb8 HR7.out.drew.lt); have HX8 := Lib.hid (HX7.out.drew.below hb8 HX7.out.drew.lt); have HK8 := Lib.hid (HK7.out.drew.trans (Kept.of_below (S := fun _ => False) hb8) (fun _ _ e => e.elim)); have c4' := HR8.out.cell; have c5' := HX8.out.cell; clear hb8))
    clear HR7 HX7 HK7 HHAS c4 c5 c4'
    have f8 := HX8.out.frozen
    cases v with
    | true =>
      have hlt : j < k := by
        by_cases e : j < k
        · exact e
        · exfalso
          have : j = k := by omega
          subst this
          rw [HOUT.out] at HV
          cases HV.out
      have hw9 : wrap64 ((j : Int) + 1) = (j : Int) + 1 := by unfold wrap64; omega
      go_wp2_with fail
      have hr9 : RSp (w8.setCell ⟨x, 1, none⟩ (.int .i64 ((j : Int) + 1))) r wt on B m := HR8.out.setOther (p := ⟨x, 1, none⟩) ne _
      have hx9 : ROp (w8.setCell ⟨x, 1, none⟩ (.int .i64 ((j : Int) + 1))) x 0 ((j : Int) + 1) 0 n on mv := HX8.out.set 1 _
      have hk9 := HK8.out.setCell (p := ⟨x, 1, none⟩) (.inl (.inr rfl)) (.int .i64 ((j : Int) + 1))
      have hm1 := hx9.cell 1
      have hm2 := HM2.out
      simp only [List.getElem?_cons_zero, List.getElem?_cons_succ] at hm1 hm2
      have HM1 := Lib.hid hm1
      have HM3 := Lib.hid hm2
      clear hm1 hm2
      go_roundw
      case rel => exact ⟨j + 1, by omega, by omega, hr9, by simpa using hx9, hk9⟩
      case measure =>
        rw [HM1.out, HM3.out]
        simp [intOf]
        omega
    | false =>
      have hjk : j = k := by
        by_cases e : j < k
        · exfalso
          rw [HIN.out j j1 e] at HV
          cases HV.out
        · omega
      subst hjk
      go_upto_region 22 with fail
      have hr9 : RSp (w8.setCell ⟨x, 2, none⟩ (.int .i64 3)) r wt on B m := HR8.out.setOther (p := ⟨x, 2, none⟩) ne _
      have hx9 : ROp (w8.setCell ⟨x, 2, none⟩ (.int .i64 3)) x 0 j 3 n on mv := HX8.out.set 2 _
      have hk9 := HK8.out.setCell (p := ⟨x, 2, none⟩) (.inl (.inr rfl)) (.int .i64 3)
      have HR9 := Lib.hid hr9
      have HX9 := Lib.hid hx9
      have HK9 := Lib.hid hk9
      clear hr9 hx9 hk9 c5' f8 HR8 HX8 HK8
      generalize (w8.setCell ⟨x, 2, none⟩ (.int .i64 3)) = w9 at *
      have c9 := HX9.out.cell
      go_quiet (fail)
      go_wp2_with fail
      go_ret2
      exact ⟨rfl, HR9.out, HX9.out, HK9.out.drewN nq⟩
end
end Go.Proofs.YtkilghhknimolaaDoor
