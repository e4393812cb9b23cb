/-
  WHAT IS PROVED HERE: the walk of pelotonlaw16.KinWays: true, whatever the input. Conditions: none.
-/
import Derived.Test.YtogobpnbkmdnfaaKinN
import Derived.Test.YtogobpnbkmdnfaaKinR
namespace Go.Proofs.Ytogobpnbkmdnfaa
open Go.RowKit

theorem Ls.nocap {w : World} {B cap : Nat} {A : Option Addr} {xs : List Int} (h : Ls w B A cap xs) : A = none → cap = 0 := fun e => by
  rcases h with ⟨_, e2, _⟩ | ⟨g, e2, _, _⟩
  · exact e2
  · rw [e2] at e; cases e
set_option maxRecDepth 20000 in
set_option maxHeartbeats 4000000 in
theorem kinWays_core (W : World) (A : Option Addr) (n c : Nat) (z : List Int) (hzn : z.length = n) (hnm : n ≤ maxLen) (hz : Sv W A z) (a b : Int) (D : Option Addr) (m d : Nat) (q : List Int) (hqn : q.length = m) (hqm : m ≤ maxLen) (hq : Sv W D q) :
    Calls Try.prog 4 #[.slice A n c, .agg #[.int .i64 a, .int .i64 b], .slice D m d] W fun e w' => e = .returned (.bool true) ∧ Below W.heap.size W w' := by
  have hbx : Blk (W.alloc (.cells #[.int .i64 a, .int .i64 b] 23)) W.heap.size 23 [.int .i64 a, .int .i64 b] := Blk.new W _ _
  have hb0 : Below W.heap.size W (W.alloc (.cells #[.int .i64 a, .int .i64 b] 23)) := (Below.refl _ W).alloc (Nat.le_refl _) _
  have hz1 := hz.alloc (.cells #[.int .i64 a, .int .i64 b] 23)
  have hq1 := hq.alloc (.cells #[.int .i64 a, .int .i64 b] 23)
  have hsm := small_ok _ A c z hz1 (by omega)
  rw [hzn] at hsm
  have HSM := Lib.hid hsm
  have HBX := Lib.hid hbx
  have HQ := Lib.hid hq1
  have HB0 := Lib.hid hb0
  clear hz hz1 hq hsm hbx hq1 hb0
  go_enter Try.func4, Try.ntmps4
  go_wp2_with (go_at_call 23; refine HSM.out.mono ?_; rintro e w2 ⟨A2, c2, l, rfl, hls, hwf, hl60, hb2⟩)
  have HBX2 := Lib.hid (HBX.out.below hb2 HBX.out.lt)
  have HQ2 := Lib.hid (HQ.out.below hb2 (Nat.le_refl _))
  have HB2 := Lib.hid (HB0.out.trans (hb2.mono HB0.out.size))
  have hgr := grow_ok w2 A2 c2 l hls.sv (by omega)
  rw [gl_wf_self hwf] at hgr
  have HGR := Lib.hid hgr
  have HWF := Lib.hid hwf
  clear hgr hls hwf hb2 HBX HQ HB0 HSM
  go_upto_region 5 with (go_at_call 10; refine HGR.out.mono ?_; rintro e w3 ⟨p, own, A1, c1, rfl, hg⟩)
  have HG := Lib.hid hg
  clear hg HGR
  by_cases h0 : l.length = 0
  · have e0 : ((l.length : Int) == 0) = true := by simp [h0]
    have hf : findV l q = (0, 17) := by unfold findV; rw [if_pos (List.eq_nil_of_length_eq_zero h0)]
    have hk1 := kfind_ok HG.out.t D d q (HQ2.out.below HG.out.bel (Nat.le_refl _)) (by omega) 0 17 hf
    rw [hqn] at hk1
    have HK1 := Lib.hid hk1
    clear hk1 hf
    go_wp2_with (first
      | (go_at_call 17; refine HK1.out.mono ?_; rintro e w5 ⟨rfl, rfl⟩)
      | (go_at_call 9; refine (awake16 _).mono ?_; rintro e w6 ⟨rfl, hb⟩))
    go_ret
    exact ⟨rfl, HB2.out.trans ((HG.out.below hb).bel.mono HB2.out.size)⟩
  · have cb := (HBX2.out.below HG.out.bel HBX2.out.lt).cell
    obtain ⟨N, hN⟩ : ∃ N, l.length = N := ⟨_, rfl⟩
    rw [hN] at hl60 h0 ⊢
    have e0 : ((N : Int) == 0) = false := by simp; omega
    obtain ⟨a0, a1, a2, a3⟩ := brought (x := a) (k := N) (by omega)
    obtain ⟨b0, b1, b2, b3⟩ := brought (x := b) (k := N) (by omega)
    obtain ⟨ra, hra⟩ : ∃ r, a.tmod N = r := ⟨_, rfl⟩
    obtain ⟨rb, hrb⟩ : ∃ r, b.tmod N = r := ⟨_, rfl⟩
    rw [hra] at a0 a1 a2 a3
    rw [hrb] at b0 b1 b2 b3
    obtain ⟨x, hx⟩ : ∃ x : Nat, (ra + N).tmod N = x := ⟨((ra + N).tmod N).toNat, by omega⟩
    obtain ⟨y, hy⟩ : ∃ y : Nat, (rb + N).tmod N = y := ⟨((rb + N).tmod N).toNat, by omega⟩
    rw [hx] at a0 a1
    rw [hy] at b0 b1
    have wa : wrap64 (ra + (N : Int)) = ra + N := by unfold wrap64; omega
    have wb : wrap64 (rb + (N : Int)) = rb + N := by unfold wrap64; omega
    have hnz : ¬ (N : Int) = 0 := by omega
    have hxl : x < l.length := by omega
    have hyl : y < l.length := by omega
    have HN := Lib.hid hN
    clear hN
    go_upto_region 10 with fail
    clear hra hrb hx hy wa wb cb a0 a1 a2 a3 b0 b1 b2 b3 hnz e0
    -- the ways
    have few : l.length ≤ 1000 := by rw [HN.out]; omega
    obtain ⟨P, hP⟩ : ∃ P, nI (wayN l x) = P := ⟨_, rfl⟩
    obtain ⟨Q, hQ⟩ : ∃ Q, nI (wayN l y) = Q := ⟨_, rfl⟩
    have hPl : (wayN l x).length = P.length := by rw [← hP, length_nI]
    have hQl : (wayN l y).length = Q.length := by rw [← hQ, length_nI]
    have hPm : P.length ≤ maxLen := by have := wayN_length HWF.out hxl; unfold maxLen; omega
    have hQm : Q.length ≤ maxLen := by have := wayN_length HWF.out hyl; unfold maxLen; omega
    have hl0 : l ≠ [] := by intro e; rw [e] at hxl; simp at hxl
    have hfP : findV l P = ((x : Int), 0) := by unfold findV; rw [if_neg hl0, ← hP, find_way HWF.out hxl]
    have hfQ : findV l Q = ((y : Int), 0) := by unfold findV; rw [if_neg hl0, ← hQ, find_way HWF.out hyl]
    obtain ⟨v1, hv1⟩ : ∃ v, desc l x y = v := ⟨_, rfl⟩
    obtain ⟨v2, hv2⟩ : ∃ v, desc l y x = v := ⟨_, rfl⟩
    obtain ⟨v3, hv3⟩ : ∃ v, decide (P = Q) = v := ⟨_, rfl⟩
    have hd1 : descI l x y = v1 := by unfold descI; rw [inK_nat hxl, inK_nat hyl]; simpa using hv1
    have hd2 : descI l y x = v2 := by unfold descI; rw [inK_nat hxl, inK_nat hyl]; simpa using hv2
    have hb1 : begins Q P = v1 := by
      rw [← hv1, desc_way HWF.out hxl hyl]
      unfold begins
      rw [Bool.eq_iff_iff, decide_eq_true_eq, decide_eq_true_eq, ← hP, ← hQ, nI_prefix]
    have hb2 : begins P Q = v2 := by
      rw [← hv2, desc_way HWF.out hyl hxl]
      unfold begins
      rw [Bool.eq_iff_iff, decide_eq_true_eq, decide_eq_true_eq, ← hP, ← hQ, nI_prefix]
    have e3 : ((x : Int) == (y : Int)) = v3 := by
      rw [← hv3, Bool.eq_iff_iff, decide_eq_true_eq, beq_iff_eq, ← hP, ← hQ]
      constructor
      · intro e
        have : x = y := by omega
        subst this; rfl
      · intro e
        rw [way_inj HWF.out hxl hyl (nI_inj e)]
    have e4 : (v1 != v1) = false := by simp
    have e5 : (v2 != v2) = false := by simp
    have e6 : (v3 != v3) = false := by simp
    have e7 : ((x : Int) != (x : Int)) = false := by simp
    have e8 : ((y : Int) != (y : Int)) = false := by simp
    have HP1 := Lib.hid (kpath_ok HG.out.t few x hxl)
    rw [hP, hPl] at HP1
    have FP := Lib.hid hfP
    have FQ := Lib.hid hfQ
    have D1 := Lib.hid hd1
    have D2 := Lib.hid hd2
    have B1 := Lib.hid hb1
    have B2 := Lib.hid hb2
    have V3 := Lib.hid hv3
    have HQE := Lib.hid hQ
    have HQL := Lib.hid hQl
    clear hP hPl hQ hQl hfP hfQ hd1 hd2 hb1 hb2 hv1 hv2 hv3
    go_upto_region 11 with (go_at_call 13; refine HP1.out.mono ?_; rintro e w4 ⟨A4, c4, rfl, hls4, hb4⟩)
    have HG4 := Lib.hid (HG.out.below hb4)
    have HL4 := Lib.hid hls4
    have HP2 := Lib.hid (kpath_ok HG4.out.t few y hyl)
    rw [HQE.out, HQL.out] at HP2
    clear HP1 HG hb4 hls4 HQE HQL
    go_upto_region 12 with (go_at_call 13; refine HP2.out.mono ?_; rintro e w5 ⟨A5, c5, rfl, hls5, hb5⟩)
    have HG5 := Lib.hid (HG4.out.below hb5)
    have HL5 := Lib.hid (HL4.out.below hb5 (Nat.le_refl _))
    have HM5 := Lib.hid hls5
    clear HP2 HG4 HL4 hb5 hls5
    go_upto_region 13 with (go_at_call 17; refine (kfind_ok HG5.out.t A4 c4 P HL5.out.sv hPm _ _ FP.out).mono ?_; rintro e w6 ⟨rfl, rfl⟩)
    go_upto_region 16 with (go_at_call 17; refine (kfind_ok HG5.out.t A5 c5 Q HM5.out.sv hQm _ _ FQ.out).mono ?_; rintro e w6 ⟨rfl, rfl⟩)
    have e9 : ((0 : Int) != 0) = false := rfl
    go_wp2_with fail
    refine (kdesc_ok HG5.out.t x y v1 D1.out).mono ?_
    rintro e w7 ⟨rfl, hb7⟩
    have HG7 := Lib.hid (HG5.out.below hb7)
    have HL7 := Lib.hid (HL5.out.below hb7 (Nat.le_refl _))
    have HM7 := Lib.hid (HM5.out.below hb7 (Nat.le_refl _))
    clear HG5 HL5 HM5 hb7
    go_wp2_with fail
    refine (kbegins_ok w7 A5 A4 c5 c4 Q P HM7.out.sv HL7.out.sv hQm HL7.out.room HL7.out.nocap v1 B1.out).mono ?_
    rintro e w8 ⟨rfl, hb8⟩
    have HG8 := Lib.hid (HG7.out.below hb8)
    have HL8 := Lib.hid (HL7.out.below hb8 (Nat.le_refl _))
    have HM8 := Lib.hid (HM7.out.below hb8 (Nat.le_refl _))
    clear HG7 HL7 HM7 hb8
    go_wp2_with fail
    refine (kdesc_ok HG8.out.t y x v2 D2.out).mono ?_
    rintro e w9 ⟨rfl, hb9⟩
    have HG9 := Lib.hid (HG8.out.below hb9)
    have HL9 := Lib.hid (HL8.out.below hb9 (Nat.le_refl _))
    have HM9 := Lib.hid (HM8.out.below hb9 (Nat.le_refl _))
    clear HG8 HL8 HM8 hb9
    go_wp2_with fail
    refine (kbegins_ok w9 A4 A5 c4 c5 P Q HL9.out.sv HM9.out.sv hPm HM9.out.room HM9.out.nocap v2 B2.out).mono ?_
    rintro e w10 ⟨rfl, hb10⟩
    have HG10 := Lib.hid (HG9.out.below hb10)
    have HL10 := Lib.hid (HL9.out.below hb10 (Nat.le_refl _))
    have HM10 := Lib.hid (HM9.out.below hb10 (Nat.le_refl _))
    clear HG9 HL9 HM9 hb10
    go_wp2_with fail
    refine (ksame_ok w10 A4 A5 c4 c5 P Q HL10.out.sv HM10.out.sv hPm v3 V3.out).mono ?_
    rintro e w11 ⟨rfl, hb11⟩
    have HG11 := Lib.hid (HG10.out.below hb11)
    clear HG10 HL10 HM10 hb11 D1 D2 B1 B2 V3 FP FQ
    -- any way
    cases hfz : findN l 0 q with
    | none =>
      have hf : findV l q = (0, 17) := by unfold findV; rw [if_neg hl0, hfz]
      have hk1 := kfind_ok HG11.out.t D d q (HQ2.out.below HG11.out.bel (Nat.le_refl _)) (by omega) 0 17 hf
      rw [hqn] at hk1
      have HK1 := Lib.hid hk1
      clear hk1 hf hfz
      go_wp2_with (first
        | (go_at_call 17; refine HK1.out.mono ?_; rintro e w5 ⟨rfl, rfl⟩)
        | (go_at_call 9; refine (awake16 _).mono ?_; rintro e w12 ⟨rfl, hb⟩))
      go_ret
      exact ⟨rfl, HB2.out.trans ((HG11.out.below hb).bel.mono HB2.out.size)⟩
    | some u =>
      have hf : findV l q = ((u : Int), 0) := by unfold findV; rw [if_neg hl0, hfz]
      obtain ⟨hul, hqe⟩ := way_find HWF.out (by omega) _ q u rfl hfz
      have hk1 := kfind_ok HG11.out.t D d q (HQ2.out.below HG11.out.bel (Nat.le_refl _)) (by omega) u 0 hf
      rw [hqn] at hk1
      have HK1 := Lib.hid hk1
      have hk2 := kpath_ok HG11.out.t few u hul
      have hql : (wayN l u).length = m := by rw [← hqn, hqe, length_nI]
      rw [← hqe, hql] at hk2
      have HK2 := Lib.hid hk2
      clear hk1 hf hfz hk2 hqe hql
      go_wp2_with (first
        | (go_at_call 17; refine HK1.out.mono ?_; rintro e w5 ⟨rfl, rfl⟩)
        | (go_at_call 13; refine HK2.out.mono ?_; rintro e w12 ⟨A12, c12, rfl, hls12, hb12⟩; have HG12 := Lib.hid (HG11.out.below hb12); have HS12 := Lib.hid hls12.sv; clear hls12)
        | (go_at_call 15; refine (same_true HS12.out (HQ2.out.below HG12.out.bel (Nat.le_refl _)) (by omega) rfl _ _ hqn.symm hqn.symm).mono ?_; rintro e w13 ⟨rfl, hb13⟩; have HG13 := Lib.hid (HG12.out.below hb13))
        | (go_at_call 9; refine (awake16 _).mono ?_; rintro e w14 ⟨rfl, hb⟩))
      go_ret
      exact ⟨rfl, HB2.out.trans ((HG13.out.below hb).bel.mono HB2.out.size)⟩
theorem kinWays_walk (W : World) (A : Option Addr) (n c : Nat) (z : List Int) (hmax : n ≤ maxLen) (F : Flat W A n z) (ab : List Int) (hab : ab.length = 2) (_w1 : ∀ x ∈ ab, (Lit.int .i64 x).wf = true) (D : Option Addr) (m d : Nat) (q : List Int) (hqm : m ≤ maxLen) (G : Flat W D m q) :
    Calls Try.prog 4 #[.slice A n c, .agg (ab.map (Value.int .i64)).toArray, .slice D m d] W fun e w' => e = .returned (.bool true) ∧ Below W.heap.size W w' := by
  obtain ⟨a, b, rfl⟩ : ∃ a b, ab = [a, b] := by
    match ab, hab with
    | [a, b], _ => exact ⟨a, b, rfl⟩
  exact kinWays_core W A n c z F.1 hmax F.sv a b D m d q G.1 hqm G.sv
end Go.Proofs.Ytogobpnbkmdnfaa
