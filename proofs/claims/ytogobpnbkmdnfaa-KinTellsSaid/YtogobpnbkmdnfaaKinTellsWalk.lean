/-
  WHAT IS PROVED HERE: the walk of pelotonlaw16.KinTells: true, whatever the input. Conditions: none.
-/
import Derived.Test.YtogobpnbkmdnfaaKinM
namespace Go.Proofs.Ytogobpnbkmdnfaa
open Go.RowKit

set_option maxRecDepth 20000 in
set_option maxHeartbeats 4000000 in
theorem kinTells_core (W : World) (A : Option Addr) (n c : Nat) (z : List Int) (hzn : z.length = n) (hz : Sv W A z) (a b : Int) (D : Option Addr) (m d : Nat) (q : List Int) (hqn : q.length = m) (hqm : m ≤ maxLen) (hq : Sv W D q) :
    Calls Try.prog 3 #[.slice A n c, .agg #[.int .i64 a, .int .i64 b], .slice D m d] W fun e w' => e = .returned (.bool true) ∧ Below W.heap.size W w' := by
  have hbx : Blk (W.alloc (.cells #[.int .i64 a, .int .i64 b] 23)) W.heap.size 23 [.int .i64 a, .int .i64 b] := Blk.new W _ _
  have hb0 : Below W.heap.size W (W.alloc (.cells #[.int .i64 a, .int .i64 b] 23)) := (Below.refl _ W).alloc (Nat.le_refl _) _
  have hz1 := hz.alloc (.cells #[.int .i64 a, .int .i64 b] 23)
  have hq1 := hq.alloc (.cells #[.int .i64 a, .int .i64 b] 23)
  by_cases h60 : 60 < n
  · have d1 : decide ((60 : Int) < (n : Int)) = true := by simp; omega
    go_enter Try.func3, Try.ntmps3
    go_wp2_with (go_at_call 9; refine (awake16 _).mono ?_; rintro e w1 ⟨rfl, hb⟩)
    go_ret
    exact ⟨rfl, hb0.trans (hb.mono hb0.size)⟩
  · have d1 : decide ((60 : Int) < (n : Int)) = false := by simp; omega
    obtain ⟨W1, hW1⟩ : ∃ W1, W.alloc (.cells #[.int .i64 a, .int .i64 b] 23) = W1 := ⟨_, rfl⟩
    have hbl : W.heap.size < W1.heap.size := by rw [← hW1]; simp
    rw [hW1] at hbx hb0 hz1 hq1
    have hgr := grow_ok W1 A c z hz1 (by omega)
    have hll := gl_length z
    rw [hzn] at hgr hll
    generalize gl z = l at hgr hll
    have HGR := Lib.hid hgr
    clear hgr hz hz1 hq
    go_enter Try.func3, Try.ntmps3
    go_upto_region 4 with (go_at_call 10; go_loud (refine HGR.out.mono ?_; rintro e w1 ⟨p, own, A1, c1, rfl, hg⟩))
    clear hW1
    have hwf := hg.wf
    have HBX := Lib.hid hbx
    have HQ := Lib.hid hq1
    have HB0 := Lib.hid hb0
    -- who descends of whom
    obtain ⟨v, hv⟩ : ∃ v, descI l a b = v := ⟨_, rfl⟩
    have Q1 : Hid (∀ pq : BelowOf w1, Calls Try.prog 11 #[.pointer (some ⟨p, 0, none⟩), .int .i64 a, .int .i64 b] pq.v fun e w' => e = .returned (.bool v) ∧ ∃ q2 : BelowOf w1, w' = q2.v) := Lib.hid (fun pq => Calls.below_of pq (kdesc_ok (hg.below pq.bel).t a b v hv))
    have Q2 : Hid (∀ pq : BelowOf w1, Calls Try.prog 12 #[.slice A1 l.length c1, .int .i64 a, .int .i64 b] pq.v fun e w' => e = .returned (.bool v) ∧ ∃ q2 : BelowOf w1, w' = q2.v) := Lib.hid (fun pq => Calls.below_same pq (rdesc_ok hwf (by omega) _ (hg.below pq.bel).ls.sv a b v hv))
    have cc : ∀ (pq : BelowOf w1) (i : Nat), pq.v.cell? ⟨W.heap.size, i, none⟩ = [Value.int .i64 a, .int .i64 b][i]? := fun pq => (hbx.below (hg.below pq.bel).bel hbl).cell
    have e1 : (v != v) = false := by simp
    have HG := Lib.hid hg
    have HWF := Lib.hid hwf
    clear hg hbx hq1 hb0 hwf HGR hv
    refine wp_region_quiet_below (by kernel_rfl) (by kernel_rfl) ?_
    repeat (go_big_quiet_step (first
      | (go_at_call 11; exact Q1.out _)
      | (go_at_call 12; exact Q2.out _)))
    refine wpQuiet_nil ?_
    intro _ hw'
    obtain ⟨pq, hw''⟩ := hw'
    subst hw''
    have HG2 := Lib.hid (HG.out.below pq.bel)
    clear HG Q1 Q2 cc e1
    generalize pq.v = w2 at *
    clear pq
    have cb := (HBX.out.below HG2.out.bel hbl).cell
    -- the way
    obtain ⟨wy, hwy⟩ : ∃ wy, wayI l a = wy := ⟨_, rfl⟩
    obtain ⟨ec, hec⟩ : ∃ ec, wayC l a = ec := ⟨_, rfl⟩
    have hpa := kpath_any HG2.out.t (by omega) a
    rw [hwy, hec] at hpa
    obtain ⟨bi, hbi⟩ : ∃ bi, inK l.length a = bi := ⟨_, rfl⟩
    have HPA := Lib.hid hpa
    have HWY := Lib.hid hwy
    have HWC := Lib.hid hec
    have HBI := Lib.hid hbi
    clear hpa hwy hec hbi
    go_upto_region 7 with (go_at_call 13; refine HPA.out.mono ?_; rintro e w3 ⟨A3, c3, rfl, hls3, hb3⟩)
    have HG3 := Lib.hid (HG2.out.below hb3)
    have HS3 := Lib.hid hls3
    have cb3 := (HBX.out.below HG3.out.bel hbl).cell
    clear cb hb3 hls3 HPA HG2
    go_upto_if 55 with (go_at_call 14; refine (ris_ok l.length w3 a bi HBI.out).mono ?_; rintro e w4 ⟨rfl, rfl⟩)
    go_cut [66] from 56 to 73 (fun _ wc => Hid (GrW W1 wc p own A1 c1 l))
    case first =>
      have hwy := HWY.out
      have hec := HWC.out
      cases bi with
      | true =>
        obtain ⟨k, rfl, hk⟩ := inK_get HBI.out
        obtain ⟨f1, f2⟩ := wayI_nat hk
        rw [f1] at hwy
        obtain rfl : ec = 0 := by rw [← hec, f2]
        have hlw := wayN_length HWF.out hk
        have hlen : (wayN l k).length = wy.length := by rw [← hwy, length_nI]
        have hrp := rpath_ok (A := A1) (cap := c1) HWF.out (by omega) k w3 HG3.out.ls.sv hk
        rw [hlen, hwy] at hrp
        rw [hlen] at hlw
        have hwm : wy.length ≤ maxLen := by unfold maxLen; omega
        clear hlen hwy
        have HRP := Lib.hid hrp
        clear hrp hec f1 f2
        go_wp2_with (first
          | (go_at_call 16; refine HRP.out.mono ?_; rintro e w4 ⟨A4, c4, rfl, hls4, hb4⟩; have HG4 := Lib.hid (HG3.out.below hb4); have HS4 := Lib.hid (HS3.out.sv.below hb4 (Nat.le_refl _)); have HT4 := Lib.hid hls4.sv; clear hls4)
          | (go_at_call 15; refine (same_true HS4.out HT4.out hwm rfl _ _ rfl rfl).mono ?_; rintro e w5 ⟨rfl, hb5⟩; have HG5 := Lib.hid (HG4.out.below hb5)))
        go_meet
        case rel => exact HG5
      | false =>
        have f1 : wayI l a = [] := by unfold wayI; rw [HBI.out]; rfl
        obtain rfl : ec = 17 := by rw [← hec]; unfold wayC; rw [HBI.out]; rfl
        obtain rfl : wy = [] := by rw [← hwy, f1]
        simp only [List.length_nil]
        go_wp2_with fail
        go_meet
        case rel => exact HG3
    case rest =>
      have HG4 := hcut
      clear hcut HG3 HS3 cb3 HWY HWC HBI
      obtain ⟨u, hu⟩ : ∃ u, (findV l q).1 = u := ⟨_, rfl⟩
      obtain ⟨t, ht⟩ : ∃ t, (findV l q).2 = t := ⟨_, rfl⟩
      have hf : findV l q = (u, t) := by rw [← hu, ← ht]
      have hk1 := kfind_ok HG4.out.t D d q (HQ.out.below HG4.out.bel (Nat.le_refl _)) (by omega) u t hf
      have hk2 := rfind_ok (A := A1) (cap := c1) wc HG4.out.ls.sv (by omega) D d q (HQ.out.below HG4.out.bel (Nat.le_refl _)) (by omega) u t hf
      rw [hqn] at hk1 hk2
      have HK1 := Lib.hid hk1
      have HK2 := Lib.hid hk2
      have e1 : (u != u) = false := by simp
      have e2 : (t != t) = false := by simp
      clear hu ht hf hk1 hk2
      go_upto_region 16 with (first
        | (go_at_call 17; refine HK1.out.mono ?_; rintro e w5 ⟨rfl, rfl⟩)
        | (go_at_call 18; refine HK2.out.mono ?_; rintro e w6 ⟨rfl, hb6⟩; have HG6 := Lib.hid (HG4.out.below hb6)))
      clear HG4 HK1 HK2 e1 e2 hb6
      -- the order
      have hal := allN_length HWF.out
      have hro := rord0_ok (A := A1) (cap := c1) HWF.out (by omega) HG6.out.ls.sv
      rw [hal] at hro
      have HAL := Lib.hid hal
      have HRO := Lib.hid hro
      clear hal hro
      go_upto_region 17 with (go_at_call 19; refine HRO.out.mono ?_; rintro e w7 ⟨A7, c7, rfl, hls7, hb7⟩)
      have HG7 := Lib.hid (HG6.out.below hb7)
      have HS7 := Lib.hid hls7
      clear HG6 HRO hb7 hls7
      go_wp2_with (go_at_call 21; refine (all_any _ w7).mono ?_; rintro e w8 ⟨rfl, hw8⟩)
      have hb8 : Below w7.heap.size w7 w8 := by rw [← hw8]; exact (Below.refl _ w7).alloc (Nat.le_refl _) _
      have hbx8 : Blk w8 w7.heap.size 25 [.pointer (some ⟨p, 0, none⟩)] := by rw [← hw8]; exact Blk.new w7 _ _
      have HG8 := Lib.hid (HG7.out.below hb8)
      have HS8 := Lib.hid (HS7.out.below hb8 (Nat.le_refl _))
      have hpr := kpairs_ok HG8.out.t (by omega) 100 (by omega) hbx8
      rw [List.take_of_length_le (by rw [HAL.out]; omega), HAL.out] at hpr
      have HPR := Lib.hid hpr
      clear HG7 HS7 hpr hbx8 hb8 hw8
      go_upto_region 18 with (go_at_call 20; refine HPR.out.mono ?_; rintro e w9 ⟨gp, cp, rfl, hpw, hgp, hb9⟩)
      have HG9 := Lib.hid (HG8.out.below hb9)
      have HS9 := Lib.hid (HS8.out.below hb9 (Nat.le_refl _))
      have HP9 := Lib.hid hpw
      have hko := korder_ok HG9.out.t (by omega)
      rw [HAL.out] at hko
      have HKO := Lib.hid hko
      have e3 : ((l.length : Int) != (l.length : Int)) = false := by simp
      clear HG8 HS8 HPR hpw hgp hb9 hko
      go_upto_region 20 with (first
        | (go_at_call 22; refine HKO.out.mono ?_; rintro e w10 ⟨A10, c10, rfl, hls10, hb10⟩; have HG10 := Lib.hid (HG9.out.below hb10); have HS10 := Lib.hid (HS9.out.below hb10 (Nat.le_refl _)); have HP10 := Lib.hid (HP9.out.below hb10 HP9.out.lt); have HO10 := Lib.hid hls10.sv; clear hls10)
        | (go_at_call 15; refine (same_true HO10.out HS10.out.sv (by rw [length_nI, HAL.out]; unfold maxLen; omega) rfl _ _ (by rw [length_nI, HAL.out]) (by rw [length_nI, HAL.out])).mono ?_; rintro e w11 ⟨rfl, hb11⟩; have HG11 := Lib.hid (HG10.out.below hb11); have HS11 := Lib.hid (HS10.out.below hb11 (Nat.le_refl _)); have HP11 := Lib.hid (HP10.out.below hb11 HP10.out.lt)))
      have hroom := HP11.out.room
      have hplen : l.length ≤ cp := by
        obtain ⟨rest, _, h⟩ := HP11.out.blk
        omega
      clear HG9 HS9 HP9 HKO HG10 HS10 HP10 HO10 hb10 hb11 e3
      go_wp2_with fail
      go_loopw [17] (fun i wr => ∃ k : Nat, k ≤ l.length ∧ i = .int .i64 k ∧ Hid (Below w11.heap.size w11 wr)) (fun i _ => l.length - (intOf i).toNat)
      case atStart => exact ⟨0, Nat.zero_le _, rfl, Lib.hid (Below.refl _ _)⟩
      case round =>
        obtain ⟨k, hk, rfl, HB⟩ := hrel
        by_cases hlt : k < l.length
        · have hki : (k : Int) < (l.length : Int) := by omega
          obtain ⟨x, hx⟩ : ∃ x, (allN l)[k]? = some x := ⟨(allN l)[k]'(by rw [HAL.out]; exact hlt), by simp [HAL.out, hlt]⟩
          have hxl : x < l.length := by
            have hm := List.mem_of_getElem? hx
            unfold allN at hm
            rw [if_neg (by intro e; rw [e] at hlt; simp at hlt)] at hm
            exact ((ordN_root HWF.out (by omega)).2 x).1 hm
          obtain ⟨q0, q1⟩ := get_pcs l (allN l) hx
          have hpr := HP11.out.below HB.out HP11.out.lt
          have c0 := hpr.cell q0
          have c1' := hpr.cell q1
          obtain ⟨g7, rfl, c7'⟩ := (HS11.out.below HB.out (Nat.le_refl _)).get (j := k) (x := x) (by rw [get_nI, hx]; rfl)
          obtain ⟨g1, rfl, cx⟩ := (HG11.out.below HB.out).get hxl
          have hxi : (x : Int) < (l.length : Int) := by omega
          clear hx q0 q1 hpr
          go_upto_region 23 with fail
          have hne := ne_pairs_same x (parN l x)
          go_quiet (fail)
          clear c0 c1' c7' cx hne
          go_wp2_with fail
          go_roundw
          case rel => exact ⟨k + 1, by omega, by go_num, Lib.hid (HB.out.trans (below_drewN' (Below.refl _ wr) _ |>.mono HB.out.size))⟩
          case measure => simp [intOf]; omega
        · obtain rfl : k = l.length := by omega
          go_wp2_with (go_at_call 9; refine (awake16 _).mono ?_; rintro e w1 ⟨rfl, hb⟩)
          go_ret
          exact ⟨rfl, HB0.out.trans (((HG11.out.below HB.out).below hb).bel.mono HB0.out.size)⟩
theorem kinTells_walk (W : World) (A : Option Addr) (n c : Nat) (z : List Int) (_hmax : n ≤ maxLen) (F : Flat W A n z) (ab : List Int) (hab : ab.length = 2) (_w1 : ∀ x ∈ ab, (Lit.int .i64 x).wf = true) (D : Option Addr) (m d : Nat) (q : List Int) (hqm : m ≤ maxLen) (G : Flat W D m q) :
    Calls Try.prog 3 #[.slice A n c, .agg (ab.map (Value.int .i64)).toArray, .slice D m d] W fun e w' => e = .returned (.bool true) ∧ Below W.heap.size W w' := by
  obtain ⟨a, b, rfl⟩ : ∃ a b, ab = [a, b] := by
    match ab, hab with
    | [a, b], _ => exact ⟨a, b, rfl⟩
  exact kinTells_core W A n c z F.1 F.sv a b D m d q G.1 hqm G.sv
end Go.Proofs.Ytogobpnbkmdnfaa
