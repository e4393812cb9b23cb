/-
  WHAT IS PROVED HERE: the walk of pelotonlaw16.KinOrders: true, whatever the input. Conditions: none.
-/
import Derived.Test.YtogobpnbkmdnfaaKinU
namespace Go.Proofs.Ytogobpnbkmdnfaa
open Go.RowKit

set_option maxRecDepth 20000 in
set_option maxHeartbeats 8000000 in
theorem kinOrders_core (W : World) (A : Option Addr) (n c : Nat) (z : List Int) (hzn : z.length = n) (hnm : n ≤ maxLen) (hz : Sv W A z) (a : Int) :
    Calls Try.prog 5 #[.slice A n c, .int .i64 a] W fun e w' => e = .returned (.bool true) ∧ Below W.heap.size W w' := by
  have hsm := small_ok W A c z hz (by omega)
  rw [hzn] at hsm
  have HSM := Lib.hid hsm
  clear hz hsm
  go_enter Try.func5, Try.ntmps5
  go_upto_region 4 with (first
    | (go_at_call 23; refine HSM.out.mono ?_; rintro e w8 ⟨A2, c2, l, rfl, hls, hwf, hl60, hb8⟩; have hgr := grow_ok w8 A2 c2 l hls.sv (by omega); rw [gl_wf_self hwf] at hgr; have HGR := Lib.hid hgr; clear hgr)
    | (go_at_call 10; refine HGR.out.mono ?_; rintro e w9 ⟨p, own, A1, c1, rfl, hg⟩))
  have HB8 := Lib.hid hb8
  have HG := Lib.hid hg
  have HWF := Lib.hid hwf
  clear hls hwf hb8 hg HGR HSM
  obtain ⟨N, hN⟩ : ∃ N, l.length = N := ⟨_, rfl⟩
  have few : l.length ≤ 1000 := by omega
  have hal : (allN l).length = N := by rw [allN_length HWF.out, hN]
  have hk1 := korder_ok HG.out.t few
  rw [hal] at hk1
  have HO1 := Lib.hid hk1
  have HAL := Lib.hid hal
  rw [hN] at hl60 ⊢
  have HN := Lib.hid hN
  have en : ((N : Int) != (N : Int)) = false := by simp
  clear hk1 hal hN
  go_upto_region 6 with (go_at_call 22; refine HO1.out.mono ?_; rintro e w10 ⟨A10, c10, rfl, hls10, hb10⟩)
  have HG10 := Lib.hid (HG.out.below hb10)
  have HL10 := Lib.hid hls10
  clear HG hb10 hls10 HO1
  go_upto_region 8 with fail
  by_cases h0 : N = 0
  · have e0 : ((N : Int) == 0) = true := by simp [h0]
    go_wp2_with (go_at_call 9; refine (awake16 _).mono ?_; rintro e w6 ⟨rfl, hb⟩)
    go_ret
    exact ⟨rfl, HB8.out.trans (((HG10.out.below hb).bel).mono HB8.out.size)⟩
  · have e0 : ((N : Int) == 0) = false := by simp; omega
    obtain ⟨a0, a1, a2, a3⟩ := brought (x := a) (k := N) (by omega)
    obtain ⟨ra, hra⟩ : ∃ r, a.tmod N = r := ⟨_, rfl⟩
    rw [hra] at a0 a1 a2 a3
    obtain ⟨x, hx⟩ : ∃ x : Nat, (ra + N).tmod N = x := ⟨((ra + N).tmod N).toNat, by omega⟩
    rw [hx] at a0 a1
    have hxN : x < N := by omega
    have hxl : x < l.length := by rw [HN.out]; omega
    have hlp : 0 < l.length := by omega
    have hnz : ¬ (N : Int) = 0 := by omega
    have qa : -1000000 ≤ ra + (N : Int) ∧ ra + (N : Int) ≤ 1000000 := by omega
    have WA := Lib.hid (wrap_small qa)
    have HRA := Lib.hid hra
    have HX := Lib.hid hx
    have hkl0 : (kN l x).length ≤ 60 := by have := kN_length l x; have := HN.out; omega
    -- the order lies in a block
    obtain ⟨gO, rfl, HRO⟩ : ∃ g, A10 = some ⟨g, 0, none⟩ ∧ Hid (Rw w10 g c10 3 (ints (nI (allN l)))) := by
      rcases HL10.out with ⟨_, _, e⟩ | ⟨g, e, h, _⟩
      · have := congrArg List.length e
        rw [length_nI, HAL.out] at this
        simp at this
        omega
      · exact ⟨g, e, Lib.hid h⟩
    have hgO := HRO.out.lt
    have hoc : N ≤ c10 := by have := HRO.out.room; rw [length_ints, length_nI, HAL.out] at this; exact this.1
    have hmk := kmake_ints N (by omega)
    have hb11 : Below w10.heap.size w10 (w10.alloc (.cells (ints (List.replicate N 0)).toArray 3)) := (Below.refl _ w10).alloc (Nat.le_refl _) _
    have hO : OrdW w8 (w10.alloc (.cells (ints (List.replicate N 0)).toArray 3)) p own A1 c1 l gO c10 w10.heap.size N (List.replicate N 0) := by
      refine ⟨HG10.out.below hb11, HRO.out.below hb11 HRO.out.lt, ?_, fun ho => ?_, fun e => ?_, by omega, HG10.out.bel.size⟩
      · have := Rw.of (Blk.new w10 3 (ints (List.replicate N 0))) (by rw [length_ints, List.length_replicate]; unfold maxLen; omega)
        rwa [length_ints, List.length_replicate] at this
      · have := HG10.out.t.lt _ ho; omega
      · have := HG10.out.ls.lt _ e; omega
    have HO := Lib.hid hO
    clear hra hx a0 a1 a2 a3 qa hO hb11 HL10
    go_upto_block 0 with fail
    generalize w10.alloc (.cells (ints (List.replicate N 0)).toArray 3) = w11 at *
    obtain ⟨gA, hgA⟩ : ∃ gA, w10.heap.size = gA := ⟨_, rfl⟩
    rw [hgA] at hgO HO ⊢
    clear hgA HRO HG10 hmk e0
    -- the places are filled with -1
    go_cut [11] from 40 to 47 (fun _ wa => Hid (OrdW w8 wa p own A1 c1 l gO c10 gA N (atV l 0)))
    case first =>
      -- PART L1
      go_wp2_with fail
      go_loopw [11] (fun i wr => ∃ (k : Nat) (xs : List Int), k ≤ N ∧ i = .int .i64 k ∧ xs.length = N ∧ Hid (∀ j, j < k → xs[j]? = some (-1)) ∧ Hid (OrdW w8 wr p own A1 c1 l gO c10 gA N xs)) (fun i _ => N - (intOf i).toNat)
      case atStart => exact ⟨0, List.replicate N 0, Nat.zero_le _, rfl, by simp, Lib.hid (fun j h => by omega), HO⟩
      case round =>
        clear HO
        obtain ⟨k, xs, hk, rfl, hxs, HX1, HO⟩ := hrel
        by_cases hlt : k < N
        · have hki : (k : Int) < (N : Int) := by omega
          obtain ⟨v, hv⟩ : ∃ v, xs[k]? = some v := ⟨xs[k], by simp [show k < xs.length by omega]⟩
          have cv := HO.out.cellA hv
          have fv := HO.out.a.frozen k
          have HO2 := Lib.hid (HO.out.set (j := k) (by omega) (-1))
          clear hv
          go_wp2_with fail
          go_roundw
          case rel =>
            refine ⟨k + 1, xs.set k (-1), by omega, by go_num, by simpa using hxs, Lib.hid (fun j hj => ?_), HO2⟩
            rw [List.getElem?_set]
            by_cases e : k = j
            · rw [if_pos e, if_pos (by omega)]
            · rw [if_neg e]; exact HX1.out j (by omega)
          case measure => simp [intOf]; omega
        · obtain rfl : k = N := by omega
          have hxe : xs = atV l 0 := by
            rw [atV_zero, HN.out]
            apply List.ext_getElem?
            intro j
            by_cases hj : j < k
            · rw [HX1.out j hj, List.getElem?_replicate, if_pos hj]
            · rw [List.getElem?_eq_none (by omega), List.getElem?_eq_none (by simp; omega)]
          rw [hxe] at HO
          clear hxe hxs HX1
          go_wp2_with fail
          go_meet
          case rel => exact HO
      -- END L1
    case rest =>
      clear HO
      have HO := hcut
      clear hcut
      go_upto_block 2 with fail
      go_cut [12] from 48 to 82 (fun _ wb => Hid (OrdW w8 wb p own A1 c1 l gO c10 gA N (atV l N)))
      case first =>
        -- PART L2
        go_wp2_with fail
        go_loopw [12] (fun i wr => ∃ (k : Nat), k ≤ N ∧ i = .int .i64 k ∧ Hid (OrdW w8 wr p own A1 c1 l gO c10 gA N (atV l k))) (fun i _ => N - (intOf i).toNat)
        case atStart => exact ⟨0, Nat.zero_le _, rfl, HO⟩
        case round =>
          clear HO
          obtain ⟨k, hk, rfl, HO⟩ := hrel
          by_cases hlt : k < N
          · have hki : (k : Int) < (N : Int) := by omega
            obtain ⟨y, hy1, hy2, hy3⟩ := allN_at HWF.out (k := k) (by rw [HN.out]; exact hlt)
            obtain ⟨s1, s2⟩ := atV_step HWF.out hy3 hy2
            have co := HO.out.cellO hy1
            have ca := HO.out.cellA s1
            have fa := HO.out.a.frozen y
            have hset := HO.out.set (j := y) (by rw [length_atV]; exact hy2) k
            rw [s2] at hset
            have HO2 := Lib.hid hset
            have hyN : y < N := by rw [← HN.out]; exact hy2
            have hyi : (y : Int) < (N : Int) := by omega
            have d1 : decide ((y : Int) < 0) = false := by simp
            have d2 : decide ((N : Int) ≤ (y : Int)) = false := by simp; omega
            have nO := HO.out.nO
            clear hy1 hy2 hy3 s1 s2 hset
            go_wp2_with fail
            go_roundw
            case rel => exact ⟨k + 1, by omega, by go_num, HO2⟩
            case measure => simp [intOf]; omega
          · obtain rfl : k = N := by omega
            go_wp2_with fail
            go_meet
            case rel => exact HO
        -- END L2
      case rest =>
        clear HO
        have HO := hcut
        clear hcut
        have hra := HRA.out
        have hx := HX.out
        have wa' := WA.out
        go_upto_region 22 with fail
        clear hra hx wa' HRA HX WA
        -- the kids
        obtain ⟨nk, hnk⟩ : ∃ nk, (kN l x).length = nk := ⟨_, rfl⟩
        rw [hnk] at hkl0
        have hk1 := kkids_ok HO.out.g.t few x
        rw [kidI_nat hxl, length_nI, hnk] at hk1
        have HK1 := Lib.hid hk1
        have HNK := Lib.hid hnk
        clear hk1 hnk
        go_upto_region 23 with (go_at_call 25; refine HK1.out.mono ?_; rintro e w13 ⟨A13, c13, rfl, hls13, hb13⟩)
        have HO13 := Lib.hid (HO.out.below hb13)
        have HL13 := Lib.hid hls13
        have hroom := hls13.room
        rw [length_nI, HNK.out] at hroom
        clear HO HK1 hb13 hls13
        obtain ⟨px, hpx⟩ : ∃ px : Int, (posN l x : Int) = px := ⟨_, rfl⟩
        have hpxN : 0 ≤ px ∧ px < N := by have := (pos_get HWF.out hxl).2; have := HN.out; omega
        have HPX := Lib.hid hpx
        have hax : (atV l N)[x]? = some px := by have := atV_all HWF.out hxl; rw [HN.out, hpx] at this; exact this
        have HAX := Lib.hid hax
        clear hpx hax
        go_upto_block 4 with fail
        go_cut [14] from 93 to 161 (fun _ wd => Hid (Below w13.heap.size w13 wd))
        case first =>
          -- PART L3
          go_wp2_with fail
          go_loopw [14] (fun i wr => ∃ (k : Nat), k ≤ nk ∧ i = .int .i64 k ∧ Hid (Below w13.heap.size w13 wr)) (fun i _ => nk - (intOf i).toNat)
          case atStart => exact ⟨0, Nat.zero_le _, rfl, Lib.hid (Below.refl _ _)⟩
          case round =>
            obtain ⟨k, hk, rfl, HB⟩ := hrel
            by_cases hlt : k < nk
            · have hki : (k : Int) < (nk : Int) := by omega
              obtain ⟨b, hb⟩ : ∃ b, (kN l x)[k]? = some b := ⟨(kN l x)[k]'(by rw [HNK.out]; exact hlt), by simp [HNK.out, hlt]⟩
              have hbl := (nthN_kid hb).1
              have hbN : b < N := by rw [← HN.out]; exact hbl
              obtain ⟨gk, rfl, ck⟩ := (HL13.out.below HB.out (Nat.le_refl _)).get (j := k) (x := b) (by rw [get_nI, hb]; rfl)
              have d1 : decide ((b : Int) < 0) = false := by simp
              have d2 : decide ((N : Int) ≤ (b : Int)) = false := by simp; omega
              have hbi : (b : Int) < (N : Int) := by omega
              have hxi : (x : Int) < (N : Int) := by omega
              obtain ⟨pb, hpb⟩ : ∃ pb : Int, (posN l b : Int) = pb := ⟨_, rfl⟩
              have hpbN : 0 ≤ pb ∧ pb < N := by have := (pos_get HWF.out hbl).2; have := HN.out; omega
              have HOr := HO13.out.below HB.out
              have cb := HOr.cellA (j := b) (x := pb) (by have := atV_all HWF.out hbl; rw [HN.out, hpb] at this; exact this)
              have cx := HOr.cellA HAX.out
              go_upto_region 28 with fail
              by_cases hk0 : k = 0
              · have hpf := pos_first HWF.out hxl (by rw [← hk0]; exact hb)
                have hpx := HPX.out
                have e2 : px + 1 = pb := by omega
                have e3 : (pb != pb) = false := by simp
                have hs : -1000000 ≤ px + 1 ∧ px + 1 ≤ 1000000 := by omega
                have e4 := wrap_small hs
                have g3 : ((k : Int) == 0) = true := by simp; omega
                have g4 : decide (0 < (k : Int)) = false := by simp; omega
                have g4' : decide (0 < k) = false := by simp; omega
                have c0 : wr.cell? ⟨gk, 0, none⟩ = some (.int .i64 b) := by rw [← hk0]; exact ck
                clear hb hpb hpf HOr hs hpx hk0
                -- PART Z
                go_quiet (fail)
                clear ck cb cx c0 e2 e3 e4 g3 g4 g4' d1 d2
                go_wp2_with fail
                go_roundw
                case rel => exact ⟨k + 1, by omega, by go_num, Lib.hid (HB.out.trans (below_drewN' (Below.refl _ wr) _ |>.mono HB.out.size))⟩
                case measure => simp [intOf]; omega
                -- END Z
              · obtain ⟨m, hmk⟩ : ∃ m, k = m + 1 := ⟨k - 1, by omega⟩
                have hm : m < nk := by omega
                obtain ⟨b', hb'⟩ : ∃ b', (kN l x)[m]? = some b' := ⟨(kN l x)[m]'(by rw [HNK.out]; exact hm), by simp [HNK.out, hm]⟩
                obtain ⟨q1, q2⟩ := pos_next HWF.out hxl hb' (by rw [← hmk]; exact hb)
                have hbl' := (nthN_kid hb').1
                have hbN' : b' < N := by rw [← HN.out]; exact hbl'
                obtain ⟨gk', e', ck'⟩ := (HL13.out.below HB.out (Nat.le_refl _)).get (j := m) (x := b') (by rw [get_nI, hb']; rfl)
                have e2' : gk = gk' := congrArg Addr.block (Option.some.inj e')
                subst e2'
                obtain ⟨pb', hpb'⟩ : ∃ pb' : Int, (posN l b' : Int) = pb' := ⟨_, rfl⟩
                have cb' := HOr.cellA (j := b') (x := pb') (by have := atV_all HWF.out hbl'; rw [HN.out, hpb'] at this; exact this)
                have g1 : decide (pb ≤ pb') = false := by rw [decide_eq_false_iff_not]; omega
                have g2 : decide ((b : Int) ≤ (b' : Int)) = false := by rw [decide_eq_false_iff_not]; omega
                have g2' : decide (b ≤ b') = false := by rw [decide_eq_false_iff_not]; omega
                have g3 : ((k : Int) == 0) = false := by rw [beq_eq_false_iff_ne]; omega
                have g4 : decide (0 < (k : Int)) = true := by rw [decide_eq_true_eq]; omega
                have g4' : decide (0 < k) = true := by rw [decide_eq_true_eq]; omega
                have g5 : (k : Int) - 1 = (m : Int) := by omega
                have hmi : (m : Int) < (nk : Int) := by omega
                have hbi' : (b' : Int) < (N : Int) := by omega
                clear hb hpb hb' hpb' HOr q1 q2 e' hk0 hmk
                -- PART S
                go_quiet (fail)
                clear ck cb cx ck' cb' g1 g2 g2' g3 g4 g4' g5 d1 d2
                go_wp2_with fail
                go_roundw
                case rel => exact ⟨k + 1, by omega, by go_num, Lib.hid (HB.out.trans (below_drewN' (Below.refl _ wr) _ |>.mono HB.out.size))⟩
                case measure => simp [intOf]; omega
                -- END S
            · obtain rfl : k = nk := by omega
              go_wp2_with fail
              go_meet
              case rel => exact HB
          -- END L3
        case rest =>
          have HO14 := Lib.hid (HO13.out.below hcut.out)
          clear HO13 HL13 hcut HNK
          -- how many descend of it
          obtain ⟨M, hM⟩ : ∃ M, (ordN l x).length = M := ⟨_, rfl⟩
          have hMN : M ≤ N := by rw [← hM, ← HN.out]; exact ordN_length HWF.out hxl
          have HM := Lib.hid hM
          clear hM
          go_upto_block 6 with fail
          go_cut [15, 16] from 162 to 172 (fun mv _ we => mv = .int .i64 M ∧ Hid (Below wc.heap.size wc we))
          case first =>
            -- PART L4
            go_wp2_with fail
            go_loopw [15, 16] (fun mv i wr => ∃ (k : Nat), k ≤ N ∧ i = .int .i64 k ∧ mv = .int .i64 (cntD l x k : Nat) ∧ Hid (Below wc.heap.size wc wr)) (fun _ i _ => N - (intOf i).toNat)
            case atStart => exact ⟨0, Nat.zero_le _, rfl, rfl, Lib.hid (Below.refl _ _)⟩
            case round =>
              obtain ⟨k, hk, rfl, rfl, HB⟩ := hrel
              by_cases hlt : k < N
              · have hki : (k : Int) < (N : Int) := by omega
                have hkl : k < l.length := by rw [HN.out]; exact hlt
                obtain ⟨v, hv⟩ : ∃ v, desc l k x = v := ⟨_, rfl⟩
                have hd := kdesc_ok (HO14.out.below HB.out).g.t (k : Int) (x : Int) v (by rw [descI_nat hkl hxl, hv])
                have HD := Lib.hid hd
                have hc := cntD_succ (l := l) x k
                rw [hv] at hc
                have hcl := cntD_le (l := l) x k
                obtain ⟨q, hq⟩ : ∃ q, cntD l x k = q := ⟨_, rfl⟩
                rw [hq] at hc hcl ⊢
                have HC := Lib.hid hc
                clear hd hv hc hq
                cases v with
                | true =>
                  have hce : cntD l x (k + 1) = q + 1 := by rw [HC.out]; rfl
                  have HCE := Lib.hid hce
                  clear hce HC
                  go_wp2_with (go_at_call 11; refine HD.out.mono ?_; rintro e w15 ⟨rfl, hb15⟩)
                  go_roundw
                  case rel => exact ⟨k + 1, by omega, by go_num, by rw [HCE.out]; go_num, Lib.hid (HB.out.trans (hb15.mono HB.out.size))⟩
                  case measure => simp [intOf]; omega
                | false =>
                  have hce : cntD l x (k + 1) = q := by rw [HC.out]; rfl
                  have HCE := Lib.hid hce
                  clear hce HC
                  go_wp2_with (go_at_call 11; refine HD.out.mono ?_; rintro e w15 ⟨rfl, hb15⟩)
                  go_roundw
                  case rel => exact ⟨k + 1, by omega, by go_num, by rw [HCE.out], Lib.hid (HB.out.trans (hb15.mono HB.out.size))⟩
                  case measure => simp [intOf]; omega
              · obtain rfl : k = N := by omega
                have hce : cntD l x k = M := by have := cntD_all HWF.out hxl; rw [HN.out, HM.out] at this; exact this
                rw [hce]
                clear hce
                go_wp2_with fail
                go_meet
                case rel => exact ⟨rfl, HB⟩
            -- END L4
          case rest =>
            obtain ⟨rfl, HB⟩ := hcut
            have HO15 := Lib.hid (HO14.out.below HB.out)
            clear HO14 HB
            -- PART L5
            go_wp2_with fail
            go_loopw [17] (fun i wr => ∃ (k : Nat), k ≤ N ∧ i = .int .i64 k ∧ Hid (Below wc.heap.size wc wr)) (fun i _ => N - (intOf i).toNat)
            case atStart => exact ⟨0, Nat.zero_le _, rfl, Lib.hid (Below.refl _ _)⟩
            case round =>
              obtain ⟨k, hk, rfl, HB⟩ := hrel
              by_cases hlt : k < N
              · have hki : (k : Int) < (N : Int) := by omega
                have hkl : k < l.length := by rw [HN.out]; exact hlt
                have hxi : (x : Int) < (N : Int) := by omega
                obtain ⟨pk, hpk⟩ : ∃ pk : Int, (posN l k : Int) = pk := ⟨_, rfl⟩
                have hpkN : 0 ≤ pk ∧ pk < N := by have := (pos_get HWF.out hkl).2; have := HN.out; omega
                have hpd : desc l k x = (decide (px ≤ pk) && decide (pk < px + (M : Int))) := by
                  rw [pos_desc HWF.out hxl hkl, Bool.eq_iff_iff, Bool.and_eq_true, Bool.and_eq_true, decide_eq_true_eq, decide_eq_true_eq, decide_eq_true_eq, decide_eq_true_eq]
                  have h1 := HPX.out
                  have h2 := HM.out
                  omega
                obtain ⟨v, hv⟩ : ∃ v, desc l k x = v := ⟨_, rfl⟩
                rw [hv] at hpd
                have HOk := Lib.hid (HO15.out.below HB.out)
                have HD : Hid (∀ pq : BelowOf wr, Calls Try.prog 11 #[.pointer (some ⟨p, 0, none⟩), .int .i64 k, .int .i64 x] pq.v fun e w' => e = .returned (.bool v) ∧ ∃ q2 : BelowOf wr, w' = q2.v) := Lib.hid (fun pq => Calls.below_of pq (kdesc_ok (HOk.out.below pq.bel).g.t (k : Int) (x : Int) v (by rw [descI_nat hkl hxl, hv])))
                have ck : ∀ pq : BelowOf wr, pq.v.cell? ⟨gA, k, none⟩ = some (.int .i64 pk) := fun pq => (HOk.out.below pq.bel).cellA (by have := atV_all HWF.out hkl; rw [HN.out, hpk] at this; exact this)
                have cx : ∀ pq : BelowOf wr, pq.v.cell? ⟨gA, x, none⟩ = some (.int .i64 px) := fun pq => (HOk.out.below pq.bel).cellA HAX.out
                have hs : -1000000 ≤ px + (M : Int) ∧ px + (M : Int) ≤ 1000000 := by omega
                have e4 := wrap_small hs
                have nv : (v != v) = false := by simp
                clear hpk hv hs
                go_upto_region 39 with fail
                by_cases hle : px ≤ pk
                · have t1 : decide (px ≤ pk) = true := decide_eq_true hle
                  have t2 : decide (pk < px + (M : Int)) = v := by rw [hpd, decide_eq_true hle, Bool.true_and]
                  clear hpd hle
                  refine wp_region_quiet_below (by kernel_rfl) (by kernel_rfl) ?_
                  repeat (go_big_quiet_step ((go_at_call 11; exact HD.out _)))
                  refine wpQuiet_nil ?_
                  intro _ hw'
                  obtain ⟨pq, hw''⟩ := hw'
                  subst hw''
                  have HB2 := Lib.hid (HB.out.trans (pq.bel.mono HB.out.size))
                  clear HD ck cx e4 t1 t2 nv HOk
                  generalize pq.v = w27 at *
                  clear pq HB
                  go_wp2_with fail
                  go_roundw
                  case rel => exact ⟨k + 1, by omega, by go_num, HB2⟩
                  case measure => simp [intOf]; omega
                · have t1 : decide (px ≤ pk) = false := decide_eq_false hle
                  rw [decide_eq_false hle, Bool.false_and] at hpd
                  subst hpd
                  clear hle
                  refine wp_region_quiet_below (by kernel_rfl) (by kernel_rfl) ?_
                  repeat (go_big_quiet_step ((go_at_call 11; exact HD.out _)))
                  refine wpQuiet_nil ?_
                  intro _ hw'
                  obtain ⟨pq, hw''⟩ := hw'
                  subst hw''
                  have HB2 := Lib.hid (HB.out.trans (pq.bel.mono HB.out.size))
                  clear HD ck cx e4 t1 nv HOk
                  generalize pq.v = w27 at *
                  clear pq HB
                  go_wp2_with fail
                  go_roundw
                  case rel => exact ⟨k + 1, by omega, by go_num, HB2⟩
                  case measure => simp [intOf]; omega
              · obtain rfl : k = N := by omega
                go_wp2_with (go_at_call 9; refine (awake16 _).mono ?_; rintro e w1 ⟨rfl, hb⟩)
                go_ret
                exact ⟨rfl, HB8.out.trans ((((HO15.out.below HB.out).below hb).g.bel).mono HB8.out.size)⟩
            -- END L5
theorem kinOrders_walk (W : World) (A : Option Addr) (n c : Nat) (z : List Int) (hmax : n ≤ maxLen) (F : Flat W A n z) (a : Int) :
    Calls Try.prog 5 #[.slice A n c, .int .i64 a] W fun e w' => e = .returned (.bool true) ∧ Below W.heap.size W w' :=
  kinOrders_core W A n c z F.1 hmax F.sv a
end Go.Proofs.Ytogobpnbkmdnfaa
