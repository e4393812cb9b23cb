/-
  WHAT IS PROVED HERE: the walk of pelotonlaw16.KinGrows: true, whatever the input. Conditions: none.
-/
import Derived.Test.YtogobpnbkmdnfaaKinV
namespace Go.Proofs.Ytogobpnbkmdnfaa
open Go.RowKit

theorem Ls.nocap {w : World} {B cap : Nat} {A : Option Addr} {xs : List Int} (h : Ls w B A cap xs) : A = none → cap = 0 := fun e => by
  rcases h with ⟨_, e2, _⟩ | ⟨g, e2, _, _⟩
  · exact e2
  · rw [e2] at e; cases e
set_option maxRecDepth 20000 in
set_option maxHeartbeats 8000000 in
theorem kinGrows_core (W : World) (A : Option Addr) (n c : Nat) (z : List Int) (hzn : z.length = n) (hnm : n ≤ maxLen) (hz : Sv W A z) (a : Int) :
    Calls Try.prog 7 #[.slice A n c, .int .i64 a] W fun e w' => e = .returned (.bool true) ∧ Below W.heap.size W w' := by
  have hsm := small_ok W A c z hz (by omega)
  rw [hzn] at hsm
  have HSM := Lib.hid hsm
  clear hz hsm
  go_enter Try.func7, Try.ntmps7
  go_upto_region 4 with (first
    | (go_at_call 23; refine HSM.out.mono ?_; rintro e w8 ⟨A2, c2, l, rfl, hls, hwf, hl60, hb8⟩; have hgr := grow_ok w8 A2 c2 l hls.sv (by omega); rw [gl_wf_self hwf] at hgr; have HGR := Lib.hid hgr; clear hgr)
    | (go_at_call 10; refine HGR.out.mono ?_; rintro e w9 ⟨p, own, A1, c1, rfl, hg⟩))
  have HB8 := Lib.hid hb8
  have HG := Lib.hid hg
  have HWF := Lib.hid hwf
  clear hls hwf hb8 hg HGR HSM
  obtain ⟨N, hN⟩ : ∃ N, l.length = N := ⟨_, rfl⟩
  have few : l.length ≤ 1000 := by omega
  have hal : (allN l).length = N := by rw [allN_length HWF.out, hN]
  have HAL := Lib.hid hal
  rw [hN] at hl60 ⊢
  have HN := Lib.hid hN
  clear hal hN
  go_upto_region 5 with fail
  by_cases h0 : N = 0
  · have e0 : ((N : Int) == 0) = true := by simp [h0]
    go_wp2_with (go_at_call 9; refine (awake16 _).mono ?_; rintro e w6 ⟨rfl, hb⟩)
    go_ret
    exact ⟨rfl, HB8.out.trans (((HG.out.below hb).bel).mono HB8.out.size)⟩
  · have e0 : ((N : Int) == 0) = false := by simp; omega
    obtain ⟨a0, a1, a2, a3⟩ := brought (x := a) (k := N) (by omega)
    obtain ⟨ra, hra⟩ : ∃ r, a.tmod N = r := ⟨_, rfl⟩
    rw [hra] at a0 a1 a2 a3
    obtain ⟨x, hx⟩ : ∃ x : Nat, (ra + N).tmod N = x := ⟨((ra + N).tmod N).toNat, by omega⟩
    rw [hx] at a0 a1
    have hxN : x < N := by omega
    have hxl : x < l.length := by rw [HN.out]; omega
    have hnz : ¬ (N : Int) = 0 := by omega
    obtain ⟨N1, hN1, hN1'⟩ : ∃ N1 : Nat, (N : Int) + 1 = N1 ∧ N1 = N + 1 := ⟨N + 1, rfl, rfl⟩
    have HN1 := Lib.hid hN1
    have HN1' := Lib.hid hN1'
    have hNN1 : N < N1 := by omega
    have hN161 : N1 ≤ 61 := by omega
    have few2 : (l ++ [(x : Int)]).length ≤ 1000 := by have := HN.out; rw [snoc_len]; omega
    have hkl0 : (kN l x).length ≤ 60 := by have := kN_length l x; have := HN.out; omega
    have hwl0 : (wayN l x).length ≤ 60 := by have := wayN_length HWF.out hxl; omega
    have hxi : (x : Int) < (N : Int) := by omega
    have qa : -1000000 ≤ ra + (N : Int) ∧ ra + (N : Int) ≤ 1000000 := by omega
    have wa := wrap_small qa
    clear a0 a1 a2 a3 qa hN1 hN1'
    go_upto_region 8 with fail
    clear hra hx wa hnz e0
    -- the order
    have hk1 := korder_ok HG.out.t few
    rw [HAL.out] at hk1
    have HO1 := Lib.hid hk1
    clear hk1
    go_upto_region 9 with (go_at_call 22; refine HO1.out.mono ?_; rintro e w10 ⟨A10, c10, rfl, hls10, hb10⟩)
    have HG10 := Lib.hid (HG.out.below hb10)
    have HL10 := Lib.hid hls10
    have hOB : Hid (∀ k, own k → k < w9.heap.size) := Lib.hid HG.out.t.lt
    have hOF : Hid (∀ k, own k → w8.heap.size ≤ k) := Lib.hid HG.out.far
    have hs910 := hb10.size
    have hwy : WyW (w10.alloc (.cells #[] 22)) w10.heap.size l w10.heap.size 0 0 [] := WyW.nil w10 l
    have hbe : Below w10.heap.size w10 (w10.alloc (.cells #[] 22)) := (Below.refl _ w10).alloc (Nat.le_refl _) _
    have HWY := Lib.hid hwy
    have HBE := Lib.hid hbe
    clear HG hb10 hls10 HO1 hwy hbe
    -- the ways
    go_upto_block 0 with fail
    go_cut [10] from 48 to 64 (fun y wa => ∃ (g c : Nat) (vs : List Value), y = .slice (some ⟨g, 0, none⟩) N c ∧ Hid (WyW wa w10.heap.size l g c N vs) ∧ Hid (Below w10.heap.size w10 wa))
    case first =>
      -- PART L1
      go_wp2_with fail
      go_loopw [10, 11] (fun y i wr => ∃ (k g c : Nat) (vs : List Value), k ≤ N ∧ i = .int .i64 k ∧ y = .slice (some ⟨g, 0, none⟩) k c ∧ Hid (WyW wr w10.heap.size l g c k vs) ∧ Hid (Below w10.heap.size w10 wr)) (fun _ i _ => N - (intOf i).toNat)
      case atStart => exact ⟨0, _, 0, [], Nat.zero_le _, rfl, rfl, HWY, HBE⟩
      case round =>
        clear HWY HBE
        obtain ⟨k, g, cg, vs, hk, rfl, rfl, HWY, HB⟩ := hrel
        by_cases hlt : k < N
        · have hki : (k : Int) < (N : Int) := by omega
          have hkl : k < l.length := by rw [HN.out]; exact hlt
          have hk1 := kpath_ok (HG10.out.below HB.out).t few k hkl
          have HP1 := Lib.hid hk1
          clear hk1
          go_upto_region 16 with (go_at_call 13; refine HP1.out.mono ?_; rintro e w12 ⟨A12, c12, rfl, hls12, hb12⟩)
          have HB12 := Lib.hid (HB.out.trans (hb12.mono HB.out.size))
          have hba : Below w12.heap.size w12 (w12.alloc (.cells #[.slice A12 (wayN l k).length c12] 22)) := (Below.refl _ w12).alloc (Nat.le_refl _) _
          have HWY12 := Lib.hid ((HWY.out.below hb12).below hba)
          have HL12 := Lib.hid ((hls12.mono HB.out.size).below hba (Nat.le_refl _))
          have hne : A12 ≠ some ⟨g, 0, none⟩ := fun e => by
            have h1 := hls12.at_ g e
            have h2 := HWY.out.row.lt
            omega
          have HNE := Lib.hid hne
          have nb : (w12.alloc (.cells #[.slice A12 (wayN l k).length c12] 22)).cell? ⟨w12.heap.size, 0, none⟩ = some (.slice A12 (wayN l k).length c12) := (Blk.new w12 22 [.slice A12 (wayN l k).length c12]).cell 0
          have HNB := Lib.hid nb
          have HBA := Lib.hid (HB12.out.alloc HB12.out.size (.cells #[.slice A12 (wayN l k).length c12] 22))
          have hvl := HWY.out.len
          have HVL := Lib.hid hvl
          clear hls12 hba hne nb HP1 hvl hb12 HWY HB
          go_wp2_with (at_builtin; go_loud (refine wpList_append_wy _ rfl (.tmp 61) (.tmp 63) rfl g cg k vs rfl HVL.out.symm HWY12.out.row w12.heap.size A12 (wayN l k).length c12 rfl HNB.out (by rw [HVL.out]; omega) ?_); intro g2 cg2 w13 hr hk13 hw13 hl13; have HR := Lib.hid hr; have HK13 := Lib.hid hk13; have HW13 := Lib.hid hw13; clear hr hk13 hw13)
          go_roundw
          case rel =>
            refine ⟨k + 1, g2, cg2, _, by omega, by go_num, rfl, Lib.hid (HWY12.out.next HL12.out HNE.out HR.out HK13.out (HW13.out.imp id (fun e => by rw [e]; exact Nat.le_refl _)) HBA.out.size), Lib.hid (HBA.out.trans (HK13.out.below HBA.out.size (fun q e => by rw [e]; exact HWY12.out.gB)))⟩
          case measure => simp [intOf]; omega
        · obtain rfl : k = N := by omega
          go_wp2_with fail
          go_meet
          case rel => exact ⟨g, cg, vs, rfl, HWY, HB⟩
      -- END L1
    case rest =>
      clear HWY HBE
      obtain ⟨g, cg, vs, rfl, HWY, HB⟩ := hcut
      have HG11 := Lib.hid (HG10.out.below HB.out)
      have HL11 := Lib.hid (HL10.out.below HB.out (Nat.le_refl _))
      clear HG10 HL10 HB
      -- PART R1
      generalize wc = w11 at *
      obtain ⟨nk, hnk⟩ : ∃ nk, (kN l x).length = nk := ⟨_, rfl⟩
      rw [hnk] at hkl0
      have hk1 := kkids_ok HG11.out.t few x
      rw [kidI_nat hxl, length_nI, hnk] at hk1
      have HK1 := Lib.hid hk1
      have HNK := Lib.hid hnk
      clear hk1 hnk
      go_upto_region 18 with (go_at_call 25; refine HK1.out.mono ?_; rintro e w13 ⟨A13, c13, rfl, hls13, hb13⟩)
      have HG13 := Lib.hid (HG11.out.below hb13)
      have HL13 := Lib.hid (HL11.out.below hb13 (Nat.le_refl _))
      have HWY13 := Lib.hid (HWY.out.below hb13)
      clear HG11 HL11 HWY hls13 hb13 HK1
      -- Add
      have hk1 := kadd_more HG13.out.t few x hxl
      rw [HN.out] at hk1
      have HA1 := Lib.hid hk1
      clear hk1
      go_upto_region 19 with (go_at_call 28; refine HA1.out.mono ?_; rintro e w14 ⟨own', rfl, hT14, hk14⟩)
      have HT14 := Lib.hid hT14
      have HB14 : Hid (Below w8.heap.size w8 w14) := Lib.hid (HG13.out.bel.trans (hk14.below HG13.out.bel.size hOF.out))
      have HL14 := Lib.hid (HL13.out.kept hk14 (fun q e ho => by have h1 := hOB.out q ho; have h2 := HL13.out.at_ q e; omega))
      have HWY14 := Lib.hid (HWY13.out.kept hk14 (fun q ho => by have h1 := hOB.out q ho; omega))
      clear HG13 HL13 HWY13 hT14 hk14 HA1 hOB hOF
      obtain ⟨L, hL⟩ : ∃ L, l ++ [(x : Int)] = L := ⟨_, rfl⟩
      have HL := Lib.hid hL
      have hLl : L.length = N + 1 := by rw [← hL, snoc_len, HN.out]
      have HLL := Lib.hid hLl
      have hLw : WfP L := by rw [← hL]; exact snoc_wf HWF.out hxl
      have HLW := Lib.hid hLw
      rw [hL] at few2 HT14
      have hNL : N < L.length := by omega
      -- the new one
      have hk1 := kparent_ok HT14.out (N : Int)
      rw [parI_nat hNL, show parN L N = (x : Int) by rw [← hL, ← HN.out, parN_new]] at hk1
      have HPA := Lib.hid hk1
      have hkn : kN L N = [] := by rw [← hL, ← HN.out]; exact snoc_kids_new HWF.out hxl
      have HKN := Lib.hid hkn
      have e1 : ((N : Int) != (N : Int)) = false := by simp
      have e2 : ((x : Int) != (x : Int)) = false := by simp
      clear hk1 hkn hL hLl hLw
      go_upto_if 95 with (first
        | (go_at_call 26; refine HPA.out.mono ?_; rintro e w15 ⟨rfl, hb15⟩; have HT15 := Lib.hid (HT14.out.below hb15 (Nat.le_refl _)); have HB15 := Lib.hid (HB14.out.trans (hb15.mono HB14.out.size)); have HL15 := Lib.hid (HL14.out.below hb15 (Nat.le_refl _)); have HWY15 := Lib.hid (HWY14.out.below hb15); have hk1 := kkids_ok HT15.out few2 (N : Int); rw [kidI_nat hNL, HKN.out] at hk1; have HK2 := Lib.hid hk1; clear hk1 hb15)
        | (go_at_call 25; refine HK2.out.mono ?_; rintro e w16 ⟨A16, c16, rfl, hls16, hb16⟩))
      have HT16 := Lib.hid (HT15.out.below hb16 (Nat.le_refl _))
      have HB16 := Lib.hid (HB15.out.trans (hb16.mono HB15.out.size))
      have HL16 := Lib.hid (HL15.out.below hb16 (Nat.le_refl _))
      have HWY16 := Lib.hid (HWY15.out.below hb16)
      clear HT14 HB14 HL14 HWY14 HT15 HB15 HL15 HWY15 HPA HKN HK2 hls16 hb16 e2
      -- the order behind it
      have hal : (allN L).length = N1 := by rw [allN_length HLW.out, HLL.out, HN1'.out]
      have hbl : Below w16.heap.size w16 (w16.alloc (.cells #[] 3)) := (Below.refl _ w16).alloc (Nat.le_refl _) _
      have hl0 : Ls (w16.alloc (.cells #[] 3)) w16.heap.size (some ⟨w16.heap.size, 0, none⟩) 0 [] := .inr ⟨w16.heap.size, rfl, Rw.of (Blk.new w16 3 []) (Nat.zero_le _), Nat.le_refl _⟩
      have hk1 := korder_ok (HT16.out.below hbl (Nat.le_refl _)) few2
      rw [hal] at hk1
      have HO2 := Lib.hid hk1
      have HALL := Lib.hid hal
      have HBL := Lib.hid hbl
      have HL0 := Lib.hid hl0
      clear hk1 hal hbl hl0
      go_upto_region 23 with (go_at_call 22; refine HO2.out.mono ?_; rintro e w17 ⟨A17, c17, rfl, hls17, hb17⟩)
      obtain ⟨gN, rfl, HRN⟩ : ∃ q, A17 = some ⟨q, 0, none⟩ ∧ Hid (Ls w17 w16.heap.size (some ⟨q, 0, none⟩) c17 (nI (allN L))) := by
        have h2 := hls17.mono HBL.out.size
        rcases hls17 with ⟨_, _, e⟩ | ⟨q, e, h, _⟩
        · have := congrArg List.length e
          rw [length_nI, HALL.out] at this
          simp at this
          omega
        · exact ⟨q, e, Lib.hid (e ▸ h2)⟩
      have hgN : (some ⟨w16.heap.size, 0, none⟩ : Option Addr) ≠ some ⟨gN, 0, none⟩ := fun e => by
        have h1 := hls17.at_ gN rfl
        rw [World.size_alloc] at h1
        have h2 : w16.heap.size = gN := congrArg Addr.block (Option.some.inj e)
        omega
      have HGN := Lib.hid hgN
      have HB17 := Lib.hid (HBL.out.trans (hb17.mono HBL.out.size))
      have HL17 := Lib.hid (HL0.out.below hb17 (Nat.le_refl _))
      have hnc : N1 ≤ c17 := by have := hls17.room; rw [length_nI, HALL.out] at this; exact this.1
      clear hls17 hb17 hgN HO2 HBL HL0
      go_upto_block 2 with fail
      go_cut [17] from 99 to 117 (fun y wa => ∃ (A' : Option Addr) (c' : Nat), y = .slice A' N c' ∧ Hid (Ls wa w16.heap.size A' c' (nI (allN l))) ∧ Hid (Below w16.heap.size w16 wa))
      case first =>
        -- PART L2
        go_wp2_with fail
        go_loopw [17, 19] (fun y i wr => ∃ (k : Nat) (A' : Option Addr) (c' m : Nat), k ≤ N1 ∧ i = .int .i64 k ∧ y = .slice A' m c' ∧ Hid (m = (leftN (allN L) N k).length) ∧ Hid (Ls wr w16.heap.size A' c' (nI (leftN (allN L) N k))) ∧ Hid (Ls wr w16.heap.size (some ⟨gN, 0, none⟩) c17 (nI (allN L))) ∧ Hid (A' ≠ some ⟨gN, 0, none⟩) ∧ Hid (Below w16.heap.size w16 wr)) (fun _ i _ => N1 - (intOf i).toNat)
        case atStart => exact ⟨0, _, 0, 0, Nat.zero_le _, rfl, rfl, Lib.hid rfl, HL17, HRN, HGN, HB17⟩
        case round =>
          clear HL17 HRN HGN HB17
          obtain ⟨k, A', c', m, hk, rfl, rfl, HM, HLf, HRN, HGN, HB⟩ := hrel
          by_cases hlt : k < N1
          · have hki : (k : Int) < (N1 : Int) := by omega
            obtain ⟨y, hy⟩ : ∃ y, (allN L)[k]? = some y := ⟨(allN L)[k]'(by rw [HALL.out]; exact hlt), by simp [HALL.out, hlt]⟩
            have cy : wr.cell? ⟨gN, k, none⟩ = some (.int .i64 (y : Int)) := by
              obtain ⟨q, e, h⟩ := HRN.out.get (j := k) (x := (y : Int)) (by rw [get_nI, hy]; rfl)
              have e2 : gN = q := congrArg Addr.block (Option.some.inj e)
              subst e2; exact h
            have hst := leftN_step (n := N) hy
            have hll := leftN_len (allN L) N k
            rw [HALL.out] at hll
            have HST := Lib.hid hst
            by_cases hyN : y = N
            · have d1 : ((y : Int) != (N : Int)) = false := by rw [hyN]; simp
              have hse : leftN (allN L) N (k + 1) = leftN (allN L) N k := by rw [HST.out, if_pos hyN]
              have HSE := Lib.hid hse
              clear hy hst hyN hse
              go_wp2_with fail
              go_roundw
              case rel => exact ⟨k + 1, A', c', m, by omega, by go_num, rfl, by rw [HSE.out]; exact HM, by rw [HSE.out]; exact HLf, HRN, HGN, HB⟩
              case measure => simp [intOf]; omega
            · have d1 : ((y : Int) != (N : Int)) = true := by simp; omega
              have hse : leftN (allN L) N (k + 1) = leftN (allN L) N k ++ [y] := by rw [HST.out, if_neg hyN]
              have HSE := Lib.hid hse
              have hba : Below wr.heap.size wr (wr.alloc (.cells #[.int .i64 (y : Int)] 3)) := (Below.refl _ wr).alloc (Nat.le_refl _) _
              have HLA := Lib.hid (HLf.out.below hba (Nat.le_refl _))
              have HRA := Lib.hid (HRN.out.below hba (Nat.le_refl _))
              have HBA := Lib.hid (HB.out.alloc HB.out.size (.cells #[.int .i64 (y : Int)] 3))
              have NB := Lib.hid (one_cell ((Blk.new wr 3 [.int .i64 (y : Int)]).cell 0))
              have hgl := HRN.out.lt gN rfl
              have hm1 : m ≤ 61 := by rw [HM.out]; omega
              clear hy hst hyN hse hba hll
              go_wp2_with (at_builtin; go_loud (refine wpList_append_ls _ rfl (.tmp 111) (.tmp 116) rfl (nI (leftN (allN L) N k)) HLA.out m (by rw [length_nI, HM.out]) rfl HBA.out.size ⟨wr.heap.size, 0, none⟩ 1 1 [(y : Int)] rfl rfl (by omega) NB.out (by omega) ?_); intro g2 c2 w2 h2 hk2 hw2 hl2; have H2 := Lib.hid h2; have HK2 := Lib.hid hk2; have HW2 := Lib.hid hw2; clear h2 hk2 hw2)
              go_roundw
              case rel =>
                refine ⟨k + 1, _, c2, m + 1, by omega, by go_num, rfl, Lib.hid (by rw [HSE.out, HM.out, List.length_append]; rfl), ?_, Lib.hid (HRA.out.kept HK2.out (fun q e e2 => HGN.out (by rw [e2, ← e]))), Lib.hid (fun e => ?_), Lib.hid (HBA.out.trans (HK2.out.below HBA.out.size HLA.out.at_))⟩
                · rw [HSE.out, nI_append]; exact Lib.hid H2.out
                · rcases HW2.out with e2 | e2
                  · exact HGN.out (e2.trans e)
                  · have e3 : g2 = gN := congrArg Addr.block (Option.some.inj e)
                    rw [World.size_alloc] at e2
                    omega
              case measure => simp [intOf]; omega
          · obtain rfl : k = N1 := by omega
            have hfin : leftN (allN L) N k = allN l := by
              unfold leftN
              rw [List.take_of_length_le (by rw [HALL.out]; exact Nat.le_refl _), ← HL.out, ← HN.out]
              exact snoc_all HWF.out hxl
            rw [hfin] at HM HLf
            have hm2 : m = N := by rw [HM.out, HAL.out]
            subst hm2
            clear hfin HM
            go_wp2_with fail
            go_meet
            case rel => exact ⟨A', c', rfl, HLf, HB⟩
        -- END L2
      case rest =>
        clear HL17 HRN HGN HB17
        obtain ⟨A18, c18, rfl, HL18, HB18⟩ := hcut
        have HT18 := Lib.hid (HT16.out.below HB18.out (Nat.le_refl _))
        have HBB18 := Lib.hid (HB16.out.trans (HB18.out.mono HB16.out.size))
        have HWS18 := Lib.hid (HL16.out.below HB18.out (Nat.le_refl _))
        have HWY18 := Lib.hid (HWY16.out.below HB18.out)
        clear HT16 HB16 HL16 HWY16 HB18
        -- PART R2
        have hn1 := HN1.out
        have e3 : ((N1 : Int) != (N1 : Int)) = false := by simp
        go_upto_region 30 with (go_at_call 15; refine (same_true HL18.out.sv HWS18.out.sv (by rw [length_nI, HAL.out]; unfold maxLen; omega) rfl _ _ (by rw [length_nI, HAL.out]) (by rw [length_nI, HAL.out])).mono ?_; rintro e w19 ⟨rfl, hb19⟩)
        have HT19 := Lib.hid (HT18.out.below hb19 (Nat.le_refl _))
        have HB19 := Lib.hid (HBB18.out.trans (hb19.mono HBB18.out.size))
        have HWY19 := Lib.hid (HWY18.out.below hb19)
        clear HT18 HBB18 HWS18 HWY18 HL18 hb19 hn1 e3
        have hxL : x < L.length := by omega
        have hcg : N ≤ cg := by have := HWY19.out.row.room; rw [HWY19.out.len] at this; exact this.1
        go_wp2_with fail
        go_loopw [20] (fun i wr => ∃ (k : Nat), k ≤ N ∧ i = .int .i64 k ∧ Hid (Below w19.heap.size w19 wr)) (fun i _ => N - (intOf i).toNat)
        case atStart => exact ⟨0, Nat.zero_le _, rfl, Lib.hid (Below.refl _ _)⟩
        case round =>
          obtain ⟨k, hk, rfl, HB⟩ := hrel
          have HTr := Lib.hid (HT19.out.below HB.out (Nat.le_refl _))
          have HWr := Lib.hid (HWY19.out.below HB.out)
          by_cases hlt : k < N
          · have hki : (k : Int) < (N : Int) := by omega
            -- PART L3
            have hkl : k < l.length := by rw [HN.out]; exact hlt
            have hkL : k < L.length := by omega
            have hk1 := kpath_ok HTr.out few2 k hkL
            rw [show wayN L k = wayN l k by rw [← HL.out]; exact snoc_way HWF.out hxl hkl] at hk1
            obtain ⟨np, hnp⟩ : ∃ np, (wayN l k).length = np := ⟨_, rfl⟩
            rw [hnp] at hk1
            have HP1 := Lib.hid hk1
            have HNP := Lib.hid hnp
            have hnp2 : np ≤ 60 := by rw [← hnp]; have := wayN_length HWF.out hkl; omega
            obtain ⟨v, hv⟩ : ∃ v, desc l x k = v := ⟨_, rfl⟩
            have hd1 : descI L N k = v := by rw [descI_nat hNL hkL, ← HL.out, ← HN.out, snoc_desc_new HWF.out hxl hkl, hv]
            have hd2 : descI L x k = v := by rw [descI_nat hxL hkL, ← HL.out, snoc_desc HWF.out hxl hxl, hv]
            have hd3 : descI L k N = false := by rw [descI_nat hkL hNL, ← HL.out, ← HN.out, snoc_desc_of_new HWF.out hxl hkl]
            have D1 := Lib.hid hd1
            have D2 := Lib.hid hd2
            have D3 := Lib.hid hd3
            have nv : (v != v) = false := by simp
            clear hk1 hnp hv hd1 hd2 hd3
            go_upto_region 34 with (go_at_call 13; refine HP1.out.mono ?_; rintro e w21 ⟨A21, c21, rfl, hls21, hb21⟩)
            have HT21 := Lib.hid (HTr.out.below hb21 (Nat.le_refl _))
            have HB21 := Lib.hid (HB.out.trans (hb21.mono HB.out.size))
            have HW21 := Lib.hid (HWr.out.below hb21)
            have HL21 := Lib.hid hls21
            obtain ⟨Ak, ck, cell, hlk⟩ := HW21.out.get hlt
            rw [HNP.out] at cell
            have HLK := Lib.hid hlk
            clear HTr HWr hls21 hb21 hlk HP1
            go_wp2_with (first
              | (go_at_call 15; refine (same_true HL21.out.sv HLK.out.sv (by rw [length_nI, HNP.out]; unfold maxLen; omega) rfl _ _ (by rw [length_nI, HNP.out]) (by rw [length_nI, HNP.out])).mono ?_; rintro e w22 ⟨rfl, hb22⟩; have HT22 := Lib.hid (HT21.out.below hb22 (Nat.le_refl _)); have HB22 := Lib.hid (HB21.out.trans (hb22.mono HB21.out.size)); clear hb22)
              | (go_at_call 11; first
                | (with_reducible refine (kdesc_ok HT22.out N k v D1.out).mono ?_; rintro e w23 ⟨rfl, hb23⟩; have HT23 := Lib.hid (HT22.out.below hb23 (Nat.le_refl _)); have HB23 := Lib.hid (HB22.out.trans (hb23.mono HB22.out.size)); clear hb23)
                | (with_reducible refine (kdesc_ok HT23.out x k v D2.out).mono ?_; rintro e w24 ⟨rfl, hb24⟩; have HT24 := Lib.hid (HT23.out.below hb24 (Nat.le_refl _)); have HB24 := Lib.hid (HB23.out.trans (hb24.mono HB23.out.size)); clear hb24)
                | (with_reducible refine (kdesc_ok HT24.out k N false D3.out).mono ?_; rintro e w25 ⟨rfl, hb25⟩; have HB25 := Lib.hid (HB24.out.trans (hb25.mono HB24.out.size)); clear hb25)))
            go_roundw
            case rel => exact ⟨k + 1, by omega, by go_num, HB25⟩
            case measure => simp [intOf]; omega
            -- END L3
          · obtain rfl : k = N := by omega
            -- PART E
            have hBr := HB19.out.trans (HB.out.mono HB19.out.size)
            have hwn : wayN L k = wayN l x ++ [nk] := by rw [← HL.out, ← HN.out, snoc_way_new HWF.out hxl, HNK.out]
            obtain ⟨np, hnp⟩ : ∃ np, (wayN l x).length = np := ⟨_, rfl⟩
            rw [hnp] at hwl0
            obtain ⟨nq, hnq, hnq'⟩ : ∃ nq : Nat, (np : Int) + 1 = nq ∧ nq = np + 1 := ⟨np + 1, rfl, rfl⟩
            have hk1 := kpath_ok HTr.out few2 k hNL
            rw [hwn, show (wayN l x ++ [nk]).length = nq by rw [List.length_append, hnp, hnq']; rfl] at hk1
            have HP1 := Lib.hid hk1
            have HNP := Lib.hid hnp
            have HNQ' := Lib.hid hnq'
            have hnq2 : nq ≤ 61 := by omega
            have hnpq : (np : Int) < (nq : Int) := by omega
            have HBr := Lib.hid hBr
            clear hk1 hwn hnp hnq' hBr HB HT19 HB19 HWY19
            go_upto_region 37 with (go_at_call 13; refine HP1.out.mono ?_; rintro e w21 ⟨A21, c21, rfl, hls21, hb21⟩)
            have HB21 := Lib.hid (HBr.out.trans (hb21.mono HBr.out.size))
            have HW21 := Lib.hid (HWr.out.below hb21)
            have HL21 := Lib.hid hls21
            obtain ⟨Ax, cx, cell, hlx⟩ := HW21.out.get hxN
            rw [HNP.out] at cell
            have HLX := Lib.hid hlx
            obtain ⟨gq, rfl, _⟩ := hls21.get (j := np) (x := (nk : Int)) (by rw [get_nI, List.getElem?_append_right (by rw [HNP.out]; exact Nat.le_refl _), HNP.out, Nat.sub_self]; rfl)
            have hn0 : begins (nI (wayN l x)) (nI (wayN l x ++ [nk])) = true := by
              unfold begins
              rw [decide_eq_true_eq, nI_prefix]
              exact List.prefix_append _ _
            have HBE := Lib.hid hn0
            have hroom := hls21.room
            rw [length_nI, List.length_append, HNP.out, List.length_singleton, ← HNQ'.out] at hroom
            have e5 : ((nq : Int) == (nq : Int)) = true := by simp
            have e6 : ((nk : Int) == (nk : Int)) = true := by simp
            have e7 : (nq : Int) - 1 = (np : Int) := by omega
            clear HTr HWr hls21 hb21 hlx HP1 hn0 HBr
            go_wp2_with (first
              | (go_at_call 24; have hkb := kbegins_ok w21 Ax (some ⟨gq, 0, none⟩) cx c21 (nI (wayN l x)) (nI (wayN l x ++ [nk])) HLX.out.sv HL21.out.sv (by rw [length_nI, HNP.out]; unfold maxLen; omega) HL21.out.room HL21.out.nocap true HBE.out; rw [length_nI, length_nI, List.length_append, HNP.out, List.length_singleton, ← HNQ'.out] at hkb; refine hkb.mono ?_; rintro e w22 ⟨rfl, hb22⟩; have HB22 := Lib.hid (HB21.out.trans (hb22.mono HB21.out.size)); obtain ⟨gq', eq', cq⟩ := (HL21.out.below hb22 (Nat.le_refl _)).get (j := np) (x := (nk : Int)) (by rw [get_nI, List.getElem?_append_right (by rw [HNP.out]; exact Nat.le_refl _), HNP.out, Nat.sub_self]; rfl); have eq2 : gq = gq' := congrArg Addr.block (Option.some.inj eq'); subst eq2; clear eq' hb22 hkb)
              | (go_at_call 9; refine (awake16 _).mono ?_; rintro e w23 ⟨rfl, hb23⟩))
            go_ret
            exact ⟨rfl, HB8.out.trans ((HB22.out.trans (hb23.mono HB22.out.size)).mono HB8.out.size)⟩
            -- END E
        -- END R2
      -- END R1
theorem kinGrows_walk (W : World) (A : Option Addr) (n c : Nat) (z : List Int) (hmax : n ≤ maxLen) (F : Flat W A n z) (a : Int) :
    Calls Try.prog 7 #[.slice A n c, .int .i64 a] W fun e w' => e = .returned (.bool true) ∧ Below W.heap.size W w' :=
  kinGrows_core W A n c z F.1 hmax F.sv a
end Go.Proofs.Ytogobpnbkmdnfaa
