/-
  WHAT IS PROVED HERE: the walk of SpareRests. Conditions: the table math/bits.deBruijn64tab lies as its initialiser lays it.
-/
import Derived.Test.YtkilghhknimolaaDoorSpareM
import Derived.Test.YtkilghhknimolaaDoorArgs
namespace Go.Proofs.YtkilghhknimolaaDoor
open Go.RowKit

theorem bits_gap0 (b : Nat) (hb : b ≤ 16) : bitsNat (gapL b b) = 0 := by
  refine Nat.eq_of_testBit_eq fun j => ?_
  rw [bitsNat_testBit, gapL_getD _ _ _ hb, Nat.zero_testBit]
  exact decide_eq_false (by omega)
theorem RsO.first {W w : World} {mb : MB} {bS b m : Nat} {l : List Int} (hl : l.length = 4) (h : SpW W w mb b m 2 l 0 0 (List.replicate 1 none)) (hb : Blk w bS 42 [.int .i64 0, .int .i64 b, .int .i64 m]) (nb : ¬ mb.has bS) : RsO W w mb bS b m 0 (gapL b b) none := by
  have hn := h.nums
  exact ⟨⟨l, hl, by rw [bits_gap0 b hn.2.1]; exact h⟩, hb, nb, (fun _ _ e => by cases e), gapL_in (Nat.le_refl _) (by omega) hn.2.1⟩
theorem rests_block (b m k : Nat) (hm : b + m ≤ 16) (hk : k ≤ 40) : ∃ (n : Nat) (q' : OS), 1 ≤ n ∧ (itP b m n ⟨k, bitsNat (gapL b (b + min k m)), begQ 0 0⟩ = ⟨((k + 1 : Nat) : Int), (bitsNat (gapL b (b + min (k + 1) m)) : Nat), q'⟩ ∧ Runs b m ⟨k, bitsNat (gapL b (b + min k m)), begQ 0 0⟩ n) := by
  have hin : InL b m (gapL b (b + min k m)) := gapL_in (Nat.le_refl _) (by omega) (by omega)
  have hc := count_gapL b (min k m) (by omega)
  by_cases h : k < m
  · obtain ⟨k', k1, k2, k3, k4, k5, k6⟩ := block_yes hin hm (wt := k) (by unfold Small; omega) (by omega) (by omega)
    rw [gapL_getD _ _ _ (by omega)] at k4
    simp only [decide_eq_false_iff_not] at k4
    have e : k' = b + min k m := by
      by_cases e : k' = b + min k m
      · exact e
      · exfalso
        have := k3 (b + min k m) (by omega) (by omega)
        rw [gapL_getD _ _ _ (by omega)] at this
        simp at this
    rw [e, gapL_on (by omega) (by omega), show b + min k m + 1 = b + min (k + 1) m by omega] at k5
    exact ⟨3, _, by omega, k5, k6⟩
  · obtain ⟨k5, k6⟩ := block_no hin (wt := k) (by unfold Small; omega) (by omega)
    rw [show min (k + 1) m = min k m by omega]
    exact ⟨2, _, by omega, k5, k6⟩
set_option maxRecDepth 20000 in
set_option maxHeartbeats 4000000 in
theorem rests_any (W : World) (hT : Tab W) (b m n : Int) (hb : i64B b) (hm : i64B m) :
    Calls Tryd.prog 10 #[.int .i64 b, .int .i64 m, .int .i64 n] W fun e w' => e = .returned (.bool true) ∧ Below W.heap.size W w' := by
  by_cases h0 : b < 1
  · have d0 : decide (b < 1) = true := decide_eq_true h0
    go_enter Tryd.func10, Tryd.ntmps10
    go_wp2_with fail
    refine (awake18_any W hT).mono ?_
    rintro e w1 ⟨rfl, hb1⟩
    go_wp2_with fail
    go_ret
    exact ⟨rfl, hb1⟩
  · have d0 : decide (b < 1) = false := decide_eq_false h0
    by_cases h1 : 16 < b
    · have d1 : decide (16 < b) = true := decide_eq_true h1
      go_enter Tryd.func10, Tryd.ntmps10
      go_wp2_with fail
      refine (awake18_any W hT).mono ?_
      rintro e w1 ⟨rfl, hb1⟩
      go_wp2_with fail
      go_ret
      exact ⟨rfl, hb1⟩
    · have d1 : decide (16 < b) = false := decide_eq_false h1
      by_cases h2 : m < 0
      · have d2 : decide (m < 0) = true := decide_eq_true h2
        go_enter Tryd.func10, Tryd.ntmps10
        go_wp2_with fail
        refine (awake18_any W hT).mono ?_
        rintro e w1 ⟨rfl, hb1⟩
        go_wp2_with fail
        go_ret
        exact ⟨rfl, hb1⟩
      · have d2 : decide (m < 0) = false := decide_eq_false h2
        by_cases h3 : 16 < m
        · have d3 : decide (16 < m) = true := decide_eq_true h3
          go_enter Tryd.func10, Tryd.ntmps10
          go_wp2_with fail
          refine (awake18_any W hT).mono ?_
          rintro e w1 ⟨rfl, hb1⟩
          go_wp2_with fail
          go_ret
          exact ⟨rfl, hb1⟩
        · have d3 : decide (16 < m) = false := decide_eq_false h3
          have hw : wrap64 (b + m) = b + m := by unfold wrap64; omega
          by_cases h4 : 16 < b + m
          · have d4 : decide (16 < b + m) = true := decide_eq_true h4
            go_enter Tryd.func10, Tryd.ntmps10
            go_wp2_with fail
            refine (awake18_any W hT).mono ?_
            rintro e w1 ⟨rfl, hb1⟩
            go_wp2_with fail
            go_ret
            exact ⟨rfl, hb1⟩
          · have d4 : decide (16 < b + m) = false := decide_eq_false h4
            by_cases h5 : n < 0
            · have d5 : decide (n < 0) = true := decide_eq_true h5
              go_enter Tryd.func10, Tryd.ntmps10
              go_wp2_with fail
              refine (awake18_any W hT).mono ?_
              rintro e w1 ⟨rfl, hb1⟩
              go_wp2_with fail
              go_ret
              exact ⟨rfl, hb1⟩
            · have d5 : decide (n < 0) = false := decide_eq_false h5
              by_cases h6 : 40 < n
              · have d6 : decide (40 < n) = true := decide_eq_true h6
                go_enter Tryd.func10, Tryd.ntmps10
                go_wp2_with fail
                refine (awake18_any W hT).mono ?_
                rintro e w1 ⟨rfl, hb1⟩
                go_wp2_with fail
                go_ret
                exact ⟨rfl, hb1⟩
              · have d6 : decide (40 < n) = false := decide_eq_false h6
                obtain ⟨B, rfl⟩ := Int.eq_ofNat_of_zero_le (show 0 ≤ b by omega)
                obtain ⟨M, rfl⟩ := Int.eq_ofNat_of_zero_le (show 0 ≤ m by omega)
                obtain ⟨N, rfl⟩ := Int.eq_ofNat_of_zero_le (show 0 ≤ n by omega)
                have hB1 : 1 ≤ B := by omega
                have hBM : B + M ≤ 16 := by omega
                have hN : N ≤ 40 := by omega
                have hr : rightB B M = true := by unfold rightB; rw [decide_eq_true_iff]; omega
                have hi : i64B (M : Int) := by unfold i64B; omega
                have HT := Lib.hid hT
                clear hT
                go_enter Tryd.func10, Tryd.ntmps10
                go_wp2_with fail
                refine (new_ok 2 3 _ (by omega) (by omega) (by omega) (by omega)).mono ?_
                rintro e w1 ⟨p, s, rfl, hm1, hk1, hp, hsl⟩
                have hb1 : Below W.heap.size W w1 := hk1.below (Nat.le_refl _) (fun _ h => h.elim)
                have hn := new_okS hm1 3 B M hi hr (by decide +kernel) (by decide +kernel) (by decide +kernel)
                have HN := Lib.hid hn
                have HB1 := Lib.hid hb1
                clear hn hb1 hm1 hk1 d0 d1 d2 d3 d4 d5 d6 h0 h1 h2 h3 h4 h5 h6 hw
                go_wp2_with fail
                refine HN.out.mono ?_
                rintro e w2 ⟨rfl, hk2, c, hc, hm2⟩
                have hW2 : SpW W w2 ⟨p, c, s⟩ B M 2 [0, 0, 0, 1] 0 0 (List.replicate 1 none) := SpW.first (b := B) (m := M) (sz := 2) (l := [0, 0, 0, 1]) W HT.out HB1.out hp hsl hc hk2 hr (st := ((MS.fresh 2 (Int.toNat 3)).did 3).more 2) (by first | rfl | kernel_rfl) hm2 1
                rw [show spV ((MS.fresh 2 (3 : Int).toNat).cells.length : Nat) B M = .agg #[.int .i64 0, .int .i64 B, .int .i64 M] from rfl]
                have b3 := Blk.new w2 42 [.int .i64 0, .int .i64 B, .int .i64 M]
                have hW3 : SpW W (w2.alloc (.cells #[.int .i64 0, .int .i64 B, .int .i64 M] 42)) ⟨p, c, s⟩ B M 2 [0, 0, 0, 1] 0 0 (List.replicate 1 none) := hW2.below ((Below.refl _ _).alloc (Nat.le_refl _) _)
                have nb : ¬ (⟨p, c, s⟩ : MB).has w2.heap.size := fun e => by have := hW2.mach.lt _ e; omega
                have hO3 := RsO.first rfl hW3 b3 nb
                have c3 := b3.cell
                have HO3 := Lib.hid hO3
                clear b3 hW3 hW2 hO3 nb hm2 hk2 HN HB1 hp hsl hc hi
                go_upto_region 7 with fail
                obtain ⟨bS, hbS⟩ : ∃ b, w2.heap.size = b := ⟨_, rfl⟩
                rw [hbS] at c3 HO3 ⊢
                generalize (w2.alloc (.cells #[.int .i64 0, .int .i64 B, .int .i64 M] 42)) = w3 at *
                change Hid (RsO W w3 ⟨p, c, s⟩ bS B M 0 (gapL B B) none) at HO3
                clear hbS
                clear c3
                go_wp2_with fail
                go_loopw [11] (fun v wr => ∃ k : Nat, k ≤ N ∧ v = .int .i64 k ∧ RsO W wr ⟨p, c, s⟩ bS B M k (gapL B (B + min k M)) none) (fun v _ => N - (intOf v).toNat)
                case atStart => exact ⟨0, by omega, rfl, by simpa using HO3.out⟩
                case round =>
                  clear HO3
                  obtain ⟨k, hk, rfl, hO⟩ := hrel
                  by_cases hlt : k < N
                  · obtain ⟨nn, q', hn1, hrun⟩ := rests_block B M k hBM (by omega)
                    have c0 := hO.bs.cell
                    have e0 : ((nn : Int) == 0) = false := by simp; omega
                    have HO := Lib.hid hO
                    have HR := Lib.hid hrun
                    clear hO hrun
                    go_wp2_with fail
                    refine HO.out.block.mono ?_
                    rintro e w4 ⟨o, rfl, hO4⟩
                    have HO4 := Lib.hid hO4
                    clear hO4 HO c0
                    go_wp2_with fail
                    refine (HO4.out.run HR.out (gapL_in (Nat.le_refl _) (by omega) (by omega)) _ ?_ _ rfl).mono ?_
                    · first | omega | (rw [Int.tmod_eq_emod_of_nonneg (by omega)]; omega)
                    rintro e w5 ⟨rfl, hO5, hk5⟩
                    have HO5 := Lib.hid hO5.free
                    clear hO5 hk5 HO4 HR
                    go_wp2_with fail
                    go_roundw
                    case rel => exact ⟨k + 1, hlt, by go_num, HO5.out⟩
                    case measure => simp [intOf]; omega
                  · obtain rfl : k = N := by omega
                    obtain ⟨C, hC⟩ : ∃ C, min k M = C := ⟨_, rfl⟩
                    rw [hC] at hO
                    have hCM : C ≤ M := by omega
                    have HO := Lib.hid hO
                    clear hO
                    go_upto_if 79 with fail
                    go_cut [12] (fun x wc => x = .int .i64 C ∧ wr = wc)
                    case first =>
                      by_cases hlt : (M : Int) < k
                      · have dl : decide ((M : Int) < k) = true := decide_eq_true hlt
                        obtain rfl : M = C := by omega
                        go_wp2_with fail
                        go_meet
                        case rel => exact ⟨rfl, rfl⟩
                      · have dl : decide ((M : Int) < k) = false := decide_eq_false hlt
                        obtain rfl : k = C := by omega
                        go_wp2_with fail
                        go_meet
                        case rel => exact ⟨rfl, rfl⟩
                    case rest =>
                      obtain ⟨rfl, rfl⟩ := hcut
                      have hCk : C ≤ k := by omega
                      have c0 := HO.out.bs.cell
                      clear hC
                      have hcn := count_fullL HO.out.inl (by omega)
                      rw [count_gapL B C (by omega)] at hcn
                      have HCN := Lib.hid hcn
                      clear hcn
                      go_wp2_with fail
                      refine HO.out.bits.mono ?_
                      rintro e w6 ⟨rfl, hO6, hb6⟩
                      have hct := count_ok (bitsNat (fullL B (gapL B (B + C))) : Nat) w6 hO6.tab
                      have hce : ((membersOf (bitsNat (fullL B (gapL B (B + C))) : Nat)).length : Int) = (B : Int) + C := by
                        have := cnt_bits (length_fullL HO.out.inl.len (show B ≤ 16 by omega))
                        unfold cnt at this
                        rw [this, HCN.out]
                        omega
                      rw [hce] at hct
                      have HO6 := Lib.hid hO6
                      have HCT := Lib.hid hct
                      have hww : wrap64 ((B : Int) + C) = (B : Int) + C := by unfold wrap64; omega
                      have hne : (((B : Int) + C) != ((B : Int) + C)) = false := by simp
                      clear hO6 hb6 HO hct hce c0 HCN
                      go_wp2_with fail
                      refine HCT.out.mono ?_
                      rintro e w7 ⟨rfl, hb7⟩
                      have HO7 := Lib.hid (HO6.out.below hb7)
                      clear hb7 HO6 HCT
                      go_wp2_with fail
                      clear hww hne
                      go_loopw [13] (fun v wr => ∃ t : Nat, t ≤ k ∧ v = .int .i64 t ∧ RsO W wr ⟨p, c, s⟩ bS B M ((k : Int) - t) (gapL B (B + C)) none) (fun v _ => k - (intOf v).toNat)
                      case atStart => exact ⟨0, by omega, rfl, by simpa using HO7.out⟩
                      case round =>
                        clear HO7
                        obtain ⟨t, ht, rfl, hO⟩ := hrel
                        by_cases hlt : t < k
                        · have c0 := hO.bs.cell
                          have HO := Lib.hid hO
                          have hsub : wrap64 ((k : Int) - t) = (k : Int) - t := by unfold wrap64; omega
                          clear hO
                          go_wp2_with fail
                          refine (HO.out.retire B).mono ?_
                          rintro e w8 ⟨o, rfl, hO8⟩
                          have c8 := hO8.bs.cell
                          have HO8 := Lib.hid hO8
                          clear hO8 HO c0
                          go_upto_region 21 with fail
                          go_cut [116] from 89 to 123 (fun x wc => x = .bool false ∧ RsO W wc ⟨p, c, s⟩ bS B M ((k : Int) - t) (gapL B (B + C)) none)
                          case first =>
                            by_cases g1 : 0 < (C : Int)
                            · have g1' : decide (0 < (C : Int)) = true := decide_eq_true g1
                              by_cases g2 : (C : Int) ≤ (k : Int) - t
                              · have g2' : decide ((C : Int) ≤ (k : Int) - t) = true := decide_eq_true g2
                                have hrun := retire_no HO8.out.inl (wt := (k : Int) - t) B (by rw [count_gapL B C (by omega)]; omega)
                                have HR := Lib.hid hrun
                                have hin8 := HO8.out.inl
                                clear hrun c8
                                go_wp2_with fail
                                refine (HO8.out.run HR.out hin8 0 (by omega) 2 rfl).mono ?_
                                rintro e w9 ⟨rfl, hO9, hk9⟩
                                have HO9 := Lib.hid hO9
                                clear hO9 hk9 HR HO8 hin8
                                go_wp2_with fail
                                refine (HO9.out.moved (-1) rfl).mono ?_
                                rintro e wn ⟨rfl, rfl⟩
                                go_wp2_with fail
                                go_meet
                                case rel => exact ⟨rfl, HO9.out.free⟩
                              · have g2' : decide ((C : Int) ≤ (k : Int) - t) = false := decide_eq_false g2
                                go_wp2_with fail
                                go_meet
                                case rel => exact ⟨rfl, HO8.out.free⟩
                            · have g1' : decide (0 < (C : Int)) = false := decide_eq_false g1
                              go_wp2_with fail
                              go_meet
                              case rel => exact ⟨rfl, HO8.out.free⟩
                          case rest =>
                            obtain ⟨rfl, hO9⟩ := hcut
                            have c9 := hO9.bs.cell
                            have HO9 := Lib.hid hO9
                            clear hO9 c8 HO8 hsub
                            go_wp2_with fail
                            refine HO9.out.resume.mono ?_
                            rintro e w10 ⟨o2, rfl, hO10⟩
                            have hrun := resume_run (b := B) (m := M) (L := gapL B (B + C)) (wt := (k : Int) - t) (by unfold Small; omega)
                            have hin10 := hO10.inl
                            have HR := Lib.hid hrun
                            have HO10 := Lib.hid hO10
                            clear hrun hO10 HO9 c9
                            go_wp2_with fail
                            refine (HO10.out.run HR.out hin10 _ ?_ 1 rfl).mono ?_
                            · first | omega | (rw [Int.tmod_eq_emod_of_nonneg (by omega)]; omega)
                            rintro e w11 ⟨rfl, hO11, hk11⟩
                            have HO11 := Lib.hid hO11.free
                            clear hO11 hk11 HO10 HR hin10
                            go_wp2_with fail
                            go_roundw
                            case rel => exact ⟨t + 1, hlt, by go_num, by rw [show (k : Int) - ((t + 1 : Nat) : Int) = (k : Int) - t - 1 by omega]; exact HO11.out⟩
                            case measure => simp [intOf]; omega
                        · obtain rfl : t = k := by omega
                          rw [Int.sub_self] at hO
                          have HO := Lib.hid hO
                          clear hO
                          go_wp2_with fail
                          go_loopw [15] (fun v wr => ∃ r : Nat, r ≤ M ∧ v = .int .i64 ((B : Int) + r) ∧ RsO W wr ⟨p, c, s⟩ bS B M 0 (gapL (B + min r C) (B + C)) none) (fun v _ => B + M - (intOf v).toNat)
                          case atStart => exact ⟨0, by omega, by simp, by simpa using HO.out⟩
                          case round =>
                            clear HO
                            obtain ⟨r, hrr, rfl, hO⟩ := hrel
                            have hw1 : wrap64 ((B : Int) + M) = (B : Int) + M := by unfold wrap64; omega
                            by_cases hlt : r < M
                            · have c0 := hO.bs.cell
                              have HO := Lib.hid hO
                              have dl : decide ((B : Int) + r < (B : Int) + M) = true := decide_eq_true (by omega)
                              have hs1 : wrap64 ((B : Int) + r - B) = r := by unfold wrap64; omega
                              have hs2 : wrap64 (r : Int) = r := by unfold wrap64; omega
                              have hs3 : wrap64 ((B : Int) + r + 1) = (B : Int) + r + 1 := by unfold wrap64; omega
                              have hne : (((B : Int) + r) != ((B : Int) + r)) = false := by simp
                              clear hO
                              go_wp2_with fail
                              refine (HO.out.retire ((B : Int) + r)).mono ?_
                              rintro e w8 ⟨o, rfl, hO8⟩
                              have hin8 := hO8.inl
                              have HO8 := Lib.hid hO8
                              clear hO8 HO c0
                              have hcg := count_gapL (B + min r C) (C - min r C) (by omega)
                              rw [show B + min r C + (C - min r C) = B + C by omega] at hcg
                              by_cases hC : (r : Int) < C
                              · have dC : decide ((r : Int) < C) = true := decide_eq_true hC
                                have dC' : decide ((C : Int) ≤ r) = false := decide_eq_false (by omega)
                                obtain ⟨k1, k2, hrun⟩ := retire_yes hin8 hBM (wt := 0) (B + r) (by rw [gapL_getD _ _ _ (by omega)]; simp; omega) (by omega)
                                rw [show ((B + r : Nat) : Int) = (B : Int) + r from Int.natCast_add B r, show (gapL (B + min r C) (B + C)).set (B + r) false = gapL (B + min (r + 1) C) (B + C) by rw [show B + min r C = B + r by omega, gapL_off (by omega) (by omega)]; congr 1; omega] at hrun
                                have HR := Lib.hid hrun
                                have hin9 : InL B M (gapL (B + min (r + 1) C) (B + C)) := gapL_in (by omega) (by omega) (by omega)
                                clear hrun hcg
                                go_wp2_with fail
                                refine (HO8.out.run HR.out hin9 1 (by omega) 3 rfl).mono ?_
                                rintro e w9 ⟨rfl, hO9, hk9⟩
                                have HO9 := Lib.hid hO9
                                clear hO9 hk9 HR HO8 hin8 hin9
                                go_wp2_with fail
                                refine (HO9.out.moved ((B : Int) + r) rfl).mono ?_
                                rintro e wn ⟨rfl, rfl⟩
                                go_wp2_with fail
                                go_roundw
                                case rel => exact ⟨r + 1, hlt, by go_num, HO9.out.free⟩
                                case measure => simp [intOf]; omega
                              · have dC : decide ((r : Int) < C) = false := decide_eq_false hC
                                have dC' : decide ((C : Int) ≤ r) = true := decide_eq_true (by omega)
                                have hrun := retire_no hin8 (wt := 0) ((B : Int) + r) (by omega)
                                rw [show min r C = min (r + 1) C by omega] at hrun HO8 hin8
                                have HR := Lib.hid hrun
                                clear hrun hcg
                                go_wp2_with fail
                                refine (HO8.out.run HR.out hin8 1 (by omega) 2 rfl).mono ?_
                                rintro e w9 ⟨rfl, hO9, hk9⟩
                                have HO9 := Lib.hid hO9
                                clear hO9 hk9 HR HO8 hin8
                                go_wp2_with fail
                                refine (HO9.out.moved (-1) rfl).mono ?_
                                rintro e wn ⟨rfl, rfl⟩
                                go_wp2_with fail
                                go_roundw
                                case rel => exact ⟨r + 1, hlt, by go_num, HO9.out.free⟩
                                case measure => simp [intOf]; omega
                            · obtain rfl : r = M := by omega
                              rw [show min r C = C by omega] at hO
                              have dl : decide ((B : Int) + r < (B : Int) + r) = false := decide_eq_false (by omega)
                              have c0 := hO.bs.cell
                              have HO := Lib.hid hO
                              clear hO
                              go_wp2_with fail
                              refine HO.out.blocked.mono ?_
                              rintro e w8 ⟨rfl, hO8, hb8⟩
                              have c8 := hO8.bs.cell
                              have HO8 := Lib.hid hO8
                              clear hO8 hb8 HO c0
                              go_wp2_with fail
                              refine HO8.out.bits.mono ?_
                              rintro e w9 ⟨rfl, hO9, hb9⟩
                              have hct := count_ok (bitsNat (fullL B (gapL (B + C) (B + C))) : Nat) w9 hO9.tab
                              have hce : ((membersOf (bitsNat (fullL B (gapL (B + C) (B + C))) : Nat)).length : Int) = (B : Int) := by
                                have := cnt_bits (length_fullL hO9.inl.len (show B ≤ 16 by omega))
                                unfold cnt at this
                                have e0 := count_gapL (B + C) 0 (by omega)
                                rw [Nat.add_zero] at e0
                                rw [this, count_fullL hO9.inl (by omega), e0]
                                omega
                              rw [hce] at hct
                              have HO9 := Lib.hid hO9
                              have HCT := Lib.hid hct
                              have hne : ((B : Int) == (B : Int)) = true := by simp
                              clear hO9 hb9 HO8 c8 hct hce
                              go_wp2_with fail
                              refine HCT.out.mono ?_
                              rintro e w10 ⟨rfl, hb10⟩
                              have HO10 := Lib.hid (HO9.out.below hb10)
                              clear hb10 HO9 HCT
                              go_wp2_with fail
                              refine (awake18_any w10 HO10.out.tab).mono ?_
                              rintro e w11 ⟨rfl, hb11⟩
                              have hbel := HO10.out.bel.trans (hb11.mono HO10.out.bel.size)
                              clear hb11 HO10
                              go_wp2_with fail
                              go_ret
                              exact ⟨rfl, hbel⟩
theorem spareRests_walk (W : World) (hT : Tab W) (b : Int) (w0 : (Lit.int .i64 b).wf = true) (m : Int) (w1 : (Lit.int .i64 m).wf = true) (n : Int) (_w2 : (Lit.int .i64 n).wf = true) :
    Calls Tryd.prog 10 #[.int .i64 b, .int .i64 m, .int .i64 n] W fun e w' => e = .returned (.bool true) ∧ Below W.heap.size W w' := rests_any W hT b m n (wf_range w0) (wf_range w1)
end Go.Proofs.YtkilghhknimolaaDoor
