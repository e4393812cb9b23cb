/-
  WHAT IS PROVED HERE: the walk of SpareAlone. Conditions: the table math/bits.deBruijn64tab lies as its initialiser lays it.
-/
import Derived.Test.YtkilghhknimolaaDoorSpareN
import Derived.StillTailTactics
namespace Go.Proofs.YtkilghhknimolaaDoor
open Go.RowKit

set_option maxRecDepth 20000 in
set_option maxHeartbeats 8000000 in
theorem alone_any (W : World) (hT : Tab W) (b m : Int) (hb : i64B b) (hm : i64B m) (A : Option Addr) (n cp : Nat) (z : List Int) (F : Flat W A (n * 4) z) :
    Calls Tryd.prog 12 #[.int .i64 b, .int .i64 m, .slice A n cp] W fun e w' => e = .returned (.bool true) ∧ Below W.heap.size W w' := by
  by_cases h0 : b < 1
  · have d0 : decide (b < 1) = true := decide_eq_true h0
    go_enter Tryd.func12, Tryd.ntmps12
    go_wp2_with fail
    refine (awake18_any W hT).mono ?_
    rintro e w1 ⟨rfl, hb1⟩
    go_wp2_with fail
    go_ret
    exact ⟨rfl, hb1⟩
  · have d0 : decide (b < 1) = false := decide_eq_false h0
    by_cases h1 : 16 < b
    · have d1 : decide (16 < b) = true := decide_eq_true h1
      go_enter Tryd.func12, Tryd.ntmps12
      go_wp2_with fail
      refine (awake18_any W hT).mono ?_
      rintro e w1 ⟨rfl, hb1⟩
      go_wp2_with fail
      go_ret
      exact ⟨rfl, hb1⟩
    · have d1 : decide (16 < b) = false := decide_eq_false h1
      by_cases h2 : m < 0
      · have d2 : decide (m < 0) = true := decide_eq_true h2
        go_enter Tryd.func12, Tryd.ntmps12
        go_wp2_with fail
        refine (awake18_any W hT).mono ?_
        rintro e w1 ⟨rfl, hb1⟩
        go_wp2_with fail
        go_ret
        exact ⟨rfl, hb1⟩
      · have d2 : decide (m < 0) = false := decide_eq_false h2
        by_cases h3 : 16 < m
        · have d3 : decide (16 < m) = true := decide_eq_true h3
          go_enter Tryd.func12, Tryd.ntmps12
          go_wp2_with fail
          refine (awake18_any W hT).mono ?_
          rintro e w1 ⟨rfl, hb1⟩
          go_wp2_with fail
          go_ret
          exact ⟨rfl, hb1⟩
        · have d3 : decide (16 < m) = false := decide_eq_false h3
          have hw : wrap64 (b + m) = b + m := by unfold wrap64; omega
          by_cases h4 : 16 < b + m
          · have d4 : decide (16 < b + m) = true := decide_eq_true h4
            go_enter Tryd.func12, Tryd.ntmps12
            go_wp2_with fail
            refine (awake18_any W hT).mono ?_
            rintro e w1 ⟨rfl, hb1⟩
            go_wp2_with fail
            go_ret
            exact ⟨rfl, hb1⟩
          · have d4 : decide (16 < b + m) = false := decide_eq_false h4
            by_cases h5 : (200 : Int) < (n : Int)
            · have d5 : decide ((200 : Int) < (n : Int)) = true := decide_eq_true h5
              go_enter Tryd.func12, Tryd.ntmps12
              go_wp2_with fail
              refine (awake18_any W hT).mono ?_
              rintro e w1 ⟨rfl, hb1⟩
              go_wp2_with fail
              go_ret
              exact ⟨rfl, hb1⟩
            · have d5 : decide ((200 : Int) < (n : Int)) = false := decide_eq_false h5
              obtain ⟨B, rfl⟩ := Int.eq_ofNat_of_zero_le (show 0 ≤ b by omega)
              obtain ⟨M, rfl⟩ := Int.eq_ofNat_of_zero_le (show 0 ≤ m by omega)
              have hB1 : 1 ≤ B := by omega
              have hBM : B + M ≤ 16 := by omega
              have hN : n ≤ 200 := by omega
              have hr : rightB B M = true := by unfold rightB; rw [decide_eq_true_iff]; omega
              have hi : i64B (M : Int) := by unfold i64B; omega
              have HT := Lib.hid hT
              clear hT
              go_enter Tryd.func12, Tryd.ntmps12
              go_wp2_with fail
              refine (new_ok 2 3 _ (by omega) (by omega) (by omega) (by omega)).mono ?_
              rintro e w1 ⟨p, s, rfl, hm1, hk1, hp, hsl⟩
              have hb1 : Below W.heap.size W w1 := hk1.below (Nat.le_refl _) (fun _ h => h.elim)
              have hn := new_okS hm1 3 B M hi hr (by decide +kernel) (by decide +kernel) (by decide +kernel)
              have HN := Lib.hid hn
              have HB1 := Lib.hid hb1
              clear hn hb1 hm1 hk1 d0 d1 d2 d3 d4 d5 h0 h1 h2 h3 h4 h5 hw
              go_wp2_with fail
              refine HN.out.mono ?_
              rintro e w2 ⟨rfl, hk2, c, hc, hm2⟩
              have hW2 : SpW W w2 ⟨p, c, s⟩ B M 2 [0, 0, 0, 1] 0 0 (List.replicate 1 none) := SpW.first (b := B) (m := M) (sz := 2) (l := [0, 0, 0, 1]) W HT.out HB1.out hp hsl hc hk2 hr (st := ((MS.fresh 2 (Int.toNat 3)).did 3).more 2) (by first | rfl | kernel_rfl) hm2 1
              rw [show spV ((MS.fresh 2 (3 : Int).toNat).cells.length : Nat) B M = .agg #[.int .i64 0, .int .i64 B, .int .i64 M] from rfl]
              have b3 := Blk.new w2 42 [.int .i64 0, .int .i64 B, .int .i64 M]
              have hW3 : SpW W (w2.alloc (.cells #[.int .i64 0, .int .i64 B, .int .i64 M] 42)) ⟨p, c, s⟩ B M 2 [0, 0, 0, 1] 0 0 (List.replicate 1 none) := hW2.below ((Below.refl _ _).alloc (Nat.le_refl _) _)
              have nb : ¬ (⟨p, c, s⟩ : MB).has w2.heap.size := fun e => by have := hW2.mach.lt _ e; omega
              have hO3 := RsO.first rfl hW3 b3 nb
              have c3 := b3.cell
              have HO3 := Lib.hid hO3
              clear b3 hW3 hW2 hO3 nb hm2 hk2 HN HB1 hp hsl hc hi
              go_upto_region 7 with fail
              obtain ⟨bS, hbS⟩ : ∃ b, w2.heap.size = b := ⟨_, rfl⟩
              rw [hbS] at c3 HO3 ⊢
              generalize (w2.alloc (.cells #[.int .i64 0, .int .i64 B, .int .i64 M] 42)) = w3 at *
              change Hid (RsO W w3 ⟨p, c, s⟩ bS B M 0 (gapL B B) none) at HO3
              clear hbS c3
              have HA := Lib.hid (AlO.first HO3.out (by omega))
              clear HO3
              go_upto_region 8 with fail
              obtain ⟨bI, hbI⟩ : ∃ b, w3.heap.size = b := ⟨_, rfl⟩
              rw [hbI] at HA ⊢
              simp only [bvs, List.replicate, List.map_cons, List.map_nil] at HA
              generalize (w3.alloc (.cells _ 83)) = w4 at *
              change Hid (AlO W w4 ⟨p, c, s⟩ bS bI B M 0 (gapL B B) (gapL B B) none) at HA
              clear hbI
              go_wp2_with fail
              go_loopw [12, 13, 14] (fun x y v wr => ∃ (k : Nat) (wt : Int) (L : List Bool), k ≤ n ∧ -(k : Int) ≤ wt ∧ wt ≤ k ∧ x = .int .i64 (L.count true : Nat) ∧ y = .int .i64 wt ∧ v = .int .i64 k ∧ AlO W wr ⟨p, c, s⟩ bS bI B M wt L L none) (fun _ _ v _ => n - (intOf v).toNat)
              case atStart => exact ⟨0, 0, gapL B B, by omega, by simp, by simp, by rw [show (gapL B B).count true = 0 by simpa using count_gapL B 0 (by omega)]; rfl, rfl, rfl, HA.out⟩
              case round =>
                clear HA
                obtain ⟨k, wt, L, hk, hw1, hw2, rfl, rfl, rfl, hA⟩ := hrel
                by_cases hlt : k < n
                · obtain ⟨_, _, hcell⟩ := F
                  obtain ⟨g, off, rfl, hgb, hgc⟩ := hcell (by omega)
                  obtain ⟨dv, hdv⟩ : ∃ v, v = z.getD (k * 4 + 1) 0 := ⟨_, rfl⟩
                  obtain ⟨self, hself⟩ : ∃ v, v = z.getD (k * 4 + 2) 0 := ⟨_, rfl⟩
                  have hd : ∀ w', Below W.heap.size W w' → w'.cell? ⟨g, off + k * 4 + 1, none⟩ = some (.int .i64 dv) := fun w' hb => by rw [hdv, hb.cell (by exact hgb)]; exact hgc (k * 4 + 1) (by omega)
                  have hs : ∀ w', Below W.heap.size W w' → w'.cell? ⟨g, off + k * 4 + 2, none⟩ = some (.int .i64 self) := fun w' hb => by rw [hself, hb.cell (by exact hgb)]; exact hgc (k * 4 + 2) (by omega)
                  obtain ⟨kd, hkd, hkk⟩ := pick3 dv
                  have HD := Lib.hid hd
                  have HS := Lib.hid hs
                  have HKK := Lib.hid hkk
                  have cd := HD.out wr hA.rs.bel
                  have cs := HS.out wr hA.rs.bel
                  have c0 := hA.rs.bs.cell
                  obtain ⟨nn, q', wt', L', want, ho⟩ := outc hA.rs.inl hBM kd hkd self wt (by omega)
                  obtain ⟨C, hC⟩ : ∃ C, L.count true = C := ⟨_, rfl⟩
                  have hCM : C ≤ M := by rw [← hC]; exact count_le hA.rs.inl
                  rw [hC]
                  have HC := Lib.hid hC
                  have HO := Lib.hid ho
                  have LENL := Lib.hid hA.rs.inl.len
                  have HA := Lib.hid hA
                  clear hcell hdv hself hgc hd hs hA ho hC
                  go_upto_region 14 with fail
                  go_still_tail 11, (by kernel_rfl)
                  change wpList _ _ _ _ _ wr.drew
                  have HAd := Lib.hid (HA.out.below ((Below.refl _ wr).drew))
                  clear HA cd cs c0
                  go_wp2_with fail
                  refine (HAd.out.begin self dv kd hkd HKK.out).mono ?_
                  rintro e w5 ⟨o, rfl, hA5⟩
                  have HA5 := Lib.hid hA5
                  clear hA5 HAd HKK
                  go_wp2_with fail
                  refine (HA5.out.run HO.out.run HO.out.inl 0 (by omega) _ rfl).mono ?_
                  rintro e w6 ⟨rfl, hA6⟩
                  have HA6 := Lib.hid hA6
                  clear hA6 HA5
                  go_upto_if 97 with fail
                  go_cut [12, 13, 18] from 67 to 213 (fun x y v wc => x = .int .i64 (L'.count true : Nat) ∧ y = .int .i64 wt' ∧ v = .int .i64 want ∧ AlO W wc ⟨p, c, s⟩ bS bI B M wt' L' L' (some (o, q')))
                  case first =>
                    as_aux_lemma =>
                      have hout := HO.out.out
                      rcases hout with ⟨rfl, rfl, hB⟩ | ⟨rfl, rfl, rfl, rfl, rfl⟩ | ⟨rfl, rfl, hR⟩
                      · as_aux_lemma =>
                        have hw3 : wrap64 (wt + 1) = wt + 1 := by unfold wrap64; omega
                        rcases hB with ⟨hc1, hc2, rfl, j, rfl, j1, j2, j3, j4, rfl⟩ | ⟨hno, rfl, rfl, rfl⟩
                        · rw [HC.out] at hc1 hc2
                          have t1 : decide ((C : Int) < (M : Int)) = true := decide_eq_true (by omega)
                          have t2 : decide ((C : Int) < wt + 1) = true := decide_eq_true hc2
                          have J3 := Lib.hid j3
                          have J4 := Lib.hid j4
                          clear j3 j4
                          go_wp2_with fail
                          go_loopw [18] (fun v wx => ∃ i : Nat, B ≤ i ∧ i ≤ j ∧ v = .int .i64 i ∧ w6 = wx) (fun v _ => j - (intOf v).toNat)
                          case atStart => exact ⟨B, by omega, j1, rfl, rfl⟩
                          case round =>
                            obtain ⟨i, i1, i2, rfl, rfl⟩ := hrel
                            have g1 : (0 : Int) ≤ (i : Int) := by omega
                            have g2 : (i : Int) < 16 := by omega
                            by_cases hij : i < j
                            · have ci := HA6.out.cell LENL.out (j := i) (by omega) (J3.out i i1 hij)
                              go_wp2_with fail
                              go_roundw
                              case rel => exact ⟨i + 1, by omega, by omega, by go_num, by first | trivial | rfl⟩
                              case measure => simp [intOf]; omega
                            · obtain rfl : i = j := by omega
                              have ci := HA6.out.cell LENL.out (j := i) (by omega) J4.out
                              have hfz := HA6.out.row.frozen i
                              go_wp2_with fail
                              go_meet
                              case rel =>
                                have hcs := count_set L i true false (by rw [getD_getElem? (by have := LENL.out; omega), J4.out])
                                simp at hcs
                                have hcc := HC.out
                                refine ⟨?_, rfl, rfl, HA6.out.store i true⟩
                                rw [hcs, hcc]
                                go_num
                        · rw [HC.out] at hno
                          by_cases hc1 : (C : Int) < (M : Int)
                          · have t1 : decide ((C : Int) < (M : Int)) = true := decide_eq_true hc1
                            have t2 : decide ((C : Int) < wt + 1) = false := decide_eq_false (by omega)
                            go_wp2_with fail
                            go_meet
                            case rel => exact ⟨by rw [HC.out], rfl, rfl, HA6.out⟩
                          · have t1 : decide ((C : Int) < (M : Int)) = false := decide_eq_false hc1
                            go_wp2_with fail
                            go_meet
                            case rel => exact ⟨by rw [HC.out], rfl, rfl, HA6.out⟩
                      · as_aux_lemma =>
                        have hw3 : wrap64 (wt - 1) = wt - 1 := by unfold wrap64; omega
                        go_wp2_with fail
                        go_meet
                        case rel => exact ⟨by rw [HC.out], rfl, rfl, HA6.out⟩
                      · as_aux_lemma =>
                        have cs6 := HS.out w6 HA6.out.rs.bel
                        rcases hR with ⟨j, rfl, rfl, j1, j2, j3, rfl, rfl⟩ | ⟨hno, rfl, rfl, rfl⟩
                        · rw [HC.out] at j3
                          have g1 : (0 : Int) ≤ (j : Int) := by omega
                          have g2 : (j : Int) < 16 := by omega
                          have t1 : decide ((0 : Int) ≤ (j : Int)) = true := decide_eq_true g1
                          have t2 : decide ((j : Int) < 16) = true := decide_eq_true g2
                          have t3 : decide (wt' < (C : Int)) = true := decide_eq_true j3
                          have ci := HA6.out.cell LENL.out (j := j) j1 j2
                          have hfz := HA6.out.row.frozen j
                          have J2 := Lib.hid j2
                          clear j2
                          have hcs := count_set L j false true (by rw [getD_getElem? (by have := LENL.out; omega), J2.out])
                          simp at hcs
                          rw [HC.out] at hcs
                          have HCS := Lib.hid hcs
                          have hw3 : wrap64 ((C : Int) - 1) = (C : Int) - 1 := by unfold wrap64; omega
                          clear hcs
                          go_wp2_with fail
                          go_meet
                          case rel =>
                            have := HCS.out
                            refine ⟨?_, rfl, rfl, HA6.out.store j false⟩
                            rw [show (((L.set j false).count true : Nat) : Int) = (C : Int) - 1 by omega]
                        · rw [HC.out] at hno
                          rw [hasBit_bits LENL.out, Bool.and_eq_true, decide_eq_true_eq] at hno
                          by_cases h1 : 0 ≤ self
                          · have t1 : decide ((0 : Int) ≤ self) = true := decide_eq_true h1
                            by_cases h2 : self < 16
                            · have t2 : decide (self < 16) = true := decide_eq_true h2
                              obtain ⟨j, rfl⟩ := Int.eq_ofNat_of_zero_le h1
                              rw [Int.toNat_natCast] at hno
                              have g1 : (0 : Int) ≤ (j : Int) := by omega
                              cases h3 : L'.getD j false with
                              | true =>
                                have ci := HA6.out.cell LENL.out (j := j) (by omega) h3
                                have H3 := Lib.hid h3
                                have t3 : decide (wt' < (C : Int)) = false := decide_eq_false (fun e => hno ⟨⟨⟨h1, h2⟩, h3⟩, e⟩)
                                clear h3 hno
                                go_wp2_with fail
                                go_meet
                                case rel => exact ⟨by rw [HC.out], rfl, rfl, HA6.out⟩
                              | false =>
                                have ci := HA6.out.cell LENL.out (j := j) (by omega) h3
                                clear h3 hno
                                go_wp2_with fail
                                go_meet
                                case rel => exact ⟨by rw [HC.out], rfl, rfl, HA6.out⟩
                            · have t2 : decide (self < 16) = false := decide_eq_false h2
                              go_wp2_with fail
                              go_meet
                              case rel => exact ⟨by rw [HC.out], rfl, rfl, HA6.out⟩
                          · have t1 : decide ((0 : Int) ≤ self) = false := decide_eq_false h1
                            go_wp2_with fail
                            go_meet
                            case rel => exact ⟨by rw [HC.out], rfl, rfl, HA6.out⟩
                  case rest =>
                    obtain ⟨rfl, rfl, rfl, hA7⟩ := hcut
                    have HA7 := Lib.hid hA7
                    clear hA7 HA6
                    go_upto_if 160 with fail
                    go_cut [19] from 67 to 213 (fun v wx => (∃ ev : Int, v = .int .i64 ev ∧ ((kd = 1 ∧ ev = 1) ∨ (kd ≠ 1 ∧ ev = 2))) ∧ wc = wx)
                    case first =>
                      as_aux_lemma =>
                        have hcase : kd = 0 ∨ kd = 1 ∨ kd = 2 := by omega
                        rcases hcase with rfl | rfl | rfl
                        · go_wp2_with fail
                          go_meet
                          case rel => exact ⟨⟨2, rfl, .inr ⟨by omega, rfl⟩⟩, by first | trivial | rfl⟩
                        · go_wp2_with fail
                          go_meet
                          case rel => exact ⟨⟨1, rfl, .inl ⟨by first | trivial | rfl, rfl⟩⟩, by first | trivial | rfl⟩
                        · go_wp2_with fail
                          go_meet
                          case rel => exact ⟨⟨2, rfl, .inr ⟨by omega, rfl⟩⟩, by first | trivial | rfl⟩
                    case rest =>
                    obtain ⟨⟨ev, rfl, hev⟩, rfl⟩ := hcut
                    have HEV := Lib.hid hev
                    clear hev
                    go_upto_if 162 with fail
                    go_cut [19] from 67 to 213 (fun v wx => v = .int .i64 nn ∧ wc = wx)
                    case first =>
                      as_aux_lemma =>
                        have hout := HO.out.out
                        have hev := HEV.out
                        rcases hout with ⟨rfl, rfl, hB⟩ | ⟨rfl, rfl, rfl, rfl, rfl⟩ | ⟨rfl, rfl, hR⟩
                        · obtain rfl : ev = 2 := by omega
                          rcases hB with ⟨hc1, hc2, rfl, j, rfl, j1, j2, j3, j4, hj5⟩ | ⟨hno, rfl, rfl, hj5⟩
                          · have t1 : decide ((0 : Int) ≤ (j : Int)) = true := decide_eq_true (by omega)
                            clear j3 j4 hj5
                            go_wp2_with fail
                            go_meet
                            case rel => exact ⟨rfl, by first | trivial | rfl⟩
                          · clear hj5
                            go_wp2_with fail
                            go_meet
                            case rel => exact ⟨rfl, by first | trivial | rfl⟩
                        · obtain rfl : ev = 1 := by omega
                          go_wp2_with fail
                          go_meet
                          case rel => exact ⟨rfl, by first | trivial | rfl⟩
                        · obtain rfl : ev = 2 := by omega
                          rcases hR with ⟨j, rfl, rfl, j1, j2, j3, rfl, hj5⟩ | ⟨hno, rfl, rfl, hj5⟩
                          · have t1 : decide ((0 : Int) ≤ (j : Int)) = true := decide_eq_true (by omega)
                            clear j2 hj5
                            go_wp2_with fail
                            go_meet
                            case rel => exact ⟨rfl, by first | trivial | rfl⟩
                          · clear hj5
                            go_wp2_with fail
                            go_meet
                            case rel => exact ⟨rfl, by first | trivial | rfl⟩
                    case rest =>
                      as_aux_lemma =>
                        obtain ⟨rfl, rfl⟩ := hcut
                        have n1 : (want != want) = false := by simp
                        have n2 : ((nn : Int) != (nn : Int)) = false := by simp
                        have n3 : (wt' != wt') = false := by simp
                        have c7 := HA7.out.rs.bs.cell
                        have hwt : -(k : Int) - 1 ≤ wt' ∧ wt' ≤ k + 1 := by
                          have hout := HO.out.out
                          rcases hout with ⟨_, rfl, _⟩ | ⟨_, rfl, _⟩ | ⟨_, rfl, _⟩ <;> omega
                        go_wp2_with fail
                        refine (HA7.out.rs.moved want HO.out.mv).mono ?_
                        rintro e wn ⟨rfl, rfl⟩
                        go_wp2_with fail
                        refine HA7.out.blocked.mono ?_
                        rintro e w8 ⟨rfl, hA8⟩
                        have HA8 := Lib.hid hA8
                        clear hA8 HA7 c7 n1 n2 n3
                        go_wp2_with fail
                        go_loopw [20] (fun v wx => ∃ i : Nat, i ≤ 16 ∧ v = .int .i64 i ∧ AlO W wx ⟨p, c, s⟩ bS bI B M wt' L' L' (some (o, q'))) (fun v _ => 16 - (intOf v).toNat)
                        case atStart => exact ⟨0, by omega, rfl, HA8.out⟩
                        case round =>
                          clear HA8
                          obtain ⟨i, i1, rfl, hA9⟩ := hrel
                          have c9 := hA9.rs.bs.cell
                          have HA9 := Lib.hid hA9
                          clear hA9
                          by_cases hi16 : i < 16
                          · have g1 : (0 : Int) ≤ (i : Int) := by omega
                            have g2 : (i : Int) < 16 := by omega
                            by_cases hiB : (i : Int) < (B : Int)
                            · have t1 : decide ((i : Int) < (B : Int)) = true := decide_eq_true hiB
                              have t1' : decide (i < B) = true := decide_eq_true (by omega)
                              go_wp2_with fail
                              refine (HA9.out.isOn i hi16 true (by rw [decide_eq_true (show i < B by omega)]; rfl)).mono ?_
                              rintro e w10 ⟨rfl, hA10⟩
                              have HA10 := Lib.hid hA10
                              clear hA10 HA9 c9
                              go_wp2_with fail
                              go_roundw
                              case rel => exact ⟨i + 1, by omega, by go_num, HA10.out⟩
                              case measure => simp [intOf]; omega
                            · have t1 : decide ((i : Int) < (B : Int)) = false := decide_eq_false hiB
                              have t1' : decide (i < B) = false := decide_eq_false (by omega)
                              obtain ⟨v, hv⟩ : ∃ v, L'.getD i false = v := ⟨_, rfl⟩
                              have hon := HA9.out.isOn i hi16 v (by rw [decide_eq_false (show ¬ i < B by omega), hv]; rfl)
                              have HON := Lib.hid hon
                              have HV := Lib.hid hv
                              have n1 : (v != v) = false := by simp
                              clear hon hv
                              go_wp2_with fail
                              refine HON.out.mono ?_
                              rintro e w10 ⟨rfl, hA10⟩
                              have HA10 := Lib.hid hA10
                              have ci := HA10.out.cell HA10.out.rs.inl.len (j := i) (by omega) HV.out
                              clear hA10 HA9 c9 HON
                              go_wp2_with fail
                              go_roundw
                              case rel => exact ⟨i + 1, by omega, by go_num, HA10.out⟩
                              case measure => simp [intOf]; omega
                          · obtain rfl : i = 16 := by omega
                            have n1 : (want != want) = false := by simp
                            go_wp2_with fail
                            refine (HA9.out.step_end HO.out.ph 0).mono ?_
                            rintro e w10 ⟨rfl, hA10⟩
                            have HA10 := Lib.hid hA10
                            clear hA10 HA9 c9
                            go_wp2_with fail
                            refine (HA10.out.rs.moved want HO.out.mv).mono ?_
                            rintro e wn ⟨rfl, rfl⟩
                            go_wp2_with fail
                            go_roundw
                            case rel => exact ⟨k + 1, wt', L', by omega, by omega, by omega, rfl, rfl, by go_num, HA10.out.free⟩
                            case measure => simp [intOf]; omega
                · obtain rfl : k = n := by omega
                  have HA := Lib.hid hA
                  clear hA
                  go_wp2_with fail
                  refine (awake18_any wr HA.out.rs.tab).mono ?_
                  rintro e w11 ⟨rfl, hb11⟩
                  have hbel := HA.out.rs.bel.trans (hb11.mono HA.out.rs.bel.size)
                  clear hb11 HA
                  go_wp2_with fail
                  go_ret
                  exact ⟨rfl, hbel⟩
theorem spareAlone_walk (W : World) (hT : Tab W) (b : Int) (w0 : (Lit.int .i64 b).wf = true) (m : Int) (w1 : (Lit.int .i64 m).wf = true) (A : Option Addr) (n c : Nat) (z : List Int) (_h : n ≤ maxLen) (F : Flat W A (n * 4) z) :
    Calls Tryd.prog 12 #[.int .i64 b, .int .i64 m, .slice A n c] W fun e w' => e = .returned (.bool true) ∧ Below W.heap.size W w' := alone_any W hT b m (wf_range w0) (wf_range w1) A n c z F
end Go.Proofs.YtkilghhknimolaaDoor
