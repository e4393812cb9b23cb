/-
  WHAT IS PROVED HERE: the walk of SpareCaps. Conditions: the table math/bits.deBruijn64tab lies as its initialiser lays it.
-/
import Derived.Test.YtkilghhknimolaaDoorSpareP
import Derived.Test.YtkilghhknimolaaDoorQuietB
import Derived.StillTailTactics
namespace Go.Proofs.YtkilghhknimolaaDoor
open Go.RowKit

set_option maxRecDepth 20000 in
set_option maxHeartbeats 8000000 in
theorem caps_any (W : World) (hT : Tab W) (b m : Int) (hb : i64B b) (hm : i64B m) (A : Option Addr) (n cp : Nat) (z : List Int) (F : Flat W A (n * 4) z) :
    Calls Tryd.prog 11 #[.int .i64 b, .int .i64 m, .slice A n cp] W fun e w' => e = .returned (.bool true) ∧ Below W.heap.size W w' := by
  by_cases h0 : b < 1
  · have d0 : decide (b < 1) = true := decide_eq_true h0
    go_enter Tryd.func11, Tryd.ntmps11
    go_wp2_with fail
    refine (awake18_any W hT).mono ?_
    rintro e w1 ⟨rfl, hb1⟩
    go_wp2_with fail
    go_ret
    exact ⟨rfl, hb1⟩
  · have d0 : decide (b < 1) = false := decide_eq_false h0
    by_cases h1 : 16 < b
    · have d1 : decide (16 < b) = true := decide_eq_true h1
      go_enter Tryd.func11, Tryd.ntmps11
      go_wp2_with fail
      refine (awake18_any W hT).mono ?_
      rintro e w1 ⟨rfl, hb1⟩
      go_wp2_with fail
      go_ret
      exact ⟨rfl, hb1⟩
    · have d1 : decide (16 < b) = false := decide_eq_false h1
      by_cases h2 : m < 0
      · have d2 : decide (m < 0) = true := decide_eq_true h2
        go_enter Tryd.func11, Tryd.ntmps11
        go_wp2_with fail
        refine (awake18_any W hT).mono ?_
        rintro e w1 ⟨rfl, hb1⟩
        go_wp2_with fail
        go_ret
        exact ⟨rfl, hb1⟩
      · have d2 : decide (m < 0) = false := decide_eq_false h2
        by_cases h3 : 16 < m
        · have d3 : decide (16 < m) = true := decide_eq_true h3
          go_enter Tryd.func11, Tryd.ntmps11
          go_wp2_with fail
          refine (awake18_any W hT).mono ?_
          rintro e w1 ⟨rfl, hb1⟩
          go_wp2_with fail
          go_ret
          exact ⟨rfl, hb1⟩
        · have d3 : decide (16 < m) = false := decide_eq_false h3
          have hw : wrap64 (b + m) = b + m := by unfold wrap64; omega
          by_cases h4 : 16 < b + m
          · have d4 : decide (16 < b + m) = true := decide_eq_true h4
            go_enter Tryd.func11, Tryd.ntmps11
            go_wp2_with fail
            refine (awake18_any W hT).mono ?_
            rintro e w1 ⟨rfl, hb1⟩
            go_wp2_with fail
            go_ret
            exact ⟨rfl, hb1⟩
          · have d4 : decide (16 < b + m) = false := decide_eq_false h4
            by_cases h5 : (300 : Int) < (n : Int)
            · have d5 : decide ((300 : Int) < (n : Int)) = true := decide_eq_true h5
              go_enter Tryd.func11, Tryd.ntmps11
              go_wp2_with fail
              refine (awake18_any W hT).mono ?_
              rintro e w1 ⟨rfl, hb1⟩
              go_wp2_with fail
              go_ret
              exact ⟨rfl, hb1⟩
            · have d5 : decide ((300 : Int) < (n : Int)) = false := decide_eq_false h5
              obtain ⟨B, rfl⟩ := Int.eq_ofNat_of_zero_le (show 0 ≤ b by omega)
              obtain ⟨M, rfl⟩ := Int.eq_ofNat_of_zero_le (show 0 ≤ m by omega)
              have hB1 : 1 ≤ B := by omega
              have hBM : B + M ≤ 16 := by omega
              have hN : n ≤ 300 := by omega
              have hr : rightB B M = true := by unfold rightB; rw [decide_eq_true_iff]; omega
              have hi : i64B (M : Int) := by unfold i64B; omega
              have HT := Lib.hid hT
              clear hT
              go_enter Tryd.func11, Tryd.ntmps11
              go_wp2_with fail
              refine (new_ok 2 3 _ (by omega) (by omega) (by omega) (by omega)).mono ?_
              rintro e w1 ⟨p, s, rfl, hm1, hk1, hp, hsl⟩
              have hb1 : Below W.heap.size W w1 := hk1.below (Nat.le_refl _) (fun _ h => h.elim)
              have hn := new_okS hm1 3 B M hi hr (by decide +kernel) (by decide +kernel) (by decide +kernel)
              have HN := Lib.hid hn
              have HB1 := Lib.hid hb1
              clear hn hb1 hm1 hk1 d0 d1 d2 d3 d4 d5 h0 h1 h2 h3 h4 h5 hw
              go_wp2_with fail
              refine HN.out.mono ?_
              rintro e w2 ⟨rfl, hk2, c, hc, hm2⟩
              have hW2 : SpW W w2 ⟨p, c, s⟩ B M 2 [0, 0, 0, 1] 0 0 (List.replicate 4 none) := SpW.first (b := B) (m := M) (sz := 2) (l := [0, 0, 0, 1]) W HT.out HB1.out hp hsl hc hk2 hr (st := ((MS.fresh 2 (Int.toNat 3)).did 3).more 2) (by first | rfl | kernel_rfl) hm2 4
              rw [show spV ((MS.fresh 2 (3 : Int).toNat).cells.length : Nat) B M = .agg #[.int .i64 0, .int .i64 B, .int .i64 M] from rfl]
              have hE2 : Ex W w2 ⟨p, c, s⟩ B M 0 (gapL B B) (List.replicate 4 none) [] := ⟨⟨_, rfl, by rw [bits_gap0 B (by omega)]; exact hW2⟩, gapL_in (Nat.le_refl _) (by omega) (by omega), (fun i g t cs e => by simp at e), (fun i j g t t' cs cs' _ e => by simp at e)⟩
              have HE3 := Lib.hid (hE2.alloc 42 [.int .i64 0, .int .i64 B, .int .i64 M])
              clear hW2 hm2 hk2 HN HB1 hp hsl hc hi hE2
              go_upto_region 7 with fail
              obtain ⟨bS, hbS⟩ : ∃ b, w2.heap.size = b := ⟨_, rfl⟩
              rw [hbS] at HE3 ⊢
              generalize (w2.alloc (.cells #[.int .i64 0, .int .i64 B, .int .i64 M] 42)) = w3 at *
              change Hid (Ex W w3 ⟨p, c, s⟩ B M 0 (gapL B B) (List.replicate 4 none) [(bS, 42, [.int .i64 0, .int .i64 B, .int .i64 M])]) at HE3
              clear hbS
              have HE4 := Lib.hid (HE3.out.alloc 83 (bvs (List.replicate 16 false)))
              clear HE3
              go_upto_region 8 with fail
              obtain ⟨bI, hbI⟩ : ∃ b, w3.heap.size = b := ⟨_, rfl⟩
              rw [hbI] at HE4 ⊢
              have e16 : bvs (List.replicate 16 false) = bvs (gapL 0 0) := by kernel_rfl
              change Hid (Ex W (w3.alloc (.cells #[.bool false, .bool false, .bool false, .bool false, .bool false, .bool false, .bool false, .bool false, .bool false, .bool false, .bool false, .bool false, .bool false, .bool false, .bool false, .bool false] 83)) ⟨p, c, s⟩ B M 0 (gapL B B) (List.replicate 4 none) [(bS, 42, [.int .i64 0, .int .i64 B, .int .i64 M]), (bI, 83, bvs (List.replicate 16 false))]) at HE4
              rw [e16] at HE4
              generalize (w3.alloc (.cells _ 83)) = w4 at *
              clear hbI e16
              go_wp2_with fail
              go_loopw [12] (fun v wr => ∃ i : Nat, i ≤ B ∧ v = .int .i64 i ∧ Ex W wr ⟨p, c, s⟩ B M 0 (gapL B B) (List.replicate 4 none) [(bS, 42, [.int .i64 0, .int .i64 B, .int .i64 M]), (bI, 83, bvs (gapL 0 i))]) (fun v _ => B - (intOf v).toNat)
              case atStart => exact ⟨0, by omega, rfl, HE4.out⟩
              case round =>
                clear HE4
                obtain ⟨i, hiB, rfl, hE⟩ := hrel
                by_cases hlt : i < B
                · have g1 : (0 : Int) ≤ (i : Int) := by omega
                  have g2 : (i : Int) < 16 := by omega
                  have ci := hE.cell 1 rfl i (bvs_get (l := gapL 0 i) (by rw [length_gapL]; omega) rfl)
                  have fi := hE.frozen 1 rfl i
                  have HE := Lib.hid hE
                  clear hE
                  go_wp2_with fail
                  have hE5 := HE.out.store 1 rfl i (.bool true)
                  rw [bvs_set, gapL_on (by omega) (by omega)] at hE5
                  go_roundw
                  case rel => exact ⟨i + 1, by omega, by go_num, hE5⟩
                  case measure => simp [intOf]; omega
                · obtain ⟨hiq⟩ : Nonempty (i = B) := ⟨by omega⟩
                  rw [hiq] at hE
                  clear hiq hiB
                  rw [fullL_gap B (by omega)] at hE
                  have HE := Lib.hid hE
                  clear hE
                  have hmk1 : ∀ w, (Instr.makeSlice 62 (.int .i64 4) (.int .i64 4)).run Tryd.prog w = .ok (.slice (some ⟨w.heap.size, 0, none⟩) 4 4) (w.alloc (.cells #[.pointer none, .pointer none, .pointer none, .pointer none] 36)) := fun _ => by kernel_rfl
                  have hmk2 : ∀ w, (Instr.makeSlice 84 (.int .i64 4) (.int .i64 4)).run Tryd.prog w = .ok (.slice (some ⟨w.heap.size, 0, none⟩) 4 4) (w.alloc (.cells #[.bool false, .bool false, .bool false, .bool false] 4)) := fun _ => by kernel_rfl
                  have hmk3 : ∀ w, (Instr.makeSlice 22 (.int .i64 4) (.int .i64 4)).run Tryd.prog w = .ok (.slice (some ⟨w.heap.size, 0, none⟩) 4 4) (w.alloc (.cells #[.int .i64 0, .int .i64 0, .int .i64 0, .int .i64 0] 3)) := fun _ => by kernel_rfl
                  go_upto_region 13 with fail
                  have hE6 := HE.out.alloc 36 [.pointer none, .pointer none, .pointer none, .pointer none]
                  obtain ⟨gO, hgO⟩ : ∃ b, wr.heap.size = b := ⟨_, rfl⟩
                  rw [hgO] at hE6 ⊢
                  generalize (wr.alloc (.cells _ 36)) = w6 at *
                  have HE6 := Lib.hid hE6
                  clear hE6 hgO HE hmk1
                  go_upto_region 14 with fail
                  have hE7 := HE6.out.alloc 4 [.bool false, .bool false, .bool false, .bool false]
                  obtain ⟨gB, hgB⟩ : ∃ b, w6.heap.size = b := ⟨_, rfl⟩
                  rw [hgB] at hE7 ⊢
                  generalize (w6.alloc (.cells _ 4)) = w7 at *
                  have HE7 := Lib.hid hE7
                  clear hE7 hgB HE6 hmk2
                  go_upto_region 15 with fail
                  have hE8 := HE7.out.alloc 3 [.int .i64 0, .int .i64 0, .int .i64 0, .int .i64 0]
                  obtain ⟨gK, hgK⟩ : ∃ b, w7.heap.size = b := ⟨_, rfl⟩
                  rw [hgK] at hE8 ⊢
                  generalize (w7.alloc (.cells _ 3)) = w8 at *
                  have HE8 := Lib.hid hE8
                  clear hE8 hgK HE7
                  go_upto_region 16 with fail
                  have hE9 := HE8.out.alloc 3 [.int .i64 0, .int .i64 0, .int .i64 0, .int .i64 0]
                  obtain ⟨gF, hgF⟩ : ∃ b, w8.heap.size = b := ⟨_, rfl⟩
                  rw [hgF] at hE9 ⊢
                  generalize (w8.alloc (.cells _ 3)) = w9 at *
                  have HE9 := Lib.hid hE9
                  clear hE9 hgF HE8 hmk3
                  go_wp2_with fail
                  go_loopw [17, 18] (fun x v wr => ∃ (k : Nat) (wt : Int) (L : List Bool) (ops : List (Option (Nat × OS))) (busy : List Bool) (kinds selfs : List Int), k ≤ n ∧ -(k : Int) ≤ wt ∧ wt ≤ k ∧ x = .int .i64 wt ∧ v = .int .i64 k ∧ Ex W wr ⟨p, c, s⟩ B M wt L ops [(bS, 42, [.int .i64 0, .int .i64 B, .int .i64 M]), (bI, 83, bvs (fullL B L)), (gO, 36, (ops).map ptrOf), (gB, 4, bvs (busy)), (gK, 3, ints (kinds)), (gF, 3, ints (selfs))] ∧ CpOk B M ops busy kinds selfs) (fun _ v _ => n - (intOf v).toNat)
                  case atStart => exact ⟨0, 0, gapL B B, List.replicate 4 none, List.replicate 4 false, List.replicate 4 0, List.replicate 4 0, by omega, by simp, by simp, rfl, rfl, HE9.out, CpOk.first B M⟩
                  case round =>
                    clear HE9
                    obtain ⟨k, wt, L, ops, busy, kinds, selfs, hk, hw1, hw2, rfl, rfl, hE, hC⟩ := hrel
                    by_cases hlt : k < n
                    · obtain ⟨_, _, hcell⟩ := F
                      obtain ⟨g, off, rfl, hgb, hgc⟩ := hcell (by omega)
                      obtain ⟨sl, hsl⟩ : ∃ v, v = z.getD (k * 4) 0 := ⟨_, rfl⟩
                      obtain ⟨dv, hdv⟩ : ∃ v, v = z.getD (k * 4 + 1) 0 := ⟨_, rfl⟩
                      obtain ⟨self, hself⟩ : ∃ v, v = z.getD (k * 4 + 2) 0 := ⟨_, rfl⟩
                      obtain ⟨wv, hwv⟩ : ∃ v, v = z.getD (k * 4 + 3) 0 := ⟨_, rfl⟩
                      have cl : wr.cell? ⟨g, off + k * 4, none⟩ = some (.int .i64 sl) := by rw [hsl, hE.bel.cell (by exact hgb)]; exact hgc (k * 4) (by omega)
                      have HD : Hid (∀ w', Below W.heap.size W w' → w'.cell? ⟨g, off + k * 4 + 1, none⟩ = some (.int .i64 dv)) := Lib.hid (fun w' hb => by rw [hdv, hb.cell (by exact hgb)]; exact hgc (k * 4 + 1) (by omega))
                      have HS : Hid (∀ w', Below W.heap.size W w' → w'.cell? ⟨g, off + k * 4 + 2, none⟩ = some (.int .i64 self)) := Lib.hid (fun w' hb => by rw [hself, hb.cell (by exact hgb)]; exact hgc (k * 4 + 2) (by omega))
                      have HV : Hid (∀ w', Below W.heap.size W w' → w'.cell? ⟨g, off + k * 4 + 3, none⟩ = some (.int .i64 wv)) := Lib.hid (fun w' hb => by rw [hwv, hb.cell (by exact hgb)]; exact hgc (k * 4 + 3) (by omega))
                      obtain ⟨r, hr4, hrr⟩ := pick4 sl
                      obtain ⟨kd0, hkd, hkk⟩ := pick3 dv
                      obtain ⟨r2, hr24, hrr2⟩ := pick4 wv
                      have HKK := Lib.hid hkk
                      have HRR2 := Lib.hid hrr2
                      have HE := Lib.hid hE
                      have HC := Lib.hid hC
                      clear hcell hsl hdv hself hwv hgc hkk hrr2 hE hC
                      go_upto_region 21 with fail
                      clear cl hrr
                      have g1 : (0 : Int) ≤ (r : Int) := by omega
                      have g2 : (r : Int) < 4 := by omega
                      obtain ⟨bz, hbz⟩ : ∃ v, busy.getD r false = v := ⟨_, rfl⟩
                      have cB := HE.out.cell 3 rfl r (bvs_get (by rw [HC.out.lb]; exact hr4) hbz)
                      have HBZ := Lib.hid hbz
                      clear hbz
                      go_upto_if 98 with fail
                      go_cut [17] from 94 to 149 (fun x wc => ∃ (wait' : Int) (ops' : List (Option (Nat × OS))) (kinds' selfs' : List Int) (o : Nat) (q : OS) (kd : Nat) (sf : Int), x = .int .i64 wait' ∧ Ex W wc ⟨p, c, s⟩ B M wt L ops' [(bS, 42, [.int .i64 0, .int .i64 B, .int .i64 M]), (bI, 83, bvs (fullL B L)), (gO, 36, (ops').map ptrOf), (gB, 4, bvs (busy.set r true)), (gK, 3, ints (kinds')), (gF, 3, ints (selfs'))] ∧ CpM B M ops' (busy.set r true) kinds' selfs' r o q kd sf wt wait')
                      case first =>
                        as_aux_lemma =>
                          cases bz with
                          | true =>
                            go_wp2_with fail
                            go_meet
                            case rel =>
                              obtain ⟨e, o, q, kd, hM⟩ := HC.out.goes hr4 HBZ.out wt
                              exact ⟨wt, ops, kinds, selfs, o, q, kd, _, rfl, by rw [e]; exact HE.out, by rw [e]; exact hM⟩
                          | false =>
                            have fB := HE.out.frozen 3 rfl r
                            go_upto_region 23 with fail
                            have hE1 := HE.out.store 3 rfl r (.bool true)
                            rw [bvs_set] at hE1
                            have HE1 := Lib.hid hE1
                            clear hE1 fB cB HE
                            generalize (wr.setCell ⟨gB, r, none⟩ (.bool true)) = w10 at *
                            have c1 := HD.out w10 HE1.out.bel
                            have fK := HE1.out.frozen 4 rfl r
                            have cK0 := HE1.out.cell 4 rfl r (ints_get (l := kinds) (by rw [HC.out.lk]; exact hr4) rfl)
                            have hkk := HKK.out
                            go_upto_region 24 with fail
                            have hE2 := HE1.out.store 4 rfl r (.int .i64 kd0)
                            rw [ints_set] at hE2
                            have HE2 := Lib.hid hE2
                            clear hE2 fK c1 HE1 hkk cK0
                            generalize (w10.setCell ⟨gK, r, none⟩ (.int .i64 kd0)) = w11 at *
                            have c2 := HS.out w11 HE2.out.bel
                            have fF := HE2.out.frozen 5 rfl r
                            have cF0 := HE2.out.cell 5 rfl r (ints_get (l := selfs) (by rw [HC.out.lf]; exact hr4) rfl)
                            go_upto_region 25 with fail
                            have hE3 := HE2.out.store 5 rfl r (.int .i64 self)
                            rw [ints_set] at hE3
                            have HE3 := Lib.hid hE3
                            clear hE3 fF c2 HE2 cF0
                            generalize (w11.setCell ⟨gF, r, none⟩ (.int .i64 self)) = w12 at *
                            have c1 := HD.out w12 HE3.out.bel
                            have c2 := HS.out w12 HE3.out.bel
                            have c0 := (HE3.out.blk 0 _ _ _ rfl).1.cell
                            have HE4 := Lib.hid (HE3.out.below ((Below.refl _ w12).drew))
                            have HBeg := Lib.hid (HE4.out.begin r self dv kd0 hkd HKK.out)
                            go_region_held3 (fun w' => (∀ i, w'.cell? ⟨bS, i, none⟩ = [Value.int .i64 0, .int .i64 B, .int .i64 M][i]?) ∧ w'.cell? ⟨g, off + k * 4 + 1, none⟩ = some (.int .i64 dv) ∧ w'.cell? ⟨g, off + k * 4 + 2, none⟩ = some (.int .i64 self)) (first | exact ⟨c0, c1, c2⟩ | exact ⟨c0', c1', c2'⟩ | exact ⟨e0', e1', e2'⟩) (first
                              | (go_at_call 27; refine HBeg.out.mono ?_; rintro e w13 ⟨o, rfl, hE5⟩; have HE5 := Lib.hid hE5; have c0' := (HE5.out.blk 0 _ _ _ rfl).1.cell; have c1' := HD.out w13 HE5.out.bel; have c2' := HS.out w13 HE5.out.bel; have fO := HE5.out.frozen 2 rfl r; have cO0 := HE5.out.cell 2 rfl r (ptr_any (ops := ops) (by rw [HC.out.lo]; exact hr4)); have HE6 := Lib.hid (HE5.out.store 2 rfl r (.pointer (some ⟨o, 0, none⟩))); have e0' := (HE6.out.blk 0 _ _ _ rfl).1.cell; have e1' := HD.out _ HE6.out.bel; have e2' := HS.out _ HE6.out.bel; clear hE5))
                            clear HE3 HE4 HBeg c0 c1 c2 c0' c1' c2' e0' e1' e2' HE6
                            have hE6 := HE5.out.store 2 rfl r (.pointer (some ⟨o, 0, none⟩))
                            rw [map_ptr_set ops r o (begQ kd0 self)] at hE6
                            have HE6 := Lib.hid hE6
                            clear hE6 fO HE5 cO0
                            generalize (w13.setCell ⟨gO, r, none⟩ (.pointer (some ⟨o, 0, none⟩))) = w14 at *
                            have cK := HE6.out.cell 4 rfl r (ints_get (l := kinds.set r kd0) (v := kd0) (by rw [List.length_set, HC.out.lk]; exact hr4) (by rw [getD_set _ _ _ _ _ (by rw [HC.out.lk]; exact hr4), if_pos rfl]))
                            have hM := HC.out.begins hr4 o kd0 hkd self wt
                            have HM := Lib.hid hM
                            clear hM
                            have hcase : kd0 = 0 ∨ kd0 = 1 ∨ kd0 = 2 := by omega
                            rcases hcase with rfl | rfl | rfl
                            · have hww : wrap64 (wt + 1) = wt + 1 := by unfold wrap64; omega
                              go_wp2_with fail
                              go_meet
                              case rel => exact ⟨wt + 1, _, _, _, o, _, 0, self, rfl, HE6.out, HM.out⟩
                            · have hww : wrap64 (wt - 1) = wt - 1 := by unfold wrap64; omega
                              go_wp2_with fail
                              go_meet
                              case rel => exact ⟨wt - 1, _, _, _, o, _, 1, self, rfl, HE6.out, HM.out⟩
                            · go_wp2_with fail
                              go_meet
                              case rel => exact ⟨wt, _, _, _, o, _, 2, self, rfl, HE6.out, by have := HM.out; rw [show wt + dwt (begQ 2 self).ph = wt by simp [dwt, begQ]] at this; exact this⟩
                      case rest =>
                        obtain ⟨wait', ops', kinds', selfs', o, q, kd, sf, rfl, hE1, hM⟩ := hcut
                        obtain ⟨L', q', hst, hi', hSR⟩ := hM.opi.step hBM hE1.inl (wt := wt) (by omega)
                        have hwait := hM.wait
                        have hdw : -1 ≤ dwt q.ph ∧ dwt q.ph ≤ 1 := by unfold dwt; split; omega; split <;> omega
                        have hw3 : -(k : Int) - 1 ≤ wait' ∧ wait' ≤ k + 1 := by omega
                        rw [← hwait] at hst
                        obtain ⟨dn, hdn⟩ : ∃ v, (q'.ph == 0) = v := ⟨_, rfl⟩
                        obtain ⟨mv, hmv⟩ : ∃ v, q'.mv = v := ⟨_, rfl⟩
                        have cO := hE1.cell 2 rfl r (ptr_get hM.op)
                        have cV := HV.out wc hE1.bel
                        have HRI : Hid ((IntKind.i64.wrap (wv.tmod 4 + 4)).tmod 4 = (r2 : Int)) := Lib.hid (by rw [← wrap_i64']; exact HRR2.out)
                        have HLL := Lib.hid hE1.inl.len
                        have HE1 := Lib.hid hE1
                        have HM := Lib.hid hM
                        have HST := Lib.hid hst
                        have HSR := Lib.hid hSR
                        have HDN := Lib.hid hdn
                        have HMV := Lib.hid hmv
                        clear hE1 hM hst hSR hwait hdw hdn hmv HE HC HBZ cB
                        go_upto_region 30 with fail
                        have HE2 := Lib.hid (HE1.out.below ((Below.refl _ wc).drew))
                        have HStep := Lib.hid (HE2.out.step HM.out.op (HM.out.opi.ok hBM wt _) HST.out hi' r2 (by omega) dn HDN.out)
                        go_region_held3 (fun w' => w'.cell? ⟨gO, r, none⟩ = some (.pointer (some ⟨o, 0, none⟩)) ∧ w'.cell? ⟨g, off + k * 4 + 3, none⟩ = some (.int .i64 wv)) (first | exact ⟨cO, cV⟩ | exact ⟨cO', cV'⟩) (first
                          | (go_at_call 25; rw [HRI.out]; refine HStep.out.mono ?_; rintro e w15 ⟨rfl, hE3⟩; have HE3 := Lib.hid hE3; have cO' := HE3.out.cell 2 rfl r (ptr_get HM.out.op); have cV' := HV.out w15 HE3.out.bel; clear hE3))
                        clear HE1 HE2 HStep cO cV cO' cV'
                        have hE3 := HE3.out
                        clear HE3
                        have hop : (ops'.set r (some (o, q')))[r]? = some (some (o, q')) := by rw [List.getElem?_set, if_pos rfl, if_pos (by rw [HM.out.lo]; exact hr4)]
                        rw [← map_ptr_same ops' r o q q' HM.out.op] at hE3
                        have cO := hE3.cell 2 rfl r (ptr_get hop)
                        have HE3 := Lib.hid hE3
                        have HOP := Lib.hid hop
                        clear hE3 hop
                        go_wp2_with fail
                        refine (HE3.out.moved HOP.out mv HMV.out).mono ?_
                        rintro e wn ⟨rfl, rfl⟩
                        go_upto_region 32 with fail
                        clear cO
                        go_cut [188] from 172 to 188 (fun x wx => x = .bool false ∧ Ex W wx ⟨p, c, s⟩ B M wait' L' (ops'.set r (some (o, q'))) [(bS, 42, [.int .i64 0, .int .i64 B, .int .i64 M]), (bI, 83, bvs (fullL B L)), (gO, 36, (ops'.set r (some (o, q'))).map ptrOf), (gB, 4, bvs (busy.set r true)), (gK, 3, ints (kinds')), (gF, 3, ints (selfs'))])
                        case first =>
                          as_aux_lemma =>
                            have c0 := (HE3.out.blk 0 _ _ _ rfl).1.cell
                            have n1 : (wait' != wait') = false := by simp
                            have hdn := HDN.out
                            have hmv := HMV.out
                            rcases HSR.out with ⟨a1, _, a2, _⟩ | ⟨a1, a2, _⟩ | ⟨a1, j, a2, j1, j2, _⟩
                            · rw [a2] at hmv
                              subst hmv
                              rw [show (q'.ph == 0) = false by simpa using a1] at hdn
                              subst hdn
                              clear a1 a2
                              go_wp2_with fail
                              refine HE3.out.blocked.mono ?_
                              rintro e w16 ⟨rfl, hb16⟩
                              go_wp2_with fail
                              go_meet
                              case rel => exact ⟨rfl, HE3.out.below hb16⟩
                            · rw [a2] at hmv
                              subst hmv
                              rw [show (q'.ph == 0) = true by simpa using a1] at hdn
                              subst hdn
                              clear a1 a2
                              go_wp2_with fail
                              refine HE3.out.blocked.mono ?_
                              rintro e w16 ⟨rfl, hb16⟩
                              go_wp2_with fail
                              go_meet
                              case rel => exact ⟨rfl, HE3.out.below hb16⟩
                            · rw [a2] at hmv
                              subst hmv
                              rw [show (q'.ph == 0) = true by simpa using a1] at hdn
                              subst hdn
                              clear a1 a2
                              have n2 : ((j : Int) != -1) = true := by simp
                              go_wp2_with fail
                              refine HE3.out.blocked.mono ?_
                              rintro e w16 ⟨rfl, hb16⟩
                              go_wp2_with fail
                              go_meet
                              case rel => exact ⟨rfl, HE3.out.below hb16⟩
                        case rest =>
                        obtain ⟨rfl, hE4⟩ := hcut
                        have HE4 := Lib.hid hE4
                        clear hE4 HE3
                        go_upto_if 189 with fail
                        go_cut [23] from 190 to 192 (fun _ wx => Ex W wx ⟨p, c, s⟩ B M wait' L' (ops'.set r (some (o, q'))) [(bS, 42, [.int .i64 0, .int .i64 B, .int .i64 M]), (bI, 83, bvs (fullL B L)), (gO, 36, (ops'.set r (some (o, q'))).map ptrOf), (gB, 4, bvs (busy.set r (!dn))), (gK, 3, ints (kinds')), (gF, 3, ints (selfs'))])
                        case first =>
                          as_aux_lemma =>
                            cases dn with
                            | false =>
                              go_wp2_with fail
                              go_meet
                              case rel => exact HE4.out
                            | true =>
                              have fB := HE4.out.frozen 3 rfl r
                              have cB0 := HE4.out.cell 3 rfl r (bvs_get (l := busy.set r true) (by rw [HM.out.lb]; exact hr4) rfl)
                              go_wp2_with fail
                              have hE5 := HE4.out.store 3 rfl r (.bool false)
                              rw [bvs_set, List.set_set] at hE5
                              go_meet
                              case rel => exact hE5
                        case rest =>
                        have HE5 := Lib.hid hcut
                        clear hcut HE4
                        go_upto_if 194 with fail
                        go_cut [23] from 195 to 243 (fun _ wx => Ex W wx ⟨p, c, s⟩ B M wait' L' (ops'.set r (some (o, q'))) [(bS, 42, [.int .i64 0, .int .i64 B, .int .i64 M]), (bI, 83, bvs (fullL B L')), (gO, 36, (ops'.set r (some (o, q'))).map ptrOf), (gB, 4, bvs (busy.set r (!dn))), (gK, 3, ints (kinds')), (gF, 3, ints (selfs'))])
                        case first =>
                          as_aux_lemma =>
                            have hmv := HMV.out
                            rcases HSR.out with ⟨_, _, a2, a3, _⟩ | ⟨_, a2, a3⟩ | ⟨_, j, a2, j1, j2, a3⟩
                            · rw [a2] at hmv
                              subst hmv
                              have hE6 := HE5.out
                              rw [← a3] at hE6
                              have HE6 := Lib.hid hE6
                              clear a2 a3 hE6
                              go_wp2_with fail
                              go_meet
                              case rel => exact HE6.out
                            · rw [a2] at hmv
                              subst hmv
                              have hE6 := HE5.out
                              rw [← a3] at hE6
                              have HE6 := Lib.hid hE6
                              clear a2 a3 hE6
                              go_wp2_with fail
                              go_meet
                              case rel => exact HE6.out
                            · rw [a2] at hmv
                              subst hmv
                              have n2 : ((j : Int) != -1) = true := by simp
                              have hf := length_fullL (b := B) (L := L) HLL.out (by omega)
                              have hrow : (fullL B L).getD j false = L.getD j false := by rw [fullL_getD, decide_eq_false (by omega)]; rfl
                              have t1 : decide ((j : Int) < (B : Int)) = false := decide_eq_false (by omega)
                              have t2 : decide ((B : Int) + M ≤ (j : Int)) = false := decide_eq_false (by omega)
                              have t1' : decide (j < B) = false := decide_eq_false (by omega)
                              have t2' : decide (B + M ≤ j) = false := decide_eq_false (by omega)
                              have i1 : IntKind.i64.wrap ((B : Int) + M) = (B : Int) + M := by rw [IntKind.wrap_i64]; omega
                              have g3 : (0 : Int) ≤ (j : Int) := by omega
                              have g4 : (j : Int) < 16 := by omega
                              have n3 : ((j : Int) != (j : Int)) = false := by simp
                              have cF := HE5.out.cell 5 rfl r (ints_get (l := selfs') (by rw [HM.out.lf]; exact hr4) HM.out.sfe)
                              have cK := HE5.out.cell 4 rfl r (ints_get (l := kinds') (by rw [HM.out.lk]; exact hr4) HM.out.kde)
                              have fI := HE5.out.frozen 1 rfl j
                              rcases a3 with ⟨b1, b2, b3⟩ | ⟨b1, b2, b3, b4⟩
                              · subst b1
                                rw [show ((0 : Nat) : Int) = 0 from rfl] at cK
                                have q1 : ((0 : Int) == 2) = false := rfl
                                have q2 : ((0 : Int) == 1) = false := rfl
                                have q3 : (false != false) = false := rfl
                                have cI := HE5.out.cell 1 rfl j (bvs_get (l := fullL B L) (by rw [hf]; omega) (hrow.trans b2))
                                have hset := fullL_set HLL.out (show B ≤ 16 by omega) j1 (by omega) true
                                rw [← b3] at hset
                                have HSET := Lib.hid hset
                                clear hf hrow b2 b3 a2 hset
                                go_upto_region 37 with fail
                                go_big_quiet (fail)
                                go_wp2_with fail
                                have hE6 := (HE5.out.below (below_drewN' (Below.refl _ wc) nq)).store 1 rfl j (.bool true)
                                rw [bvs_set, HSET.out] at hE6
                                go_meet
                                case rel => exact hE6
                              · subst b1
                                rw [b2] at cF
                                rw [show ((2 : Nat) : Int) = 2 from rfl] at cK
                                have q1 : ((2 : Int) == 2) = true := rfl
                                have q2 : ((2 : Int) == 1) = false := rfl
                                have q3 : (true != true) = false := rfl
                                have cI := HE5.out.cell 1 rfl j (bvs_get (l := fullL B L) (by rw [hf]; omega) (hrow.trans b3))
                                have hset := fullL_set HLL.out (show B ≤ 16 by omega) j1 (by omega) false
                                rw [← b4] at hset
                                have HSET := Lib.hid hset
                                clear hf hrow b2 b3 b4 a2 hset
                                go_upto_region 37 with fail
                                go_big_quiet (fail)
                                go_wp2_with fail
                                have hE6 := (HE5.out.below (below_drewN' (Below.refl _ wc) nq)).store 1 rfl j (.bool false)
                                rw [bvs_set, HSET.out] at hE6
                                go_meet
                                case rel => exact hE6
                        case rest =>
                        have HE6 := Lib.hid hcut
                        have hok := HM.out.done hr4 HSR.out
                        rw [HDN.out, List.set_set] at hok
                        have HOK := Lib.hid hok
                        have HLL' := Lib.hid hi'.len
                        have hcl := count_le hi'
                        have hcf := count_fullL hi' (by omega)
                        obtain ⟨N1, hN1⟩ : ∃ x, (fullL B L').count true = x := ⟨_, rfl⟩
                        have hN1M : N1 ≤ B + M := by omega
                        have HN1 := Lib.hid hN1
                        clear hcut HE5 hok hcl hcf hN1
                        go_wp2_with fail
                        go_loopw [23, 24] (fun x v wx => ∃ j : Nat, j ≤ 16 ∧ x = .int .i64 (((fullL B L').take j).count true : Nat) ∧ v = .int .i64 j ∧ Ex W wx ⟨p, c, s⟩ B M wait' L' (ops'.set r (some (o, q'))) [(bS, 42, [.int .i64 0, .int .i64 B, .int .i64 M]), (bI, 83, bvs (fullL B L')), (gO, 36, (ops'.set r (some (o, q'))).map ptrOf), (gB, 4, bvs (busy.set r (!dn))), (gK, 3, ints (kinds')), (gF, 3, ints (selfs'))]) (fun _ v _ => 16 - (intOf v).toNat)
                        case atStart => exact ⟨0, by omega, by simp, rfl, HE6.out⟩
                        case round =>
                          clear HE6
                          obtain ⟨j, hj, rfl, rfl, hE⟩ := hrel
                          have HE := Lib.hid hE
                          clear hE
                          by_cases hj16 : j < 16
                          · as_aux_lemma =>
                            have g3 : (0 : Int) ≤ (j : Int) := by omega
                            have g4 : (j : Int) < 16 := by omega
                            have hfl : (fullL B L').length = 16 := length_fullL HLL'.out (by omega)
                            obtain ⟨v, hv⟩ : ∃ v, (fullL B L').getD j false = v := ⟨_, rfl⟩
                            obtain ⟨C, hCC⟩ : ∃ C, ((fullL B L').take j).count true = C := ⟨_, rfl⟩
                            have hnx := count_take_succ (R := fullL B L') (j := j) (by omega)
                            rw [hv, hCC] at hnx
                            have hC16 : C ≤ 16 := by rw [← hCC]; exact Nat.le_trans List.count_le_length (by rw [List.length_take]; omega)
                            rw [hCC]
                            have HNX := Lib.hid hnx
                            have n1 : (v != v) = false := by simp
                            have HVB := Lib.hid (bvs_get (l := fullL B L') (by omega) hv)
                            have HON : Hid (∀ q : BelowOf wr, Calls Tryd.prog 29 #[.agg #[.int .i64 0, .int .i64 B, .int .i64 M], .pointer (some ⟨p, 0, none⟩), .int .i64 j] q.v fun e w' => e = .returned (.bool v) ∧ ∃ q' : BelowOf wr, w' = q'.v) := Lib.hid (fun q => Calls.below_of q ((HE.out.below q.bel).isOn j v (by rw [decide_eq_true (show (0 : Int) ≤ (j : Int) ∧ (j : Int) < 16 by omega), Int.toNat_natCast, hv]; rfl)))
                            clear hnx hCC hfl hv
                            go_upto_region 44 with fail
                            have cb : ∀ (q : BelowOf wr) (i : Nat), q.v.cell? ⟨bS, i, none⟩ = [Value.int .i64 0, .int .i64 B, .int .i64 M][i]? := fun q => ((HE.out.below q.bel).blk 0 _ _ _ rfl).1.cell
                            have ci : ∀ q : BelowOf wr, q.v.cell? ⟨bI, j, none⟩ = some (.bool v) := fun q => (HE.out.below q.bel).cell 1 rfl j HVB.out
                            refine wp_region_quiet_below (by kernel_rfl) (by kernel_rfl) ?_
                            repeat (go_big_quiet_step ((go_at_call 29; exact HON.out _)))
                            refine wpQuiet_nil ?_
                            intro _ hw'
                            obtain ⟨pq, hw''⟩ := hw'
                            subst hw''
                            have HE20 := Lib.hid (HE.out.below pq.bel)
                            have ci' := HE20.out.cell 1 rfl j HVB.out
                            clear HE HON cb ci
                            cases v with
                            | true =>
                              as_aux_lemma =>
                                go_wp2_with fail
                                go_roundw
                                case rel => exact ⟨j + 1, by omega, by rw [HNX.out]; simp <;> (unfold wrap64; omega), by go_num, HE20.out⟩
                                case measure => simp [intOf]; omega
                            | false =>
                              as_aux_lemma =>
                                go_wp2_with fail
                                go_roundw
                                case rel => exact ⟨j + 1, by omega, by rw [HNX.out]; simp, by go_num, HE20.out⟩
                                case measure => simp [intOf]; omega
                          · as_aux_lemma =>
                            obtain rfl : j = 16 := by omega
                            rw [List.take_of_length_le (Nat.le_of_eq (length_fullL HLL'.out (by omega))), HN1.out]
                            have t1 : decide ((B : Int) + M < (N1 : Int)) = false := decide_eq_false (by omega)
                            have n1 : ((N1 : Int) != (N1 : Int)) = false := by simp
                            have cb := (HE.out.blk 0 _ _ _ rfl).1.cell
                            go_wp2_with fail
                            refine HE.out.bits.mono ?_
                            rintro e w21 ⟨rfl, hb21⟩
                            have HE21 := Lib.hid (HE.out.below hb21)
                            have hct := count_ok (bitsNat (fullL B L') : Nat) w21 HE21.out.tab
                            have hce : ((membersOf (bitsNat (fullL B L') : Nat)).length : Int) = (N1 : Int) := by
                              have := cnt_bits (length_fullL HLL'.out (show B ≤ 16 by omega))
                              unfold cnt at this
                              rw [this, HN1.out]
                            rw [hce] at hct
                            have HCT := Lib.hid hct
                            clear hct hce HE hb21 cb
                            go_wp2_with fail
                            refine HCT.out.mono ?_
                            rintro e w22 ⟨rfl, hb22⟩
                            have HE22 := Lib.hid (HE21.out.below hb22)
                            have cb := (HE22.out.blk 0 _ _ _ rfl).1.cell
                            clear HCT HE21 hb22
                            go_wp2_with fail
                            refine (HE22.out.isOn 16 false (by simp)).mono ?_
                            rintro e w23 ⟨rfl, hb23⟩
                            have HE23 := Lib.hid (HE22.out.below hb23)
                            have cb2 := (HE23.out.blk 0 _ _ _ rfl).1.cell
                            clear HE22 hb23 cb
                            go_wp2_with fail
                            refine (HE23.out.isOn (-1) false (by simp)).mono ?_
                            rintro e w24 ⟨rfl, hb24⟩
                            have HE24 := Lib.hid (HE23.out.below hb24)
                            clear HE23 hb24 cb2
                            go_wp2_with fail
                            go_roundw
                            case rel => exact ⟨k + 1, wait', L', _, _, kinds', selfs', by omega, by omega, by omega, rfl, by go_num, HE24.out, HOK.out⟩
                            case measure => simp [intOf]; omega
                    · obtain rfl : k = n := by omega
                      have HE := Lib.hid hE
                      clear hE
                      go_wp2_with fail
                      refine (awake18_any wr HE.out.tab).mono ?_
                      rintro e w11 ⟨rfl, hb11⟩
                      have hbel := HE.out.bel.trans (hb11.mono HE.out.bel.size)
                      clear hb11 HE
                      go_wp2_with fail
                      go_ret
                      exact ⟨rfl, hbel⟩
theorem spareCaps_walk (W : World) (hT : Tab W) (b : Int) (w0 : (Lit.int .i64 b).wf = true) (m : Int) (w1 : (Lit.int .i64 m).wf = true) (A : Option Addr) (n c : Nat) (z : List Int) (_h : n ≤ maxLen) (F : Flat W A (n * 4) z) :
    Calls Tryd.prog 11 #[.int .i64 b, .int .i64 m, .slice A n c] W fun e w' => e = .returned (.bool true) ∧ Below W.heap.size W w' := caps_any W hT b m (wf_range w0) (wf_range w1) A n c z F
end Go.Proofs.YtkilghhknimolaaDoor
