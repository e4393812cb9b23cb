/-
  WHAT IS PROVED HERE: the walk of the law pelotonlaw01.CellsLeave: it returns true, and what was there before the call stays. Conditions: the arguments are 64-bit numbers.
-/
import Derived.Test.YtelphbfdibfmoaaCellsLeavePlain
import Derived.Test.YtelphbfdibfmoaaArgs
import Derived.Deep.DeepCutAuto
import Derived.BigQuiet
namespace Go.Proofs.Ytelphbfdibfmoaa
open Go.RowKit

set_option maxRecDepth 100000 in
set_option maxHeartbeats 4000000 in
theorem cellsLeave_walk (W : World) (A : Option Addr) (n c : Nat) (z : List Int) (hmax : n ≤ maxLen) (F : Flat W A (n * 5) z) :
    Calls Try.prog 6 #[.slice A n c] W fun e w' => e = .returned (.bool true) ∧ Below W.heap.size W w' := by
  unfold maxLen at hmax
  by_cases hn : n ≤ 60
  · have d1 : decide ((60 : Int) < (n : Int)) = false := by simp; omega
    go_enter Try.func6, Try.ntmps6
    go_wp2_with fail
    refine (made_any _).mono ?_
    rintro e w1 ⟨mb, rfl, hm, bel1, hf⟩
    have hs1 : LeaveSt MS.made16 := ⟨rfl, rfl, rfl⟩
    go_wp2_with fail
    go_loopw [4] (fun i wr => ∃ (k : Nat) (st : MS), k ≤ n ∧ i = .int .i64 k ∧ MachP wr mb st ∧ LeaveSt st ∧ Below W.heap.size W wr) (fun i _ => n - (intOf i).toNat)
    case atStart => exact ⟨0, _, Nat.zero_le _, rfl, hm, hs1, bel1⟩
    case round =>
      clear hm hs1 bel1
      obtain ⟨k, st, hk, rfl, hm, hs, bel⟩ := hrel
      by_cases hlt : k < n
      · obtain ⟨wo, rfl⟩ : ∃ wo : World, wo = wr := ⟨_, rfl⟩
        obtain ⟨_, _, hcell⟩ := F
        obtain ⟨b, off, rfl, hb, hc⟩ := hcell (by omega)
        go_wp2_with fail
        have q0 : Blk (wo.alloc (.cells (ints (List.replicate 17 0)).toArray 43)) wo.heap.size 43 (ints (List.replicate 17 0)) := Blk.new wo _ _
        go_loopw [6] (fun v w2 => ∃ (j : Nat) (l : List Int), j ≤ 17 ∧ v = .int .i64 j ∧ l.length = 17 ∧ (∀ q : Nat, q < j → l.getD q 0 = st.cellOf q) ∧ Blk w2 wo.heap.size 43 (ints l) ∧ Below wo.heap.size wo w2) (fun v _ => 17 - (intOf v).toNat)
        case atStart => exact ⟨0, _, by omega, rfl, by simp, by omega, q0, (Below.refl _ _).alloc (Nat.le_refl _) _⟩
        case round =>
          clear q0
          obtain ⟨j, l, hj, rfl, hll, hlq, q1, bw⟩ := hrel
          have hm2 : MachP wr mb st := hm.kept (Kept.of_below (S := fun _ => False) bw) (fun _ _ f => f)
          by_cases hj17 : j < 17
          · have cw : wr.cell? ⟨wo.heap.size, j, none⟩ = some (.int .i64 (l.getD j 0)) := by rw [q1.cell, get_ints]; simp [List.getD, hll, hj17]
            have fw := q1.frozen j
            go_wp2_with fail
            refine (peek_any mb st j _ hm2).mono ?_
            rintro e w3 ⟨rfl, rfl⟩
            go_wp2
            go_roundw
            case rel =>
              refine ⟨j + 1, l.set j (st.cellOf j), by omega, by go_num, by simp [hll], ?_, ?_, bw.setCell (p := ⟨wo.heap.size, j, none⟩) (Nat.le_refl _) _⟩
              · intro q hq
                by_cases e : q = j
                · subst e; simp [List.getD, hll, hj17]
                · have := hlq q (by omega)
                  simp only [List.getD] at this ⊢
                  rw [List.getElem?_set_ne (Ne.symm e)]
                  exact this
              · have := q1.set j (.int .i64 (st.cellOf j))
                rwa [set_ints] at this
            case measure => simp [intOf]; omega
          · obtain rfl : j = 17 := by omega
            rw [show ((17 : Nat) : Int) = 17 from rfl]
            obtain ⟨w2, rfl⟩ : ∃ w2 : World, w2 = wr := ⟨_, rfl⟩
            clear hj hj17
            go_wp2_with fail
            have r0 : Blk (w2.alloc (.cells (ints (List.replicate 5 0)).toArray 44)) w2.heap.size 44 (ints (List.replicate 5 0)) := Blk.new w2 _ _
            go_loopw [8] (fun v w3 => ∃ (j : Nat) (l' : List Int), j ≤ 5 ∧ v = .int .i64 j ∧ l'.length = 5 ∧ (∀ q : Nat, q < j → l'.getD q 0 = st.stepsOf ((q : Int) - 1)) ∧ Blk w3 w2.heap.size 44 (ints l') ∧ Below w2.heap.size w2 w3) (fun v _ => 5 - (intOf v).toNat)
            case atStart => exact ⟨0, _, by omega, rfl, by simp, by omega, r0, (Below.refl _ _).alloc (Nat.le_refl _) _⟩
            case round =>
              clear r0
              obtain ⟨j, l', hj, rfl, hll', hlq', r1, bs⟩ := hrel
              have hm3 : MachP wr mb st := hm2.kept (Kept.of_below (S := fun _ => False) bs) (fun _ _ f => f)
              by_cases hj5 : j < 5
              · have cw : wr.cell? ⟨w2.heap.size, j, none⟩ = some (.int .i64 (l'.getD j 0)) := by rw [r1.cell, get_ints]; simp [List.getD, hll', hj5]
                have fw := r1.frozen j
                go_wp2_with fail
                refine (steps_any mb st ((j : Int) - 1) _ hm3).mono ?_
                rintro e w3 ⟨rfl, rfl⟩
                go_wp2
                go_roundw
                case rel =>
                  refine ⟨j + 1, l'.set j (st.stepsOf ((j : Int) - 1)), by omega, by go_num, by simp [hll'], ?_, ?_, bs.setCell (p := ⟨w2.heap.size, j, none⟩) (Nat.le_refl _) _⟩
                  · intro q hq
                    by_cases e : q = j
                    · subst e; simp [List.getD, hll', hj5]
                    · have := hlq' q (by omega)
                      simp only [List.getD] at this ⊢
                      rw [List.getElem?_set_ne (Ne.symm e)]
                      exact this
                  · have := r1.set j (.int .i64 (st.stepsOf ((j : Int) - 1)))
                    rwa [set_ints] at this
                case measure => simp [intOf]; omega
              · obtain rfl : j = 5 := by omega
                rw [show ((5 : Nat) : Int) = 5 from rfl]
                obtain ⟨w3, rfl⟩ : ∃ w3 : World, w3 = wr := ⟨_, rfl⟩
                have bw3 : Below wo.heap.size wo w3 := bw.trans (bs.mono bw.size)
                have q3 := q1.below bs (by have := q1.lt; omega)
                have bel3 : Below W.heap.size W w3 := bel.trans (bw3.mono bel.size)
                have hBw : wo.heap.size < w3.heap.size := q3.lt
                have hBs : w2.heap.size < w3.heap.size := r1.lt
                have nBw : ¬ mb.has wo.heap.size := fun h => by have := hm.lt _ h; omega
                have nBs : ¬ mb.has w2.heap.size := fun h => by have := hm2.lt _ h; omega
                clear hj hj5 hm hm2 bw bs q1 bel
                obtain ⟨v0, hv0⟩ : ∃ v, v = z.getD (k * 5) 0 := ⟨_, rfl⟩
                obtain ⟨v1, hv1⟩ : ∃ v, v = z.getD (k * 5 + 1) 0 := ⟨_, rfl⟩
                obtain ⟨v2, hv2⟩ : ∃ v, v = z.getD (k * 5 + 2) 0 := ⟨_, rfl⟩
                obtain ⟨v3, hv3⟩ : ∃ v, v = z.getD (k * 5 + 3) 0 := ⟨_, rfl⟩
                obtain ⟨v4, hv4⟩ : ∃ v, v = z.getD (k * 5 + 4) 0 := ⟨_, rfl⟩
                have c0 : w3.cell? ⟨b, off + k * 5, none⟩ = some (.int .i64 v0) := by rw [hv0, bel3.cell (by exact hb)]; exact hc (k * 5) (by omega)
                have c1 : w3.cell? ⟨b, off + k * 5 + 1, none⟩ = some (.int .i64 v1) := by rw [hv1, bel3.cell (by exact hb)]; exact hc (k * 5 + 1) (by omega)
                have c2 : w3.cell? ⟨b, off + k * 5 + 2, none⟩ = some (.int .i64 v2) := by rw [hv2, bel3.cell (by exact hb)]; exact hc (k * 5 + 2) (by omega)
                have c3 : w3.cell? ⟨b, off + k * 5 + 3, none⟩ = some (.int .i64 v3) := by rw [hv3, bel3.cell (by exact hb)]; exact hc (k * 5 + 3) (by omega)
                have c4 : w3.cell? ⟨b, off + k * 5 + 4, none⟩ = some (.int .i64 v4) := by rw [hv4, bel3.cell (by exact hb)]; exact hc (k * 5 + 4) (by omega)
                clear hv0 hv1 hv2 hv3 hv4 hc
                go_wp2_with fail
                refine (does_any mb st v0 v1 v2 v3 v4 _ hm3 (by rw [hs.2.2]; omega) (by rw [hs.2.2]; omega)).mono ?_
                rintro e w4 ⟨rfl, hk4, c', hm4', _, hceq⟩
                obtain rfl : c' = mb.c := hceq (by rw [hs.2.1, hs.2.2]; rfl)
                have hm4 : MachP w4 mb (doesR st v0 v1 v2 v3 v4).2.2 := hm4'
                have hs4 := hs.does v0 v1 v2 v3 v4
                have hcells := does_cells hs v0 v1 v2 v3 v4
                have hsteps := does_steps st v0 v1 v2 v3 v4
                have bel4 := bel3.trans (hk4.under hf bel3.size)
                have q4 := q3.kept hk4 nBw
                have r4 := r1.kept hk4 nBs
                have c0' : w4.cell? ⟨b, off + k * 5, none⟩ = some (.int .i64 v0) := ((hk4.under hf bel3.size).cell (p := ⟨b, off + k * 5, none⟩) hb).trans c0
                have c1' : w4.cell? ⟨b, off + k * 5 + 1, none⟩ = some (.int .i64 v1) := ((hk4.under hf bel3.size).cell (p := ⟨b, off + k * 5 + 1, none⟩) hb).trans c1
                have c2' : w4.cell? ⟨b, off + k * 5 + 2, none⟩ = some (.int .i64 v2) := ((hk4.under hf bel3.size).cell (p := ⟨b, off + k * 5 + 2, none⟩) hb).trans c2
                obtain ⟨v, er, st4, hr⟩ : ∃ v er st4, doesR st v0 v1 v2 v3 v4 = (v, er, st4) := ⟨_, _, _, rfl⟩
                rw [hr] at hm4 hs4 hsteps ⊢
                rw [hr] at hcells
                simp only at hm4 hs4 hsteps hcells ⊢
                obtain ⟨K, hK⟩ : ∃ K, K = keepsR v0 (v, er, st4) := ⟨_, rfl⟩
                rw [← hK] at hcells
                have HK := Lib.hid hK
                clear hK hr hm4' hk4 hm3 hs q3 r1 c0 c1 c2 c3 c4 bel3 bw3 nBw nBs hceq
                go_upto_region 18 with fail
                go_cut [11] (fun x wc => x = .bool K ∧ w4 = wc)
                case first =>
                  clear hcells hsteps
                  clear hm4 hs4 q4 r4 bel4 hlq hlq' hll hll'
                  by_cases e0 : er = 0
                  · subst e0
                    by_cases e1 : v0 = 0
                    · subst e1
                      go_wp2_with fail
                      go_meet
                      case rel => exact ⟨by rw [HK.out]; simp [keepsR], rfl⟩
                    · by_cases e2 : v0 = 2
                      · subst e2
                        by_cases e3 : v = 0
                        · subst e3
                          go_wp2_with fail
                          go_meet
                          case rel => exact ⟨by rw [HK.out]; simp [keepsR], rfl⟩
                        · have e3' : (v == 0) = false := by simpa using e3
                          go_wp2_with fail
                          go_meet
                          case rel => exact ⟨by rw [HK.out]; simp [keepsR, e3'], rfl⟩
                      · have e1' : (v0 == 0) = false := by simpa using e1
                        have e2' : (v0 == 2) = false := by simpa using e2
                        go_wp2_with fail
                        go_meet
                        case rel => exact ⟨by rw [HK.out]; simp [keepsR, e1', e2'], rfl⟩
                  · have e0' : (er != 0) = true := by simpa using e0
                    go_wp2_with fail
                    go_meet
                    case rel => exact ⟨by rw [HK.out]; simp [keepsR, e0'], rfl⟩
                case rest =>
                  obtain ⟨rfl, rfl⟩ := hcut
                  have hb4 : b < w4.heap.size := Nat.lt_of_lt_of_le hb bel4.size
                  go_wp2_with fail
                  go_loopw [12] (fun x w5 => ∃ j : Nat, j ≤ 17 ∧ x = .int .i64 j ∧ MachP w5 mb st4 ∧ Blk w5 wo.heap.size 43 (ints l) ∧ Blk w5 w2.heap.size 44 (ints l') ∧ Below W.heap.size W w5 ∧ Below w4.heap.size w4 w5) (fun x _ => 17 - (intOf x).toNat)
                  case atStart => exact ⟨0, by omega, rfl, hm4, q4, r4, bel4, Below.refl _ _⟩
                  case round =>
                    clear hm4 q4 r4 bel4
                    obtain ⟨j, hj, rfl, hm5, q5, r5, bel5, b45⟩ := hrel
                    by_cases hj17 : j < 17
                    · have e2 : wr.cell? ⟨b, off + k * 5 + 2, none⟩ = some (.int .i64 v2) := (b45.cell (p := ⟨b, off + k * 5 + 2, none⟩) hb4).trans c2'
                      obtain ⟨u, hu⟩ : ∃ u, u = l.getD j 0 := ⟨_, rfl⟩
                      have cw : wr.cell? ⟨wo.heap.size, j, none⟩ = some (.int .i64 u) := by rw [q5.cell, get_ints, hu]; simp [List.getD, hll, hj17]
                      have hju := hcells j
                      rw [← hlq j hj17, ← hu] at hju
                      clear c0' c1' c2' hcells hsteps hlq hlq' hll hll'
                      have J1 : (j : Int) < 17 := by omega
                      by_cases hpu : st4.cellOf j = u
                      · have HP := Lib.hid hpu
                        have tq : (u != u) = false := by simp
                        clear hpu hju hu
                        go_wp2_with fail
                        go_quiet ((go_at_call 17; exact peek_quiet mb st4 j u _ _ hm5 HP.out))
                        go_wp2
                        go_roundw
                        case rel => exact ⟨j + 1, by omega, by go_num, hm5.drewN _, q5.drewN _, r5.drewN _, below_drewN' bel5 _, below_drewN' b45 _⟩
                        case measure => simp [intOf]; omega
                      · obtain ⟨hKf, hjv⟩ := hju.resolve_left hpu
                        obtain ⟨p, hp⟩ : ∃ p, p = st4.cellOf j := ⟨_, rfl⟩
                        rw [← hp] at hpu
                        have tq : (p != u) = true := by simpa using hpu
                        have HP := Lib.hid hp
                        subst hKf
                        subst hjv
                        clear hpu hju hu hp
                        have tj : ((j : Int) != (j : Int)) = false := by simp
                        go_wp2_with fail
                        go_quiet ((go_at_call 17; exact peek_quiet mb st4 j p _ _ hm5 HP.out.symm))
                        go_wp2
                        go_roundw
                        case rel => exact ⟨j + 1, by omega, by go_num, hm5.drewN _, q5.drewN _, r5.drewN _, below_drewN' bel5 _, below_drewN' b45 _⟩
                        case measure => simp [intOf]; omega
                    · obtain rfl : j = 17 := by omega
                      rw [show ((17 : Nat) : Int) = 17 from rfl]
                      obtain ⟨wq, rfl⟩ : ∃ wq : World, wq = wr := ⟨_, rfl⟩
                      have e1 : wq.cell? ⟨b, off + k * 5 + 1, none⟩ = some (.int .i64 v1) := (b45.cell (p := ⟨b, off + k * 5 + 1, none⟩) hb4).trans c1'
                      have hbq : b < wq.heap.size := Nat.lt_of_lt_of_le hb4 b45.size
                      clear hj hj17 q5 b45 hcells c0' c1' c2' hlq hll
                      go_wp2_with fail
                      go_loopw [13] (fun x w5 => ∃ j : Nat, j ≤ 5 ∧ x = .int .i64 j ∧ MachP w5 mb st4 ∧ Blk w5 w2.heap.size 44 (ints l') ∧ Below W.heap.size W w5 ∧ Below wq.heap.size wq w5) (fun x _ => 5 - (intOf x).toNat)
                      case atStart => exact ⟨0, by omega, rfl, hm5, r5, bel5, Below.refl _ _⟩
                      case round =>
                        clear hm5 r5 bel5
                        obtain ⟨j, hj, rfl, hm5, r5, bel5, b45⟩ := hrel
                        by_cases hj5 : j < 5
                        · have e1' : wr.cell? ⟨b, off + k * 5 + 1, none⟩ = some (.int .i64 v1) := (b45.cell (p := ⟨b, off + k * 5 + 1, none⟩) hbq).trans e1
                          obtain ⟨u, hu⟩ : ∃ u, u = l'.getD j 0 := ⟨_, rfl⟩
                          have cw : wr.cell? ⟨w2.heap.size, j, none⟩ = some (.int .i64 u) := by rw [r5.cell, get_ints, hu]; simp [List.getD, hll', hj5]
                          have hst := hsteps ((j : Int) - 1)
                          rw [← hlq' j hj5, ← hu] at hst
                          clear hsteps hlq' hll' e1 hu
                          have J1 : (j : Int) < 5 := by omega
                          by_cases e0 : er = 0
                          · subst e0
                            by_cases ev : (j : Int) - 1 = v1
                            · subst ev
                              rw [if_pos ⟨rfl, rfl⟩] at hst
                              have HS := Lib.hid hst
                              have tq : (wrap64 (u + 1) != wrap64 (u + 1)) = false := by simp
                              have tj : ((j : Int) - 1 == (j : Int) - 1) = true := by simp
                              clear hst
                              go_wp2_with fail
                              refine (steps_any mb st4 ((j : Int) - 1) _ hm5).mono ?_
                              rw [HS.out]
                              rintro e w6 ⟨rfl, rfl⟩
                              go_wp2
                              go_roundw
                              case rel => exact ⟨j + 1, by omega, by go_num, hm5, r5, bel5, b45⟩
                              case measure => simp [intOf]; omega
                            · rw [if_neg (fun h => ev h.2)] at hst
                              have HS := Lib.hid hst
                              have tq : (u != u) = false := by simp
                              have tj : ((j : Int) - 1 == v1) = false := by simpa using ev
                              clear hst
                              go_wp2_with fail
                              refine (steps_any mb st4 ((j : Int) - 1) _ hm5).mono ?_
                              rw [HS.out]
                              rintro e w6 ⟨rfl, rfl⟩
                              go_wp2
                              go_roundw
                              case rel => exact ⟨j + 1, by omega, by go_num, hm5, r5, bel5, b45⟩
                              case measure => simp [intOf]; omega
                          · rw [if_neg (fun h => e0 h.1)] at hst
                            have HS := Lib.hid hst
                            have tq : (u != u) = false := by simp
                            have te : (er == 0) = false := by simpa using e0
                            clear hst e0
                            go_wp2_with fail
                            refine (steps_any mb st4 ((j : Int) - 1) _ hm5).mono ?_
                            rw [HS.out]
                            rintro e w6 ⟨rfl, rfl⟩
                            go_wp2
                            go_roundw
                            case rel => exact ⟨j + 1, by omega, by go_num, hm5, r5, bel5, b45⟩
                            case measure => simp [intOf]; omega
                        · go_wp2
                          go_roundw
                          case rel => exact ⟨k + 1, st4, by omega, by go_num, hm5, hs4, bel5⟩
                          case measure => simp [intOf]; omega
      · clear F
        go_wp2_with (go_at_call 15; refine (awake01_any _).mono ?_; rintro e w3 ⟨rfl, hb3⟩)
        go_ret
        exact ⟨rfl, bel.trans (hb3.mono bel.size)⟩
  · go_enter Try.func6, Try.ntmps6
    go_wp2_with fail
    refine (made_any _).mono ?_
    rintro e w1 ⟨mb, rfl, hm, bel1, hf⟩
    go_wp2_with (go_at_call 15; refine (awake01_any _).mono ?_; rintro e w3 ⟨rfl, hb3⟩)
    go_ret
    exact ⟨rfl, bel1.trans (hb3.mono bel1.size)⟩
end Go.Proofs.Ytelphbfdibfmoaa
