/-
  WHAT IS PROVED HERE: the walk of the law pelotonlaw11.EventActs: it returns true, and what was there before the call stays. Conditions: the arguments are 64-bit numbers.
-/
import Derived.Test.YtelphbfdibfmoaaActsC
import Derived.Test.YtelphbfdibfmoaaArgs
import Derived.Deep.RegionWith
import Derived.Deep.DeepCutAuto
import Derived.StillTailTactics
import Derived.Deep.RegionHeld3
import Derived.Deep.CutBlock
namespace Go.Proofs.Ytelphbfdibfmoaa
open Go.RowKit

set_option maxRecDepth 100000 in
set_option maxHeartbeats 4000000 in
theorem acts_near (W : World) (A : Option Addr) (n c : Nat) (z : List Int) (hn : n ≤ 300) (F : Flat W A (n * 3) z) :
    Calls Try.prog 10 #[.slice A n c] W fun e w' => e = .returned (.bool true) ∧ Below W.heap.size W w' := by
  have d1 : decide ((300 : Int) < (n : Int)) = false := by simp; omega
  have hmk1 : ∀ w : World, (Instr.makeSlice 73 (.int .i64 3) (.int .i64 3)).run Try.prog w = .ok (.slice (some ⟨w.heap.size, 0, none⟩) 3 3) (w.alloc (.cells #[.int .i64 0, .int .i64 0, .int .i64 0] 62)) := fun _ => by kernel_rfl
  have hmk2 : ∀ w : World, (Instr.makeSlice 74 (.int .i64 3) (.int .i64 3)).run Try.prog w = .ok (.slice (some ⟨w.heap.size, 0, none⟩) 3 3) (w.alloc (.cells #[.pointer none, .pointer none, .pointer none] 65)) := fun _ => by kernel_rfl
  have hmk3 : ∀ w : World, (Instr.makeSlice 75 (.int .i64 3) (.int .i64 3)).run Try.prog w = .ok (.slice (some ⟨w.heap.size, 0, none⟩) 3 3) (w.alloc (.cells #[.pointer none, .pointer none, .pointer none] 76)) := fun _ => by kernel_rfl
  have hmk4 : ∀ w : World, (Instr.makeSlice 22 (.int .i64 3) (.int .i64 3)).run Try.prog w = .ok (.slice (some ⟨w.heap.size, 0, none⟩) 3 3) (w.alloc (.cells #[.int .i64 0, .int .i64 0, .int .i64 0] 2)) := fun _ => by kernel_rfl
  go_enter Try.func10, Try.ntmps10
  go_wp2_with fail
  refine (new_ok 3 2 _ (by omega) (by omega) (by omega) (by omega)).mono ?_
  rintro e w1 ⟨p, s, rfl, hm1, hk1, hp, hs⟩
  have hb1 : Below W.heap.size W w1 := hk1.below (Nat.le_refl _) (fun _ h => h.elim)
  have hp1 := hm1.lt p (.inl rfl)
  have hs1 := hm1.lt s (.inr (.inr rfl))
  have F0 := AcF.start hm1 hb1 hp hs
  clear hm1 hk1 hp hs hb1
  obtain ⟨f0, hf0, F0⟩ := F0
  have HF0 := Lib.hid hf0
  clear hf0
  go_wp2_with fail
  generalize heb : w1.heap.size = eb at *
  clear heb hmk1 hmk2 hmk3 hmk4
  go_loopw [9] (fun v wr => ∃ (i : Nat) (f : Nat → Nat), i ≤ 3 ∧ v = .int .i64 i ∧ AcF W wr f i i i i ∧ Hid (f 0 = p ∧ f 3 = eb ∧ f 4 = eb + 1 ∧ f 5 = eb + 2 ∧ f 6 = eb + 3)) (fun i _ => 3 - (intOf i).toNat)
  case atStart => exact ⟨0, f0, by omega, rfl, F0, HF0⟩
  case round =>
    clear F0 HF0
    obtain ⟨i, f, hi, rfl, hF, HF⟩ := hrel
    by_cases hlt : i < 3
    · skip
      -- PART fill
      have I3 : (i : Int) < 3 := by omega
      go_wp2_with fail
      have ct := ac_new hF hlt; rw [HF.out.1] at ct; refine ct.mono ?_; clear ct
      rintro e w4 ⟨c2, rfl, hF4⟩
      have hG : Hid (setF f 2 c2 0 = p ∧ setF f 2 c2 3 = eb ∧ setF f 2 c2 4 = eb + 1 ∧ setF f 2 c2 5 = eb + 2 ∧ setF f 2 c2 6 = eb + 3) := HF.out
      clear hF HF
      obtain ⟨g, hg⟩ : ∃ g, setF f 2 c2 = g := ⟨_, rfl⟩
      rw [hg] at hF4 hG
      clear hg
      have hl3 := hF4.ev.lt
      rw [hG.out.2.1] at hl3
      have n3 : ¬ eb = w4.heap.size := by omega
      have n3' : ¬ w4.heap.size = eb := by omega
      have ev4 := hF4.ev
      rw [hG.out.2.1] at ev4
      have ce4 := ints_cell ev4 (j := i) (by have : (evl i).length = 3 := evl_len i; omega) rfl
      have fe4 := ev4.frozen i
      have hF6 := (hF4.setev hlt).alloc (.cells #[.int .i64 i] 62)
      rw [hG.out.2.1] at hF6
      have q6 : Blk ((w4.setCell ⟨eb, i, none⟩ (.int .i64 i)).alloc (.cells #[.int .i64 i] 62)) w4.heap.size 62 [.int .i64 i] := by
        have := Blk.new (w4.setCell ⟨eb, i, none⟩ (.int .i64 i)) 62 [.int .i64 i]
        rwa [World.size_setCell] at this
      clear hF4 ev4
      go_wp2_with fail
      have ct := ac_wait hF6 hlt; rw [hG.out.2.2.1] at ct; refine ct.mono ?_; clear ct
      rintro e w7 ⟨x, rfl, hF8, hF7⟩
      have wp7 := hF7.wp
      rw [hG.out.2.2.1] at wp7
      have cw7 := wp7.cell i
      have fw7 := wp7.frozen i
      rw [ptl_at _ _ hlt] at cw7
      have hG8 : Hid (setF g (7 + i) x 0 = p ∧ setF g (7 + i) x 3 = eb ∧ setF g (7 + i) x 4 = eb + 1 ∧ setF g (7 + i) x 5 = eb + 2 ∧ setF g (7 + i) x 6 = eb + 3) := by
        obtain ⟨h0, h3, h4, h5, h6⟩ := hG.out
        refine (?_ : _ ∧ _)
        rw [setF_other _ _ (by omega), setF_other _ _ (by omega), setF_other _ _ (by omega), setF_other _ _ (by omega), setF_other _ _ (by omega)]
        exact ⟨h0, h3, h4, h5, h6⟩
      obtain ⟨g8, hg⟩ : ∃ g8, setF g (7 + i) x = g8 := ⟨_, rfl⟩
      rw [hg] at hF8 hG8
      clear hg
      have hF9 := hF8.newref hlt
      have rp8 := hF7.rp
      have n5 : eb + 1 + 1 < w7.heap.size := by have := rp8.lt; rw [hG.out.2.2.2.1] at this; exact this
      rw [hG8.out.2.2.2.1] at hF9
      rw [hG.out.2.2.2.1] at rp8
      have cr8 := rp8.cell i
      have fr8 := rp8.frozen i
      rw [ptl_at _ _ hlt] at cr8
      have hG9 : Hid (setF g8 (10 + i) w7.heap.size 0 = p ∧ setF g8 (10 + i) w7.heap.size 3 = eb ∧ setF g8 (10 + i) w7.heap.size 4 = eb + 1 ∧ setF g8 (10 + i) w7.heap.size 5 = eb + 2 ∧ setF g8 (10 + i) w7.heap.size 6 = eb + 3) := by
        obtain ⟨h0, h3, h4, h5, h6⟩ := hG8.out
        refine (?_ : _ ∧ _)
        rw [setF_other _ _ (by omega), setF_other _ _ (by omega), setF_other _ _ (by omega), setF_other _ _ (by omega), setF_other _ _ (by omega)]
        exact ⟨h0, h3, h4, h5, h6⟩
      clear ce4 fe4 hF6 q6 hF7 wp7 hF8 rp8 n3 n3' hl3 hG hG8
      have hF9' := hF9
      rw [World.setCell_alloc_past _ _ _ _ (by rw [World.size_setCell]; exact n5), World.size_setCell] at hF9'
      clear hF9
      have HF9 := Lib.hid hF9'
      clear hF9'
      unfold ptrv at HF9 ⊢
      go_wp2_with fail
      go_roundw
      case rel => exact ⟨i + 1, _, by omega, by go_num, HF9.out, hG9⟩
      case measure => simp [intOf]; omega
      -- END fill
    · obtain rfl : i = 3 := by omega
      obtain ⟨G, hW⟩ := hF.done
      obtain ⟨h0, h3, h4, h5, h6⟩ := HF.out
      rw [show eb + 1 + 1 + 1 = f 6 from h6.symm, show eb + 1 + 1 = f 5 from h5.symm, show eb + 1 = f 4 from h4.symm, show eb = f 3 from h3.symm, show p = f 0 from h0.symm, show ((3 : Nat) : Int) = 3 from rfl]
      clear hF HF hlt hi h0 h3 h4 h5 h6 hp1 hs1
      go_wp2_with fail
      refine (a_full hW).mono ?_
      rintro e w2 ⟨rfl, hW2⟩
      have hW3 := hW2.below ((Below.refl _ w2).alloc (Nat.le_refl _) (.cells #[.int .i64 0] 62))
      clear hW hW2
      go_wp2_with fail
      go_loopw [13, 14] (fun d i wr => ∃ (k : Nat) (q : AS), k ≤ n ∧ d = .int .i64 q.did ∧ i = .int .i64 k ∧ AcW W wr f q ∧ AOk q k) (fun _ i _ => n - (intOf i).toNat)
      case atStart => exact ⟨0, _, Nat.zero_le _, rfl, rfl, hW3, AOk.start⟩
      case round =>
        clear hW3
        obtain ⟨k, q, hk, rfl, rfl, hW, hO⟩ := hrel
        by_cases hlt : k < n
        · obtain ⟨_, _, hcell⟩ := F
          obtain ⟨b, off, rfl, hb, hc⟩ := hcell (by omega)
          obtain ⟨z0, hz0⟩ : ∃ v, v = z.getD (k * 3) 0 := ⟨_, rfl⟩
          obtain ⟨z1, hz1⟩ : ∃ v, v = z.getD (k * 3 + 1) 0 := ⟨_, rfl⟩
          obtain ⟨z2, hz2⟩ : ∃ v, v = z.getD (k * 3 + 2) 0 := ⟨_, rfl⟩
          have c0 : wr.cell? ⟨b, off + k * 3, none⟩ = some (.int .i64 z0) := by rw [hz0, hW.bel.cell (by exact hb)]; exact hc (k * 3) (by omega)
          have c1 : wr.cell? ⟨b, off + k * 3 + 1, none⟩ = some (.int .i64 z1) := by rw [hz1, hW.bel.cell (by exact hb)]; exact hc (k * 3 + 1) (by omega)
          have c2 : wr.cell? ⟨b, off + k * 3 + 2, none⟩ = some (.int .i64 z2) := by rw [hz2, hW.bel.cell (by exact hb)]; exact hc (k * 3 + 2) (by omega)
          clear hcell hc hz0 hz1 hz2
          go_upto_region 25 with fail
          obtain ⟨r, h3, hr⟩ := pick_three z1
          rw [hr]
          clear hr c1
          go_upto_region 27 with fail
          go_cut [115] from 110 to 115 (fun x wc => OutR z2 x ∧ wr = wc)
          case first =>
            clear hW hO c0 c2
            by_cases w0 : z2 < 0
            · have w0' : decide (z2 < 0) = true := by simp; omega
              go_wp2_with fail
              go_meet
              case rel => exact ⟨.inr ⟨by unfold okW; omega, rfl⟩, rfl⟩
            · have w0' : decide (z2 < 0) = false := by simp; omega
              by_cases w2 : 2 < z2
              · have w2' : decide (2 < z2) = true := by simp; omega
                go_wp2_with fail
                go_meet
                case rel => exact ⟨.inr ⟨by unfold okW; omega, rfl⟩, rfl⟩
              · have w2' : decide (2 < z2) = false := by simp; omega
                go_wp2_with fail
                go_meet
                case rel => exact ⟨.inl ⟨by unfold okW; omega, rfl⟩, rfl⟩
          obtain ⟨hout, rfl⟩ := hcut
          have HOUT := Lib.hid hout
          clear hout
          go_upto_if 115 with fail
          go_cut [17] from 115 to 115 (fun x wc => (∃ wv : Int, WantR z2 wv ∧ x = .int .i64 wv) ∧ wr = wc)
          case first =>
            clear hW hO c0 c2
            rcases HOUT.out with ⟨hok, rfl⟩ | ⟨hok, rfl⟩
            · go_wp2_with fail
              go_meet
              case rel => exact ⟨⟨0, .inl ⟨hok, rfl⟩, rfl⟩, rfl⟩
            · go_wp2_with fail
              go_meet
              case rel => exact ⟨⟨10, .inr ⟨hok, rfl⟩, rfl⟩, rfl⟩
          case rest =>
            obtain ⟨⟨wv, hwant, rfl⟩, rfl⟩ := hcut
            have RR : (r : Int) < 3 := by omega
            have R0 : (0 : Int) ≤ (r : Int) := by omega
            have hdid : q.did ≤ 1000 := by have := hO.did; omega
            have HH := Lib.hid hwant
            clear hwant
            go_upto_block 4 with fail
            go_cut [18] from 91 to 290 (fun x wc => ActR W f q k x wc)
            case first =>
              -- PART act
              have hm := hO.mc
              have hl := hO.len
              have hl' : q.mc.length = 3 := by rw [hm]; exact hl
              obtain ⟨u, hu⟩ : ∃ u, q.told.getD r 0 = u := ⟨_, rfl⟩
              have hum : q.mc.getD r 0 = u := by rw [hm]; exact hu
              have hu2 := hO.told r h3
              rw [hu] at hu2
              obtain ⟨hu0, hu1⟩ := hu2
              have tu : (u != u) = false := by simp
              have HU := Lib.hid hu
              have HM := Lib.hid hum
              have HL := Lib.hid hl
              have HL' := Lib.hid hl'
              clear hu hum hm hl hl'
              by_cases e0 : z0 = 0
              · subst e0
                have ce := hW.ecell h3
                rcases HH.out with ⟨hok, rfl⟩ | ⟨hok, rfl⟩
                · as_aux_lemma =>
                  go_wp2_with fail
                  refine (a_read_ok hW G h3 z2 u hok hdid HM.out).mono ?_
                  rintro e w5 ⟨rfl, hW5⟩
                  have ct5 := hW5.tcell HL.out h3 HU.out
                  clear ce hW
                  have HW5 := Lib.hid hW5
                  have HR := Lib.hid hO.read
                  clear hW5 hO
                  go_wp2_with fail
                  go_meet
                  case rel => exact ⟨true, _, rfl, HW5.out, HR.out, rfl⟩
                · as_aux_lemma =>
                  go_wp2_with fail
                  refine (a_read_no hW r z2 hok).mono ?_
                  rintro e w5 ⟨rfl, hW5⟩
                  clear ce hW
                  have HW5 := Lib.hid hW5
                  have HR := Lib.hid (hO.mono (Nat.le_succ k))
                  clear hW5 hO
                  go_wp2_with fail
                  go_meet
                  case rel => exact ⟨false, _, rfl, HW5.out, HR.out, (Int.add_zero _).symm⟩
              · by_cases e1 : z0 = 1
                · subst e1
                  have ce := hW.ecell h3
                  rcases HH.out with ⟨hok, rfl⟩ | ⟨hok, rfl⟩
                  · as_aux_lemma =>
                    go_wp2_with fail
                    refine (a_tell_ok hW G HL'.out h3 z2 u hok hdid HM.out hu0 (by omega)).mono ?_
                    rintro e w5 ⟨rfl, hW5⟩
                    have ct5 := hW5.tcell HL.out h3 HU.out
                    have ft5 := hW5.tl.frozen r
                    clear ce hW
                    have HW5 := Lib.hid (hW5.settold G r (u + 1))
                    have HR := Lib.hid (hO.tell h3 u HU.out)
                    clear hW5 hO
                    go_wp2_with fail
                    go_meet
                    case rel => exact ⟨true, _, rfl, HW5.out, HR.out, rfl⟩
                  · as_aux_lemma =>
                    go_wp2_with fail
                    refine (a_tell_no hW G r z2 hok).mono ?_
                    rintro e w5 ⟨rfl, hW5⟩
                    clear ce hW
                    have HW5 := Lib.hid hW5
                    have HR := Lib.hid (hO.mono (Nat.le_succ k))
                    clear hW5 hO
                    go_wp2_with fail
                    go_meet
                    case rel => exact ⟨false, _, rfl, HW5.out, HR.out, (Int.add_zero _).symm⟩
                · by_cases e2 : z0 = 2
                  · subst e2
                    have cw := hW.wcell h3
                    rcases HH.out with ⟨hok, rfl⟩ | ⟨hok, rfl⟩
                    · as_aux_lemma =>
                      -- PART ready
                      go_wp2_with fail
                      refine (a_ready_ok hW G h3 z2 u hok hdid HM.out).mono ?_
                      rintro e w5 ⟨rfl, hW5⟩
                      have ct5 := hW5.tcell HL.out h3 HU.out
                      have cr5 := hW5.rcell h3
                      clear cw hW
                      have HR := Lib.hid (hO.ready r 1 u)
                      clear hO
                      go_wp2_with fail
                      go_still_tail 8, (by kernel_rfl)
                      change wpList _ _ _ _ _ w5.drew
                      go_wp2_with fail
                      refine (a_rready hW5.drew G h3 u).mono ?_
                      rintro e w6 ⟨rfl, hW6⟩
                      have HW6 := Lib.hid hW6
                      clear hW5 hW6
                      go_wp2_with fail
                      go_meet
                      case rel => exact ⟨true, _, rfl, HW6.out, HR.out, rfl⟩
                      -- END ready
                    · as_aux_lemma =>
                      go_wp2_with fail
                      refine (a_ready_no hW h3 z2 hok).mono ?_
                      rintro e w5 ⟨rfl, hW5⟩
                      clear cw hW
                      have HW5 := Lib.hid hW5
                      have HR := Lib.hid (hO.mono (Nat.le_succ k))
                      clear hW5 hO
                      go_wp2_with fail
                      go_meet
                      case rel => exact ⟨false, _, rfl, HW5.out, HR.out, (Int.add_zero _).symm⟩
                  · by_cases e3 : z0 = 3
                    · subst e3
                      have hWd := hW.drew
                      have cwd := hWd.wcell h3
                      have crd := hWd.rcell h3
                      have hrh := hO.rh r h3
                      -- PART park
                      by_cases hh : q.hw r = 1
                      · as_aux_lemma =>
                        have hh' : q.rh r = 1 := hrh.trans hh
                        have HR := Lib.hid (hO.turn r 2)
                        have HA := Lib.hid hh
                        have HB := Lib.hid hh'
                        clear hh hh' hrh hO
                        go_wp2_with fail
                        go_region_held3 (fun w' => w'.cell? ⟨f 4, r, none⟩ = some (.pointer (some ⟨f (7 + r), 0, none⟩)) ∧ w'.cell? ⟨f 5, r, none⟩ = some (.pointer (some ⟨f (10 + r), 0, none⟩))) (first | exact ⟨cwd, crd⟩ | exact ⟨cw5, cr5⟩ | exact ⟨cw6, cr6⟩) (first
                          | (go_at_call 36; refine (a_park_ok hWd G h3 HA.out).mono ?_; rintro e w5 ⟨rfl, hW5⟩; have cw5 := hW5.wcell h3; have cr5 := hW5.rcell h3)
                          | (go_at_call 42; refine (a_rpark_ok hW5 G h3 HB.out).mono ?_; rintro e w6 ⟨rfl, hW6⟩; have cw6 := hW6.wcell h3; have cr6 := hW6.rcell h3))
                        have HW6 := Lib.hid hW6
                        clear hW5 hW6 hW hWd cwd crd cw5 cr5 cw6 cr6
                        go_wp2_with fail
                        go_meet
                        case rel => exact ⟨false, _, rfl, HW6.out, HR.out, (Int.add_zero _).symm⟩
                      · as_aux_lemma =>
                        have hh' : ¬ q.rh r = 1 := fun e => hh (hrh.symm.trans e)
                        have HR := Lib.hid (hO.mono (Nat.le_succ k))
                        have HA := Lib.hid hh
                        have HB := Lib.hid hh'
                        clear hh hh' hrh hO
                        go_wp2_with fail
                        go_region_held3 (fun w' => w'.cell? ⟨f 4, r, none⟩ = some (.pointer (some ⟨f (7 + r), 0, none⟩)) ∧ w'.cell? ⟨f 5, r, none⟩ = some (.pointer (some ⟨f (10 + r), 0, none⟩))) (first | exact ⟨cwd, crd⟩) (first
                          | (go_at_call 36; refine (a_park_no hWd h3 HA.out).mono ?_; rintro e w5 ⟨rfl, rfl⟩)
                          | (go_at_call 42; refine (a_rpark_no hWd h3 HB.out).mono ?_; rintro e w6 ⟨rfl, rfl⟩))
                        have HW6 := Lib.hid hWd
                        clear hW hWd cwd crd
                        go_wp2_with fail
                        go_meet
                        case rel => exact ⟨false, _, rfl, HW6.out, HR.out, (Int.add_zero _).symm⟩
                      -- END park
                    · by_cases e4 : z0 = 4
                      · as_aux_lemma =>
                        subst e4
                        have cw := hW.wcell h3
                        have HR := Lib.hid (hO.turn r 0)
                        clear hO
                        go_wp2_with fail
                        refine (a_leave hW G h3).mono ?_
                        rintro e w5 ⟨rfl, hW5⟩
                        have cr5 := hW5.rcell h3
                        have cx5 := (hW5.rf r h3).cell
                        have fx5 := (hW5.rf r h3).frozen
                        have HW6 := Lib.hid (hW5.rzero G h3)
                        clear hW hW5 cw
                        go_wp2_with fail
                        go_meet
                        case rel => exact ⟨false, _, rfl, HW6.out, HR.out, (Int.add_zero _).symm⟩
                      · as_aux_lemma =>
                        have HW6 := Lib.hid hW
                        have HR := Lib.hid (hO.mono (Nat.le_succ k))
                        have e0' : (z0 == 0) = false := by simpa using e0
                        have e1' : (z0 == 1) = false := by simpa using e1
                        have e2' : (z0 == 2) = false := by simpa using e2
                        have e3' : (z0 == 3) = false := by simpa using e3
                        have e4' : (z0 == 4) = false := by simpa using e4
                        clear hO hW
                        go_wp2_with fail
                        go_meet
                        case rel => exact ⟨false, _, rfl, HW6.out, HR.out, (Int.add_zero _).symm⟩
              -- END act
            case rest =>
              obtain ⟨bo, q', rfl, hW', hO', hbd⟩ := hcut
              have hd0 := hO'.did
              have HBD := Lib.hid hbd
              have HO := Lib.hid hO'
              clear hbd hO' hW hO hdid HH c0 c2
              obtain ⟨wq, rfl⟩ : ∃ wq : World, wq = wc := ⟨_, rfl⟩
              go_upto_if 222 with fail
              go_cut [13] from 222 to 224 (fun x wc => x = .int .i64 q'.did ∧ wq = wc)
              case first =>
                clear hW'
                obtain ⟨d0, hdq⟩ : ∃ d0, q.did = d0 := ⟨_, rfl⟩
                obtain ⟨d1', hdq'⟩ : ∃ d1', q'.did = d1' := ⟨_, rfl⟩
                have hbd := HBD.out
                rw [hdq, hdq'] at hbd
                rw [hdq'] at hd0
                rw [hdq]
                obtain ⟨hd1, hd2⟩ := hd0
                have HQ' := Lib.hid hdq'
                clear HBD HO hdq hdq'
                cases bo
                · have e : d1' = d0 := by simpa using hbd
                  subst e
                  clear hbd
                  go_wp2_with fail
                  go_meet
                  case rel => exact ⟨by rw [HQ'.out], rfl⟩
                · have e : d1' = d0 + 1 := by simpa using hbd
                  subst e
                  clear hbd
                  go_wp2_with fail
                  go_meet
                  case rel => exact ⟨by rw [HQ'.out], rfl⟩
              case rest =>
                obtain ⟨rfl, rfl⟩ := hcut
                obtain ⟨a0, a1, a2, p0, p1, p2, le, ge, hst⟩ := hW'.three
                obtain ⟨dd, hdd⟩ : ∃ dd, q'.did = dd := ⟨_, rfl⟩
                rw [hdd] at le ge hd0 ⊢
                have tq : (a0 + a1 + a2 != dd) = false := by simp; omega
                have HST := Lib.hid hst
                have HDD := Lib.hid hdd
                obtain ⟨hd1, hd2⟩ := hd0
                clear hst hdd HBD
                go_wp2_with fail
                refine (HST.out 0 a0 (.inl ⟨rfl, rfl⟩)).mono ?_
                rintro e w6 ⟨rfl, rfl⟩
                go_wp2_with fail
                refine (HST.out 1 a1 (.inr (.inl ⟨rfl, rfl⟩))).mono ?_
                rintro e w6 ⟨rfl, rfl⟩
                go_wp2_with fail
                refine (HST.out 2 a2 (.inr (.inr ⟨rfl, rfl⟩))).mono ?_
                rintro e w6 ⟨rfl, rfl⟩
                go_wp2_with fail
                go_loopw [21] (fun y wl => ∃ j : Nat, j ≤ 3 ∧ y = .int .i64 j ∧ AcW W wl f q') (fun y _ => 3 - (intOf y).toNat)
                case atStart => exact ⟨0, by omega, rfl, hW'⟩
                case round =>
                  clear hW' HST
                  obtain ⟨j, hj, rfl, hW⟩ := hrel
                  by_cases hj3 : j < 3
                  · as_aux_lemma =>
                    -- PART inner
                    have hl := HO.out.len
                    have hm := HO.out.mc
                    obtain ⟨u, hu⟩ : ∃ u, q'.told.getD j 0 = u := ⟨_, rfl⟩
                    have hum : q'.mc.getD j 0 = u := by rw [hm]; exact hu
                    have hu2 := HO.out.told j hj3
                    rw [hu] at hu2
                    obtain ⟨bb, hbb⟩ : ∃ bb, (q'.hw j == 2 && (q'.mc.getD j 0 == q'.sn j)) = bb := ⟨_, rfl⟩
                    have hbb' : (q'.rh j == 2 && (u == q'.rs j)) = bb := by rw [HO.out.rh j hj3, HO.out.rs j hj3, ← hbb, hum]
                    have hpe : (q'.mc.getD j 0 == u) = true := by rw [hum]; simp
                    have hpn : (q'.mc.getD j 0 == u + 1) = false := by rw [hum]; simp; omega
                    have tu : (u != u) = false := by simp
                    have tb : (bb != bb) = false := by simp
                    have hxv : IntKind.i64.wrap (u + 1) = u + 1 := by rw [IntKind.wrap_i64]; omega
                    have J0 : (0 : Int) ≤ (j : Int) := by omega
                    have J3 : (j : Int) < 3 := by omega
                    have HU := Lib.hid hu
                    have HM := Lib.hid hum
                    have HB := Lib.hid hbb
                    have HB' := Lib.hid hbb'
                    have HPE := Lib.hid hpe
                    have HPN := Lib.hid hpn
                    have hWd := hW.drew
                    have td := hWd.tcell hl hj3 hu
                    have cwd := hWd.wcell hj3
                    have crd := hWd.rcell hj3
                    have ced := hWd.ecell hj3
                    have HL := Lib.hid hl
                    clear hl hm hu hum hu2 hbb hbb' hpe hpn hd1 hd2 le ge p0 p1 p2
                    go_upto_region 61 with fail
                    go_cut [290] from 239 to 289 (fun x wc => x = .bool false ∧ AcW W wc f q')
                    case first =>
                      go_region_held3 (fun w' => w'.cell? ⟨f 6, j, none⟩ = some (.int .i64 u) ∧ w'.cell? ⟨f 4, j, none⟩ = some (.pointer (some ⟨f (7 + j), 0, none⟩)) ∧ w'.cell? ⟨f 5, j, none⟩ = some (.pointer (some ⟨f (10 + j), 0, none⟩)) ∧ w'.cell? ⟨f 3, j, none⟩ = some (.int .i64 j)) (first | exact ⟨td, cwd, crd, ced⟩ | exact ⟨t6, cw6, cr6, ce6⟩ | exact ⟨t8, cw8, cr8, ce8⟩ | exact ⟨t9, cw9, cr9, ce9⟩) (first
                        | (go_at_call 17; refine (a_peek hWd hj3 u HM.out).mono ?_; rintro e w5 ⟨rfl, rfl⟩)
                        | (go_at_call 38; refine (a_parked hWd hj3 bb HB.out).mono ?_; rintro e w6 ⟨rfl, hW6⟩; have t6 := hW6.tcell HL.out hj3 HU.out; have cw6 := hW6.wcell hj3; have cr6 := hW6.rcell hj3; have ce6 := hW6.ecell hj3)
                        | (go_at_call 43; refine (a_rparked hW6 hj3 u bb HB'.out).mono ?_; rintro e w7 ⟨rfl, rfl⟩)
                        | (go_at_call 44; (with_reducible refine (a_evparked hW6 hj3 u true HPE.out).mono ?_); rintro e w8 ⟨rfl, hW8⟩; have t8 := hW8.tcell HL.out hj3 HU.out; have cw8 := hW8.wcell hj3; have cr8 := hW8.rcell hj3; have ce8 := hW8.ecell hj3)
                        | (go_at_call 44; (with_reducible refine (a_evparked hW8 hj3 (u + 1) false HPN.out).mono ?_); rintro e w9 ⟨rfl, hW9⟩; have t9 := hW9.tcell HL.out hj3 HU.out; have cw9 := hW9.wcell hj3; have cr9 := hW9.rcell hj3; have ce9 := hW9.ecell hj3))
                      have HW9 := Lib.hid hW9
                      clear hW hWd hW6 hW8 hW9 td cwd crd ced t6 cw6 cr6 ce6 t8 cw8 cr8 ce8 t9 cw9 cr9 ce9
                      go_wp2_with fail
                      go_meet
                      case rel => exact ⟨rfl, HW9.out⟩
                    case rest =>
                      obtain ⟨rfl, hW9⟩ := hcut
                      clear hW hWd td cwd crd ced
                      go_wp2_with fail
                      go_roundw
                      case rel => exact ⟨j + 1, by omega, by go_num, hW9⟩
                      case measure => simp [intOf]; omega
                    -- END inner
                  · obtain rfl : j = 3 := by omega
                    rw [← HDD.out]
                    clear hj hj3 hd1 hd2 le ge p0 p1 p2 HDD
                    go_wp2_with fail
                    go_roundw
                    case rel => exact ⟨k + 1, q', by omega, rfl, by go_num, hW, HO.out⟩
                    case measure => simp [intOf]; omega
        · obtain rfl : k = n := by omega
          have bel := hW.bel
          clear hk hlt
          go_wp2_with (go_at_call 33; refine (awake11_any _).mono ?_; rintro e w3 ⟨rfl, hb3⟩)
          go_ret
          exact ⟨rfl, bel.trans (hb3.mono bel.size)⟩
set_option maxRecDepth 100000 in
set_option maxHeartbeats 4000000 in
theorem acts_far (W : World) (A : Option Addr) (n c : Nat) (hn : ¬ n ≤ 300) :
    Calls Try.prog 10 #[.slice A n c] W fun e w' => e = .returned (.bool true) ∧ Below W.heap.size W w' := by
  have d1 : decide ((300 : Int) < (n : Int)) = true := by simp; omega
  have hmk1 : ∀ w : World, (Instr.makeSlice 73 (.int .i64 3) (.int .i64 3)).run Try.prog w = .ok (.slice (some ⟨w.heap.size, 0, none⟩) 3 3) (w.alloc (.cells #[.int .i64 0, .int .i64 0, .int .i64 0] 62)) := fun _ => by kernel_rfl
  have hmk2 : ∀ w : World, (Instr.makeSlice 74 (.int .i64 3) (.int .i64 3)).run Try.prog w = .ok (.slice (some ⟨w.heap.size, 0, none⟩) 3 3) (w.alloc (.cells #[.pointer none, .pointer none, .pointer none] 65)) := fun _ => by kernel_rfl
  have hmk3 : ∀ w : World, (Instr.makeSlice 75 (.int .i64 3) (.int .i64 3)).run Try.prog w = .ok (.slice (some ⟨w.heap.size, 0, none⟩) 3 3) (w.alloc (.cells #[.pointer none, .pointer none, .pointer none] 76)) := fun _ => by kernel_rfl
  have hmk4 : ∀ w : World, (Instr.makeSlice 22 (.int .i64 3) (.int .i64 3)).run Try.prog w = .ok (.slice (some ⟨w.heap.size, 0, none⟩) 3 3) (w.alloc (.cells #[.int .i64 0, .int .i64 0, .int .i64 0] 2)) := fun _ => by kernel_rfl
  go_enter Try.func10, Try.ntmps10
  go_wp2_with fail
  refine (new_ok 3 2 _ (by omega) (by omega) (by omega) (by omega)).mono ?_
  rintro e w1 ⟨p, s, rfl, hm1, hk1, hp, hs⟩
  have hb1 : Below W.heap.size W w1 := hk1.below (Nat.le_refl _) (fun _ h => h.elim)
  have hp1 := hm1.lt p (.inl rfl)
  have hs1 := hm1.lt s (.inr (.inr rfl))
  have F0 := AcF.start hm1 hb1 hp hs
  clear hm1 hk1 hp hs hb1
  obtain ⟨f0, hf0, F0⟩ := F0
  have HF0 := Lib.hid hf0
  clear hf0
  go_wp2_with fail
  generalize heb : w1.heap.size = eb at *
  clear heb hmk1 hmk2 hmk3 hmk4
  go_loopw [9] (fun v wr => ∃ (i : Nat) (f : Nat → Nat), i ≤ 3 ∧ v = .int .i64 i ∧ AcF W wr f i i i i ∧ Hid (f 0 = p ∧ f 3 = eb ∧ f 4 = eb + 1 ∧ f 5 = eb + 2 ∧ f 6 = eb + 3)) (fun i _ => 3 - (intOf i).toNat)
  case atStart => exact ⟨0, f0, by omega, rfl, F0, HF0⟩
  case round =>
    clear F0 HF0
    obtain ⟨i, f, hi, rfl, hF, HF⟩ := hrel
    by_cases hlt : i < 3
    · skip
      -- PART fillB
      have I3 : (i : Int) < 3 := by omega
      go_wp2_with fail
      have ct := ac_new hF hlt; rw [HF.out.1] at ct; refine ct.mono ?_; clear ct
      rintro e w4 ⟨c2, rfl, hF4⟩
      have hG : Hid (setF f 2 c2 0 = p ∧ setF f 2 c2 3 = eb ∧ setF f 2 c2 4 = eb + 1 ∧ setF f 2 c2 5 = eb + 2 ∧ setF f 2 c2 6 = eb + 3) := HF.out
      clear hF HF
      obtain ⟨g, hg⟩ : ∃ g, setF f 2 c2 = g := ⟨_, rfl⟩
      rw [hg] at hF4 hG
      clear hg
      have hl3 := hF4.ev.lt
      rw [hG.out.2.1] at hl3
      have n3 : ¬ eb = w4.heap.size := by omega
      have n3' : ¬ w4.heap.size = eb := by omega
      have ev4 := hF4.ev
      rw [hG.out.2.1] at ev4
      have ce4 := ints_cell ev4 (j := i) (by have : (evl i).length = 3 := evl_len i; omega) rfl
      have fe4 := ev4.frozen i
      have hF6 := (hF4.setev hlt).alloc (.cells #[.int .i64 i] 62)
      rw [hG.out.2.1] at hF6
      have q6 : Blk ((w4.setCell ⟨eb, i, none⟩ (.int .i64 i)).alloc (.cells #[.int .i64 i] 62)) w4.heap.size 62 [.int .i64 i] := by
        have := Blk.new (w4.setCell ⟨eb, i, none⟩ (.int .i64 i)) 62 [.int .i64 i]
        rwa [World.size_setCell] at this
      clear hF4 ev4
      go_wp2_with fail
      have ct := ac_wait hF6 hlt; rw [hG.out.2.2.1] at ct; refine ct.mono ?_; clear ct
      rintro e w7 ⟨x, rfl, hF8, hF7⟩
      have wp7 := hF7.wp
      rw [hG.out.2.2.1] at wp7
      have cw7 := wp7.cell i
      have fw7 := wp7.frozen i
      rw [ptl_at _ _ hlt] at cw7
      have hG8 : Hid (setF g (7 + i) x 0 = p ∧ setF g (7 + i) x 3 = eb ∧ setF g (7 + i) x 4 = eb + 1 ∧ setF g (7 + i) x 5 = eb + 2 ∧ setF g (7 + i) x 6 = eb + 3) := by
        obtain ⟨h0, h3, h4, h5, h6⟩ := hG.out
        refine (?_ : _ ∧ _)
        rw [setF_other _ _ (by omega), setF_other _ _ (by omega), setF_other _ _ (by omega), setF_other _ _ (by omega), setF_other _ _ (by omega)]
        exact ⟨h0, h3, h4, h5, h6⟩
      obtain ⟨g8, hg⟩ : ∃ g8, setF g (7 + i) x = g8 := ⟨_, rfl⟩
      rw [hg] at hF8 hG8
      clear hg
      have hF9 := hF8.newref hlt
      have rp8 := hF7.rp
      have n5 : eb + 1 + 1 < w7.heap.size := by have := rp8.lt; rw [hG.out.2.2.2.1] at this; exact this
      rw [hG8.out.2.2.2.1] at hF9
      rw [hG.out.2.2.2.1] at rp8
      have cr8 := rp8.cell i
      have fr8 := rp8.frozen i
      rw [ptl_at _ _ hlt] at cr8
      have hG9 : Hid (setF g8 (10 + i) w7.heap.size 0 = p ∧ setF g8 (10 + i) w7.heap.size 3 = eb ∧ setF g8 (10 + i) w7.heap.size 4 = eb + 1 ∧ setF g8 (10 + i) w7.heap.size 5 = eb + 2 ∧ setF g8 (10 + i) w7.heap.size 6 = eb + 3) := by
        obtain ⟨h0, h3, h4, h5, h6⟩ := hG8.out
        refine (?_ : _ ∧ _)
        rw [setF_other _ _ (by omega), setF_other _ _ (by omega), setF_other _ _ (by omega), setF_other _ _ (by omega), setF_other _ _ (by omega)]
        exact ⟨h0, h3, h4, h5, h6⟩
      clear ce4 fe4 hF6 q6 hF7 wp7 hF8 rp8 n3 n3' hl3 hG hG8
      have hF9' := hF9
      rw [World.setCell_alloc_past _ _ _ _ (by rw [World.size_setCell]; exact n5), World.size_setCell] at hF9'
      clear hF9
      have HF9 := Lib.hid hF9'
      clear hF9'
      unfold ptrv at HF9 ⊢
      go_wp2_with fail
      go_roundw
      case rel => exact ⟨i + 1, _, by omega, by go_num, HF9.out, hG9⟩
      case measure => simp [intOf]; omega
      -- END fillB
    · obtain rfl : i = 3 := by omega
      obtain ⟨G, hW⟩ := hF.done
      obtain ⟨h0, h3, h4, h5, h6⟩ := HF.out
      rw [show eb + 1 + 1 + 1 = f 6 from h6.symm, show eb + 1 + 1 = f 5 from h5.symm, show eb + 1 = f 4 from h4.symm, show eb = f 3 from h3.symm, show p = f 0 from h0.symm, show ((3 : Nat) : Int) = 3 from rfl]
      clear hF HF hlt hi h0 h3 h4 h5 h6 hp1 hs1
      go_wp2_with fail
      refine (a_full hW).mono ?_
      rintro e w2 ⟨rfl, hW2⟩
      have hW3 := hW2.below ((Below.refl _ w2).alloc (Nat.le_refl _) (.cells #[.int .i64 0] 62))
      clear hW hW2
      go_wp2_with fail
      have bel := hW3.bel
      go_wp2_with (go_at_call 33; refine (awake11_any _).mono ?_; rintro e w3 ⟨rfl, hb3⟩)
      go_ret
      exact ⟨rfl, bel.trans (hb3.mono bel.size)⟩

theorem eventActs_walk (W : World) (A : Option Addr) (n c : Nat) (z : List Int) (_hmax : n ≤ maxLen) (F : Flat W A (n * 3) z) :
    Calls Try.prog 10 #[.slice A n c] W fun e w' => e = .returned (.bool true) ∧ Below W.heap.size W w' := by
  by_cases hn : n ≤ 300
  · exact acts_near W A n c z hn F
  · exact acts_far W A n c hn
end Go.Proofs.Ytelphbfdibfmoaa
