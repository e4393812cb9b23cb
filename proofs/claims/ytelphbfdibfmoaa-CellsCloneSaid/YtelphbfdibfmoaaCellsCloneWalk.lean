/-
  WHAT IS PROVED HERE: the walk of pelotonlaw01.CellsClone: true, whatever the input. Conditions: none.
-/
import Derived.Test.YtelphbfdibfmoaaClT
import Derived.Test.YtelphbfdibfmoaaArgs
import Derived.Deep.CutBlock
import Derived.Deep.DeepCutAuto
namespace Go.Proofs.Ytelphbfdibfmoaa
open Go.RowKit

theorem op_cells {W wr : World} {A : Option Addr} {n k : Nat} {z : List Int} (F : Flat W A (n * 5) z) (hk : k < n) (hb : Below W.heap.size W wr) : ∃ b off v0 v1 v2 v3 v4, A = some ⟨b, off, none⟩ ∧ b < W.heap.size ∧
    wr.cell? ⟨b, off + k * 5, none⟩ = some (.int .i64 v0) ∧ wr.cell? ⟨b, off + k * 5 + 1, none⟩ = some (.int .i64 v1) ∧ wr.cell? ⟨b, off + k * 5 + 2, none⟩ = some (.int .i64 v2) ∧ wr.cell? ⟨b, off + k * 5 + 3, none⟩ = some (.int .i64 v3) ∧ wr.cell? ⟨b, off + k * 5 + 4, none⟩ = some (.int .i64 v4) := by
  obtain ⟨_, _, hcell⟩ := F
  obtain ⟨b, off, rfl, hbl, hc⟩ := hcell (by omega)
  refine ⟨b, off, _, _, _, _, _, rfl, hbl, (hb.cell (p := ⟨b, off + k * 5, none⟩) hbl).trans (hc (k * 5) (by omega)), (hb.cell (p := ⟨b, off + k * 5 + 1, none⟩) hbl).trans (hc (k * 5 + 1) (by omega)), (hb.cell (p := ⟨b, off + k * 5 + 2, none⟩) hbl).trans (hc (k * 5 + 2) (by omega)),
    (hb.cell (p := ⟨b, off + k * 5 + 3, none⟩) hbl).trans (hc (k * 5 + 3) (by omega)), (hb.cell (p := ⟨b, off + k * 5 + 4, none⟩) hbl).trans (hc (k * 5 + 4) (by omega))⟩
/-- How many steps the driver's first worker did: told, and not less. -/
structure CnS (s0 : Int) (k : Nat) (st : MS) : Prop where
  ok : LeaveSt st
  lo : s0 ≤ st.stepsOf 0
  hi : st.stepsOf 0 ≤ k
  pos : 0 ≤ s0
theorem CnS.does {s0 : Int} {k : Nat} {st : MS} (h : CnS s0 k st) (few : k ≤ 1000) (v0 v1 v2 v3 v4 : Int) : CnS s0 (k + 1) (doesR st v0 v1 v2 v3 v4).2.2 := by
  have h1 := h.lo
  have h2 := h.hi
  have h3 := h.pos
  have hd := does_steps st v0 v1 v2 v3 v4 0
  have hw : wrap64 (st.stepsOf 0 + 1) = st.stepsOf 0 + 1 := by unfold wrap64; omega
  refine ⟨h.ok.does v0 v1 v2 v3 v4, ?_, ?_, h3⟩
  · rw [hd]
    split
    · rw [hw]; omega
    · omega
  · rw [hd]
    split
    · rw [hw]; omega
    · omega
theorem LeaveSt.caller0 {st : MS} (h : LeaveSt st) : st.isCaller 0 = true := by simp [MS.isCaller, h.1]
theorem LeaveSt.given7 {st : MS} (h : LeaveSt st) : st.isGiven 7 = true := by simp [MS.isGiven, h.2.1]
set_option maxRecDepth 20000 in
set_option maxHeartbeats 4000000 in
theorem cellsClone_core (W : World) (A : Option Addr) (n c : Nat) (z : List Int) (F : Flat W A (n * 5) z) (t : Nat) (hn : n ≤ 40) (ht : t ≤ n) :
    Calls Try.prog 12 #[.slice A n c, .int .i64 t] W fun e w' => e = .returned (.bool true) ∧ Below W.heap.size W w' := by
  have d1 : decide ((40 : Int) < (n : Int)) = false := by rw [decide_eq_false_iff_not]; omega
  have d2 : decide ((t : Int) < 0) = false := by rw [decide_eq_false_iff_not]; omega
  have d3 : decide ((n : Int) < (t : Int)) = false := by rw [decide_eq_false_iff_not]; omega
  have d3' : decide (n < t) = false := by rw [decide_eq_false_iff_not]; omega
  have HF := Lib.hid F
  clear F
  go_enter Try.func12, Try.ntmps12
  go_upto_region 2 with (go_at_call 14; refine (made_any _).mono ?_; rintro e w1 ⟨mb, rfl, hm, bel1, hf⟩)
  have HM := Lib.hid hm
  have HB := Lib.hid bel1
  have HF0 := Lib.hid hf
  have hs1 : CnS 0 0 MS.made16 := ⟨⟨rfl, rfl, rfl⟩, by decide, by decide, by omega⟩
  have HS := Lib.hid hs1
  clear hm bel1 hf hs1
  go_upto_block 0 with fail
  clear d1 d2 d3 d3'
  go_cut [6] from 45 to 55 (fun _ wa => ∃ st, Hid (MachCP wa mb st) ∧ Hid (CnS 0 t st) ∧ Hid (Below W.heap.size W wa))
  case first =>
    -- PART L1
    go_wp2_with fail
    go_loopw [6] (fun i wr => ∃ (k : Nat) (st : MS), k ≤ t ∧ i = .int .i64 k ∧ Hid (MachCP wr mb st) ∧ Hid (CnS 0 k st) ∧ Hid (Below W.heap.size W wr)) (fun i _ => t - (intOf i).toNat)
    case atStart => exact ⟨0, _, Nat.zero_le _, rfl, HM, HS, HB⟩
    case round =>
      clear HM HB HS
      obtain ⟨k, st, hk, rfl, HM, HS, HB⟩ := hrel
      by_cases hlt : k < t
      · have hki : (k : Int) < (t : Int) := by omega
        have hkn : (k : Int) < (n : Int) := by omega
        obtain ⟨b, off, v0, v1, v2, v3, v4, rfl, _, c0, c1, c2, c3, c4⟩ := op_cells HF.out (show k < n by omega) HB.out
        have hd := does_any mb st v0 v1 v2 v3 v4 wr HM.out (by rw [HS.out.ok.2.2]; omega) (by rw [HS.out.ok.2.2]; omega)
        have HD := Lib.hid hd
        clear hd
        go_wp2_with (go_at_call 25; refine HD.out.mono ?_; rintro e w4 ⟨rfl, hk4, c', hm4', _, hceq⟩; have hcc := hceq (by rw [HS.out.ok.2.1, HS.out.ok.2.2]; rfl); have HM4 : Hid (MachCP w4 mb (doesR st v0 v1 v2 v3 v4).2.2) := Lib.hid (by rw [hcc] at hm4'; exact hm4'); have HB4 := Lib.hid (HB.out.trans (hk4.under HF0.out HB.out.size)); clear hk4 hm4' hceq hcc)
        go_roundw
        case rel => exact ⟨k + 1, _, by omega, by go_num, HM4, Lib.hid (HS.out.does (by omega) v0 v1 v2 v3 v4), HB4⟩
        case measure => simp [intOf]; omega
      · obtain rfl : k = t := by omega
        go_wp2_with fail
        go_meet
        case rel => exact ⟨st, HM, HS, HB⟩
    -- END L1
  case rest =>
    clear HM HB HS
    obtain ⟨st, HM, HS, HB⟩ := hcut
    -- PART R1
    have hcl := mclone_ok mb st wc HM.out HS.out.ok
    have HC := Lib.hid hcl
    clear hcl
    go_upto_region 9 with (go_at_call 45; refine HC.out.mono ?_; rintro e w2 ⟨nb, rfl, hn2, hf2, hb2⟩)
    have HM2 := Lib.hid (HM.out.kept (Kept.of_below (S := fun _ => False) hb2) (fun _ _ f => f))
    have HN2 := Lib.hid hn2
    have HB2 := Lib.hid (HB.out.trans (hb2.mono HB.out.size))
    have D1 : Hid (∀ k, mb.has k → ¬ nb.has k) := Lib.hid (fun k h1 h2 => by have := HM.out.lt k h1; have := MB.from_has hf2 k h2; omega)
    have HF2 : Hid (nb.from_ W.heap.size) := Lib.hid (by have := HB.out.size; exact ⟨by have := hf2.1; omega, by have := hf2.2.1; omega, by have := hf2.2.2; omega⟩)
    have hcl := mclone_ok mb st w2 HM2.out HS.out.ok
    have HC2 := Lib.hid hcl
    clear hcl HC hn2 hb2 HM hf2
    go_upto_region 10 with (go_at_call 45; refine HC2.out.mono ?_; rintro e w3 ⟨qb, rfl, hn3, hf3, hb3⟩)
    have HM3 := Lib.hid (HM2.out.kept (Kept.of_below (S := fun _ => False) hb3) (fun _ _ f => f))
    have HN3 := Lib.hid (HN2.out.kept (Kept.of_below (S := fun _ => False) hb3) (fun _ _ f => f))
    have HQ3 := Lib.hid hn3
    have HB3 := Lib.hid (HB2.out.trans (hb3.mono HB2.out.size))
    have D2 : Hid (∀ k, qb.has k → ¬ nb.has k) := Lib.hid (fun k h1 h2 => by have := HN2.out.lt k h2; have := MB.from_has hf3 k h1; omega)
    have HE1 := Lib.hid (same_ok mb nb st st w3 HM3.out HN3.out HS.out.ok HS.out.ok true (by simp))
    clear HM2 HN2 HB2 HC2 hn3 hb3 HB hf3
    go_upto_region 12 with (go_at_call 46; first
      | (with_reducible refine HE1.out.mono ?_; rintro e w4 ⟨rfl, q4, hw4⟩; have HM4 : Hid (MachCP w4 mb st) := Lib.hid (by rw [hw4]; exact HM3.out.drewN q4); have HN4 : Hid (MachCP w4 nb st) := Lib.hid (by rw [hw4]; exact HN3.out.drewN q4); have HQ4 : Hid (MachCP w4 qb st) := Lib.hid (by rw [hw4]; exact HQ3.out.drewN q4); have HB4 : Hid (Below W.heap.size W w4) := Lib.hid (by rw [hw4]; exact below_drewN' HB3.out q4); clear hw4)
      | (with_reducible refine (same_ok nb mb st st w4 HN4.out HM4.out HS.out.ok HS.out.ok true (by simp)).mono ?_; rintro e w5 ⟨rfl, q5, hw5⟩; have HM5 : Hid (MachCP w5 mb st) := Lib.hid (by rw [hw5]; exact HM4.out.drewN q5); have HN5 : Hid (MachCP w5 nb st) := Lib.hid (by rw [hw5]; exact HN4.out.drewN q5); have HQ5 : Hid (MachCP w5 qb st) := Lib.hid (by rw [hw5]; exact HQ4.out.drewN q5); have HB5 : Hid (Below W.heap.size W w5) := Lib.hid (by rw [hw5]; exact below_drewN' HB4.out q5); clear hw5))
    clear HM3 HN3 HQ3 HB3 HE1 HM4 HN4 HQ4 HB4
    have HS5 : Hid (CnS (st.stepsOf 0) t st) := Lib.hid ⟨HS.out.ok, Int.le_refl _, HS.out.hi, by have := HS.out.lo; omega⟩
    obtain ⟨s0, hs0⟩ : ∃ s0, st.stepsOf 0 = s0 := ⟨_, rfl⟩
    rw [hs0] at HS5
    have HSS := Lib.hid hs0
    clear hs0
    -- the clone goes its own way
    go_upto_block 2 with fail
    go_cut [9] from 79 to 90 (fun _ wb => ∃ tt, Hid (MachCP wb nb tt) ∧ Hid (CnS s0 n tt) ∧ Hid (MachCP wb mb st) ∧ Hid (MachCP wb qb st) ∧ Hid (Below W.heap.size W wb))
    case first =>
      -- PART L2
      go_wp2_with fail
      go_loopw [9] (fun i wr => ∃ (k : Nat) (tt : MS), k ≤ n ∧ i = .int .i64 k ∧ Hid (MachCP wr nb tt) ∧ Hid (CnS s0 k tt) ∧ Hid (MachCP wr mb st) ∧ Hid (MachCP wr qb st) ∧ Hid (Below W.heap.size W wr)) (fun i _ => n - (intOf i).toNat)
      case atStart => exact ⟨t, st, ht, rfl, HN5, HS5, HM5, HQ5, HB5⟩
      case round =>
        clear HM5 HN5 HQ5 HB5 HS5
        obtain ⟨k, tt, hk, rfl, HN, HT, HM, HQ, HB⟩ := hrel
        by_cases hlt : k < n
        · have hkn : (k : Int) < (n : Int) := by omega
          obtain ⟨b, off, v0, v1, v2, v3, v4, rfl, _, c0, c1, c2, c3, c4⟩ := op_cells HF.out hlt HB.out
          have hd := does_any nb tt v0 v1 v2 v3 v4 wr HN.out (by rw [HT.out.ok.2.2]; omega) (by rw [HT.out.ok.2.2]; omega)
          have HD := Lib.hid hd
          clear hd
          go_wp2_with (go_at_call 25; refine HD.out.mono ?_; rintro e w4 ⟨rfl, hk4, c', hm4', _, hceq⟩; have hcc := hceq (by rw [HT.out.ok.2.1, HT.out.ok.2.2]; rfl); have HN4 : Hid (MachCP w4 nb (doesR tt v0 v1 v2 v3 v4).2.2) := Lib.hid (by rw [hcc] at hm4'; exact hm4'); have HB4 := Lib.hid (HB.out.trans (hk4.under HF2.out HB.out.size)); have HM4 := Lib.hid (HM.out.kept hk4 D1.out); have HQ4 := Lib.hid (HQ.out.kept hk4 D2.out); clear hk4 hm4' hceq hcc)
          go_roundw
          case rel => exact ⟨k + 1, _, by omega, by go_num, HN4, Lib.hid (HT.out.does (by omega) v0 v1 v2 v3 v4), HM4, HQ4, HB4⟩
          case measure => simp [intOf]; omega
        · obtain rfl : k = n := by omega
          go_wp2_with fail
          go_meet
          case rel => exact ⟨tt, HN, HT, HM, HQ, HB⟩
      -- END L2
    case rest =>
      clear HM5 HN5 HQ5 HB5 HS5
      obtain ⟨tt, HN, HT, HM, HQ, HB⟩ := hcut
      -- PART R2
      have HE2 := Lib.hid (same_ok mb qb st st wc HM.out HQ.out HS.out.ok HS.out.ok true (by simp))
      go_upto_region 18 with (go_at_call 46; refine HE2.out.mono ?_; rintro e w6 ⟨rfl, q6, hw6⟩; have HM6 : Hid (MachCP w6 mb st) := Lib.hid (by rw [hw6]; exact HM.out.drewN q6); have HN6 : Hid (MachCP w6 nb tt) := Lib.hid (by rw [hw6]; exact HN.out.drewN q6); have HB6 : Hid (Below W.heap.size W w6) := Lib.hid (by rw [hw6]; exact below_drewN' HB.out q6); clear hw6)
      clear HM HN HQ HB HE2
      -- a step of the clone's
      have ha := add_ok nb tt 0 7 1 w6 HN6.out HT.out.ok.caller0 HT.out.ok.given7
      obtain ⟨vv, hvv⟩ : ∃ vv, tt.cellOf 7 = vv := ⟨_, rfl⟩
      obtain ⟨uu, huu⟩ : ∃ uu, (tt.did 0).putAt 7 (wrap64 (tt.cellOf 7 + 1)) = uu := ⟨_, rfl⟩
      rw [huu, hvv] at ha
      have HA := Lib.hid ha
      have hus : LeaveSt uu := by rw [← huu]; exact (HT.out.ok.did 0).put _ _
      have hne : (decide (st.cells = uu.cells) && decide (st.steps = uu.steps)) = false := by
        have h1 : ¬ st.steps = uu.steps := fun e => by
          have h2 : uu.stepsOf 0 = wrap64 (tt.stepsOf 0 + 1) := by rw [← huu, stepsOf_put, stepsOf_did _ _ _ HT.out.ok.caller0, if_pos rfl]
          have h3 : st.stepsOf 0 = uu.stepsOf 0 := by unfold MS.stepsOf; rw [e]
          have h4 := HT.out.lo
          have h5 := HT.out.hi
          have h6 := HT.out.pos
          have h7 := HSS.out
          unfold wrap64 at h2
          omega
        rw [decide_eq_false h1, Bool.and_false]
      have HUS := Lib.hid hus
      have HNE := Lib.hid hne
      clear ha hvv huu hus hne
      go_upto_region 19 with (go_at_call 16; refine HA.out.mono ?_; rintro e w7 ⟨rfl, hn7, hk7⟩)
      have HN7 := Lib.hid hn7
      have HM7 := Lib.hid (HM6.out.kept hk7 D1.out)
      have HB7 := Lib.hid (HB6.out.trans (hk7.under HF2.out HB6.out.size))
      clear hn7 hk7 HM6 HN6 HB6 HA D1 D2
      go_upto_region 22 with (first
        | (go_at_call 18; refine (load_nil 0 0 _).mono ?_; rintro e w8 ⟨rfl, rfl⟩)
        | (go_at_call 26; refine (cas_nil 0 0 0 0 _).mono ?_; rintro e w8 ⟨rfl, rfl⟩))
      go_upto_region 23 with (go_at_call 16; refine (add_nil 0 0 0 w7).mono ?_; rintro e w8 ⟨rfl, hb8⟩)
      have HN8 := Lib.hid (HN7.out.kept (Kept.of_below (S := fun _ => False) hb8) (fun _ _ f => f))
      have HM8 := Lib.hid (HM7.out.kept (Kept.of_below (S := fun _ => False) hb8) (fun _ _ f => f))
      have HB8 := Lib.hid (HB7.out.trans (hb8.mono HB7.out.size))
      clear HN7 HM7 HB7 hb8
      go_upto_region 25 with (first
        | (go_at_call 24; refine (alloc_nil 0 1 _).mono ?_; rintro e w9 ⟨rfl, rfl⟩)
        | (go_at_call 19; refine (store_nil 0 0 0 _).mono ?_; rintro e w9 ⟨rfl, rfl⟩)
        | (go_at_call 23; refine (steps_nil 0 _).mono ?_; rintro e w9 ⟨rfl, rfl⟩)
        | (go_at_call 22; refine (used_nil _).mono ?_; rintro e w9 ⟨rfl, rfl⟩)
        | (go_at_call 17; refine (peek_nil 0 _).mono ?_; rintro e w9 ⟨rfl, rfl⟩)
        | (go_at_call 45; refine (mclone_nil _).mono ?_; rintro e w9 ⟨rfl, rfl⟩))
      have HE3 := Lib.hid (same_ok mb nb st uu w8 HM8.out HN8.out HS.out.ok HUS.out false HNE.out)
      go_wp2_with (first
        | (go_at_call 46; first
          | (with_reducible refine HE3.out.mono ?_; rintro e w10 ⟨rfl, q10, hw10⟩; have HB10 : Hid (Below W.heap.size W w10) := Lib.hid (by rw [hw10]; exact below_drewN' HB8.out q10); clear hw10)
          | (with_reducible refine (same_nil2 _).mono ?_; rintro e w11 ⟨rfl, rfl⟩)
          | (with_reducible refine (same_nil1 mb.p _).mono ?_; rintro e w11 ⟨rfl, rfl⟩)
          | (with_reducible refine (same_nil0 mb.p _).mono ?_; rintro e w11 ⟨rfl, rfl⟩))
        | (go_at_call 15; refine (awake01_any _).mono ?_; rintro e w12 ⟨rfl, hb12⟩))
      go_ret
      exact ⟨rfl, HB10.out.trans (hb12.mono HB10.out.size)⟩
      -- END R2
    -- END R1
set_option maxRecDepth 20000 in
set_option maxHeartbeats 1000000 in
theorem cellsClone_walk (W : World) (A : Option Addr) (n c : Nat) (z : List Int) (_hmax : n ≤ maxLen) (F : Flat W A (n * 5) z) (a : Int) :
    Calls Try.prog 12 #[.slice A n c, .int .i64 a] W fun e w' => e = .returned (.bool true) ∧ Below W.heap.size W w' := by
  by_cases h : n ≤ 40 ∧ 0 ≤ a ∧ a ≤ n
  · obtain ⟨h1, h2, h3⟩ := h
    obtain ⟨t, rfl⟩ : ∃ t : Nat, a = t := ⟨a.toNat, by omega⟩
    exact cellsClone_core W A n c z F t h1 (by omega)
  · clear F
    by_cases g1 : n ≤ 40
    · have d1 : decide ((40 : Int) < (n : Int)) = false := by rw [decide_eq_false_iff_not]; omega
      by_cases g2 : 0 ≤ a
      · have d2 : decide (a < 0) = false := by rw [decide_eq_false_iff_not]; omega
        have d3 : decide ((n : Int) < a) = true := by rw [decide_eq_true_eq]; omega
        clear h
        go_enter Try.func12, Try.ntmps12
        go_wp2_with (first
          | (go_at_call 14; refine (made_any _).mono ?_; rintro e w1 ⟨mb, rfl, _, bel1, _⟩)
          | (go_at_call 15; refine (awake01_any _).mono ?_; rintro e w3 ⟨rfl, hb3⟩))
        go_ret
        exact ⟨rfl, bel1.trans (hb3.mono bel1.size)⟩
      · have d2 : decide (a < 0) = true := by rw [decide_eq_true_eq]; omega
        clear h
        go_enter Try.func12, Try.ntmps12
        go_wp2_with (first
          | (go_at_call 14; refine (made_any _).mono ?_; rintro e w1 ⟨mb, rfl, _, bel1, _⟩)
          | (go_at_call 15; refine (awake01_any _).mono ?_; rintro e w3 ⟨rfl, hb3⟩))
        go_ret
        exact ⟨rfl, bel1.trans (hb3.mono bel1.size)⟩
    · have d1 : decide ((40 : Int) < (n : Int)) = true := by rw [decide_eq_true_eq]; omega
      clear h
      go_enter Try.func12, Try.ntmps12
      go_wp2_with (first
        | (go_at_call 14; refine (made_any _).mono ?_; rintro e w1 ⟨mb, rfl, _, bel1, _⟩)
        | (go_at_call 15; refine (awake01_any _).mono ?_; rintro e w3 ⟨rfl, hb3⟩))
      go_ret
      exact ⟨rfl, bel1.trans (hb3.mono bel1.size)⟩
end Go.Proofs.Ytelphbfdibfmoaa
