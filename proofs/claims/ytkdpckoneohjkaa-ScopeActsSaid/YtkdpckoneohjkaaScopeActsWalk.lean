/-
  WHAT IS PROVED HERE: the walk of the law pelotonlaw14.ScopeActs: it returns true, and what was there before the call stays. Conditions: the arguments are 64-bit numbers.
-/
import Derived.Test.YtkdpckoneohjkaaScopeActsFar
import Derived.Deep.RegionWith
import Derived.Deep.DeepCutAuto
import Derived.StillTailTactics
import Derived.Deep.RegionHeld3
import Derived.Deep.CutBlock
namespace Go.Proofs.Ytkdpckoneohjkaa
open Go.RowKit

set_option maxRecDepth 100000 in
set_option maxHeartbeats 4000000 in
theorem sacts_near (W : World) (sz : Int) (hz1 : 2 ≤ sz) (hz2 : sz ≤ 200) (A : Option Addr) (n c : Nat) (z : List Int) (hn : n ≤ 200) (F : Flat W A (n * 3) z) :
    Calls Try.prog 10 #[.int .i64 sz, .slice A n c] W fun e w' => e = .returned (.bool true) ∧ Below W.heap.size W w' := by
  have d1 : decide (sz < 1) = false := by simp; omega
  have d2 : decide (200 < sz) = false := by simp; omega
  have d3 : decide ((200 : Int) < (n : Int)) = false := by simp; omega
  have d4 : decide (sz < 2) = false := by simp; omega
  go_enter Try.func10, Try.ntmps10
  go_wp2_with fail
  refine (new_ok sz 2 _ (by omega) (by omega) (by omega) (by omega)).mono ?_
  rintro e w1 ⟨p, s0, rfl, hm1, hk1, hp, hs⟩
  have hb1 : Below W.heap.size W w1 := hk1.below (Nat.le_refl _) (fun _ h => h.elim)
  clear hk1
  go_wp2_with fail
  refine (sd_new (W0 := W) p s0 sz 2 2 w1 hm1 hb1 hp hs (by omega) (by omega) (by omega) (by omega)).mono ?_
  rintro e w2 ⟨c0, t, g0, rfl, h2⟩
  clear hm1 hb1 hp hs
  go_wp2_with fail
  refine (ref_new w2).mono ?_
  rintro e w3 ⟨R0, rfl, hR0, hnew, hb3⟩
  have hA : AS W w3 ⟨p, c0, s0⟩ t g0 sz 1 [⟨-1, 0, 0, 0⟩] R0 := by
    refine ⟨h2.below hb3, hR0, WfS.one, fun q hq e => ?_, fun q hq => Nat.le_trans h2.bel.size (hnew q hq)⟩
    have := hnew q hq
    have := h2.lt q e
    omega
  clear h2 hR0 hnew hb3 d1 d2 d3 d4
  obtain ⟨r0, hr0⟩ : ∃ r, R0.r = r := ⟨_, rfl⟩
  rw [hr0]
  have HR0 := Lib.hid hr0
  clear hr0
  go_wp2_with fail
  go_loopw [10, 11] (fun x y wr => ∃ (k : Nat) (d : Int) (L : List Sc) (R : RB) (c' g : Nat), k ≤ n ∧ x = .int .i64 d ∧ y = .int .i64 k ∧ 0 ≤ d ∧ d ≤ 1 + (k : Int) ∧ 2 * (L.length : Int) ≤ sz ∧ R.r = r0 ∧ AS W wr ⟨p, c', s0⟩ t g sz d L R) (fun _ i _ => n - (intOf i).toNat)
  case atStart => exact ⟨0, 1, _, R0, c0, g0, Nat.zero_le _, rfl, rfl, by omega, by omega, by simp; omega, HR0.out, hA⟩
  case round =>
    clear hA HR0
    obtain ⟨k, d, L, R, c', g, hk, rfl, rfl, hd0, hd1, hfit, hr, hA⟩ := hrel
    by_cases hlt : k < n
    · obtain ⟨_, _, hcell⟩ := F
      obtain ⟨b, off, rfl, hb, hc⟩ := hcell (by omega)
      obtain ⟨z0, hz0⟩ : ∃ v, v = z.getD (k * 3) 0 := ⟨_, rfl⟩
      obtain ⟨sv, hsv⟩ : ∃ v, v = z.getD (k * 3 + 1) 0 := ⟨_, rfl⟩
      obtain ⟨iv, hiv⟩ : ∃ v, v = z.getD (k * 3 + 2) 0 := ⟨_, rfl⟩
      have cc0 : wr.cell? ⟨b, off + k * 3, none⟩ = some (.int .i64 z0) := by rw [hz0, hA.sd.bel.cell (by exact hb)]; exact hc (k * 3) (by omega)
      have cc1 : wr.cell? ⟨b, off + k * 3 + 1, none⟩ = some (.int .i64 sv) := by rw [hsv, hA.sd.bel.cell (by exact hb)]; exact hc (k * 3 + 1) (by omega)
      have cc2 : wr.cell? ⟨b, off + k * 3 + 2, none⟩ = some (.int .i64 iv) := by rw [hiv, hA.sd.bel.cell (by exact hb)]; exact hc (k * 3 + 2) (by omega)
      clear hcell hc hz0 hsv hiv
      obtain ⟨v, hv⟩ : ∃ v, mayC L iv 2 sv = v := ⟨_, rfl⟩
      have hmay := rmay_any hA.rt iv 2 sv
      rw [hv, hr] at hmay
      have HMAY := Lib.hid hmay
      have HV := Lib.hid hv
      have HRR := Lib.hid hr
      clear hmay hv hr
      go_wp2_with fail
      refine HMAY.out.mono ?_
      rintro e wn ⟨rfl, rfl⟩
      clear HMAY
      by_cases hDo : 0 ≤ z0 ∧ z0 ≤ 5
      · go_upto_block 2 with fail
        clear cc0 cc1 cc2
        go_cut [14, 15, 16, 17, 18, 19, 20, 21, 22, 23, 24, 25, 26] from 87 to 287 (fun x _ _ _ _ _ _ _ _ _ _ _ _ wc => ∃ (v' d' : Int) (L' : List Sc) (R' : RB) (c' g' : Nat), x = .int .i64 v' ∧ ((v' = 0 ∧ d' = d + 1) ∨ (¬ v' = 0 ∧ d' = d)) ∧ 2 * (L'.length : Int) ≤ sz ∧ R'.r = r0 ∧ AS W wc ⟨p, c', s0⟩ t g' sz d' L' R')
        case first =>
          rcases (show z0 = 0 ∨ z0 = 1 ∨ z0 = 2 ∨ z0 = 3 ∨ z0 = 4 ∨ z0 = 5 by omega) with rfl | rfl | rfl | rfl | rfl | rfl
          · as_aux_lemma =>
            -- PART open
            clear hDo
            have hfew := hA.sd.few
            obtain ⟨u, hu⟩ : ∃ u, openC L iv 2 (sz - 2 * (L.length : Int)) sv = u := ⟨_, rfl⟩
            have wm : wrap64 (2 * (L.length : Int)) = 2 * (L.length : Int) := by unfold wrap64; omega
            have ws : wrap64 (sz - 2 * (L.length : Int)) = sz - 2 * (L.length : Int) := by unfold wrap64; omega
            by_cases hu0 : u = 0
            · rw [hu0] at hu
              rcases open_cases hA.wf hu with ⟨e, _⟩ | ⟨q, m, rfl, hm, m0, m1, hcase⟩
              · cases e
              obtain ⟨hd, i0, i1, hl⟩ : m.nest < 32 ∧ 0 ≤ iv ∧ iv < 3 ∧ 2 ≤ sz - 2 * (L.length : Int) := by
                rcases hcase with ⟨e, _⟩ | ⟨e, _⟩ | ⟨e, _⟩ | ⟨_, h⟩
                · cases e
                · cases e
                · cases e
                · exact h
              clear hcase hu hu0
              go_wp2_with fail
              refine (sd_open hA.sd iv i0 (by omega) (by omega) q m hm hd m0 (by omega) (by omega)).mono ?_
              rintro e w4 ⟨c4, g4, rfl, h4, hk4, hnew4⟩
              have hrt4 := hA.rt.kept hk4 hA.ap
              obtain ⟨b0, _, _⟩ := hrt4.cells
              rw [HRR.out] at b0
              have hrm := hA.rt.rp.room
              rw [len_row] at hrm
              have hop := ropen_ok hrt4 hA.wf iv 2 (sz - 2 * (L.length : Int)) q m hm hd i0 (by omega) hl (by omega) (m.nest + 1)
              rw [HRR.out] at hop
              have HOP := Lib.hid hop
              have HT := fun w3 R' => hA.opened (w3 := w3) (R' := R') hm hd h4 hk4 hnew4
              have HTT := Lib.hid HT
              clear hrt4 hop HT h4 hk4 hnew4 hA
              go_wp2_with fail
              refine HOP.out.mono ?_
              rintro e w5 ⟨R', rfl, hr', hR', hk5, hnR⟩
              have hA5 := HTT.out w5 R' hR' hk5 hnR
              have HA5 := Lib.hid hA5
              clear hA5 hR' hk5 hnR HTT HOP b0
              go_wp2_with fail
              go_meet
              case rel => exact ⟨0, d + 1, _, R', c4, g4, rfl, .inl ⟨rfl, rfl⟩, by simp; omega, by first | exact hr' | (rw [hr']; exact HRR.out), HA5.out⟩
            · have hop := ropen_no hA.rt hA.wf iv 2 (sz - 2 * (L.length : Int)) sv (by rw [hu]; exact hu0)
              rw [hu, HRR.out] at hop
              have HON := Lib.hid (s_open_no hA.sd hA.wf iv sv u hu hu0)
              go_wp2_with fail
              refine HON.out.mono ?_
              rintro e w4 ⟨rfl, hb4⟩
              have hA4 := hA.below hb4
              obtain ⟨b0, _, _⟩ := hA4.cells
              rw [HRR.out] at b0
              have hop := ropen_no hA4.rt hA4.wf iv 2 (sz - 2 * (L.length : Int)) sv (by rw [hu]; exact hu0)
              rw [hu, HRR.out] at hop
              have HOP := Lib.hid hop
              have hrm := hA.rt.rp.room
              rw [len_row] at hrm
              have HA4 := Lib.hid hA4
              have huu : (u != u) = false := by simp
              have HU0 := Lib.hid hu0
              clear hop hA4 hA hb4 HON hu hu0
              go_wp2_with fail
              refine HOP.out.mono ?_
              rintro e wn ⟨rfl, rfl⟩
              clear HOP b0
              go_wp2_with fail
              go_meet
              case rel => exact ⟨u, d, L, R, c', g, rfl, .inr ⟨HU0.out, rfl⟩, hfit, HRR.out, HA4.out⟩
            -- END open
          · as_aux_lemma =>
            -- PART enter
            clear hDo
            by_cases hv0 : v = 0
            · rw [hv0] at HV ⊢
              clear hv0
              obtain ⟨q, m, rfl, hm, i0, i1⟩ : ∃ (q : Nat) (m : Sc), sv = q ∧ L[q]? = some m ∧ 0 ≤ iv ∧ iv < 3 := by
                rcases may_cases HV.out with ⟨e, _⟩ | ⟨e, _⟩ | ⟨_, h⟩
                · cases e
                · cases e
                · exact h
              have hql := sc_lt hm
              have hrm := hA.rt.rl.room
              go_wp2_with fail
              refine (sd_enter hA.sd iv i0 (by omega) (by omega) q m hm).mono ?_
              rintro e w4 ⟨rfl, h4, hk4⟩
              have hrt4 := hA.rt.kept hk4 (fun q hq e => hA.ap q hq (.inl e))
              obtain ⟨_, _, b2⟩ := hrt4.cells
              rw [HRR.out] at b2
              have cl := hrt4.rl.cell (int_row Sc.live hm)
              have fl := hrt4.rl.frozen q
              rw [len_row] at hrm
              obtain ⟨lv, hlv⟩ : ∃ lv, m.live = lv := ⟨_, rfl⟩
              have HLV := Lib.hid hlv
              have HA4 := Lib.hid (hA.live hm (wrap64 (m.live + 1)) h4 hk4)
              rw [hlv] at cl HA4
              clear hlv h4 hk4 hrt4 hA
              go_wp2_with fail
              go_meet
              case rel => exact ⟨0, d + 1, _, R, c', g, rfl, .inl ⟨rfl, rfl⟩, by rw [List.length_set]; exact hfit, HRR.out, HA4.out⟩

            · have HNO := Lib.hid (s_enter_no hA.sd iv sv v HV.out hv0)
              have hvv : (v != v) = false := by simp
              have hv1 : (v == 0) = false := by simp [hv0]
              have hv2 : (v != 0) = true := by simp [hv0]
              have HV0 := Lib.hid hv0
              clear hv0
              go_wp2_with fail
              refine HNO.out.mono ?_
              rintro e w4 ⟨rfl, h4, hk4⟩
              have HA4 := Lib.hid (hA.same h4 hk4)
              clear HNO h4 hk4 hA
              go_wp2_with fail
              go_meet
              case rel => exact ⟨v, d, L, R, c', g, rfl, .inr ⟨HV0.out, rfl⟩, hfit, HRR.out, HA4.out⟩
            -- END enter
          · as_aux_lemma =>
            -- PART leave
            clear hDo
            by_cases hv0 : v = 0
            · rw [hv0] at HV ⊢
              clear hv0
              obtain ⟨q, m, rfl, hm, i0, i1⟩ : ∃ (q : Nat) (m : Sc), sv = q ∧ L[q]? = some m ∧ 0 ≤ iv ∧ iv < 3 := by
                rcases may_cases HV.out with ⟨e, _⟩ | ⟨e, _⟩ | ⟨_, h⟩
                · cases e
                · cases e
                · exact h
              have hql := sc_lt hm
              have hrm := hA.rt.rl.room
              go_wp2_with fail
              refine (sd_leave hA.sd iv i0 (by omega) (by omega) q m hm).mono ?_
              rintro e w4 ⟨rfl, h4, hk4⟩
              have hrt4 := hA.rt.kept hk4 (fun q hq e => hA.ap q hq (.inl e))
              obtain ⟨_, _, b2⟩ := hrt4.cells
              rw [HRR.out] at b2
              have cl := hrt4.rl.cell (int_row Sc.live hm)
              have fl := hrt4.rl.frozen q
              rw [len_row] at hrm
              obtain ⟨lv, hlv⟩ : ∃ lv, m.live = lv := ⟨_, rfl⟩
              have HLV := Lib.hid hlv
              have HA4 := Lib.hid (hA.live hm (wrap64 (m.live + -1)) h4 hk4)
              rw [hlv] at cl HA4
              rw [hlv]
              have hwe : wrap64 (lv - 1) = wrap64 (lv + -1) := rfl
              clear hlv h4 hk4 hrt4 hA
              have wlog : ∃ tb : Bool, decide (lv = 1) = tb ∧ (lv == 1) = tb := ⟨decide (lv = 1), rfl, by by_cases e : lv = 1 <;> simp [e]⟩
              obtain ⟨tb, ht1, ht2⟩ := wlog
              rw [ht1]
              have ht3 : (tb == tb) = true := by simp
              have ht4 : (tb != tb) = false := by simp
              clear ht1
              go_wp2_with fail
              rw [hwe]
              go_meet
              case rel => exact ⟨0, d + 1, _, R, c', g, rfl, .inl ⟨rfl, rfl⟩, by rw [List.length_set]; exact hfit, HRR.out, HA4.out⟩

            · have HNO := Lib.hid (s_leave_no hA.sd iv sv v HV.out hv0)
              have hvv : (v != v) = false := by simp
              have hv1 : (v == 0) = false := by simp [hv0]
              have hv2 : (v != 0) = true := by simp [hv0]
              have HV0 := Lib.hid hv0
              clear hv0
              go_wp2_with fail
              refine HNO.out.mono ?_
              rintro e w4 ⟨rfl, h4, hk4⟩
              have HA4 := Lib.hid (hA.same h4 hk4)
              clear HNO h4 hk4 hA
              go_wp2_with fail
              go_meet
              case rel => exact ⟨v, d, L, R, c', g, rfl, .inr ⟨HV0.out, rfl⟩, hfit, HRR.out, HA4.out⟩
            -- END leave
          · as_aux_lemma =>
            -- PART live
            clear hDo
            by_cases hv0 : v = 0
            · rw [hv0] at HV ⊢
              clear hv0
              obtain ⟨q, m, rfl, hm, i0, i1⟩ : ∃ (q : Nat) (m : Sc), sv = q ∧ L[q]? = some m ∧ 0 ≤ iv ∧ iv < 3 := by
                rcases may_cases HV.out with ⟨e, _⟩ | ⟨e, _⟩ | ⟨_, h⟩
                · cases e
                · cases e
                · exact h
              have hql := sc_lt hm
              have hrm := hA.rt.rl.room
              go_wp2_with fail
              refine (sd_live hA.sd iv i0 (by omega) (by omega) q m hm).mono ?_
              rintro e w4 ⟨rfl, h4, hk4⟩
              have hrt4 := hA.rt.kept hk4 (fun q hq e => hA.ap q hq (.inl e))
              obtain ⟨_, _, b2⟩ := hrt4.cells
              rw [HRR.out] at b2
              have cl := hrt4.rl.cell (int_row Sc.live hm)
              have fl := hrt4.rl.frozen q
              rw [len_row] at hrm
              obtain ⟨lv, hlv⟩ : ∃ lv, m.live = lv := ⟨_, rfl⟩
              have HLV := Lib.hid hlv
              have HA4 := Lib.hid (hA.same h4 hk4)
              rw [hlv] at cl
              rw [hlv]
              have hl1 : (lv == lv) = true := by simp
              have hl2 : (lv != lv) = false := by simp
              clear hlv h4 hk4 hrt4 hA
              go_wp2_with fail
              go_meet
              case rel => exact ⟨0, d + 1, L, R, c', g, rfl, .inl ⟨rfl, rfl⟩, hfit, HRR.out, HA4.out⟩

            · have HNO := Lib.hid (s_live_no hA.sd iv sv v HV.out hv0)
              have hvv : (v != v) = false := by simp
              have hv1 : (v == 0) = false := by simp [hv0]
              have hv2 : (v != 0) = true := by simp [hv0]
              have HV0 := Lib.hid hv0
              clear hv0
              go_wp2_with fail
              refine HNO.out.mono ?_
              rintro e w4 ⟨rfl, h4, hk4⟩
              have HA4 := Lib.hid (hA.same h4 hk4)
              clear HNO h4 hk4 hA
              go_wp2_with fail
              go_meet
              case rel => exact ⟨v, d, L, R, c', g, rfl, .inr ⟨HV0.out, rfl⟩, hfit, HRR.out, HA4.out⟩
            -- END live
          · as_aux_lemma =>
            -- PART ask
            clear hDo
            by_cases hv0 : v = 0
            · rw [hv0] at HV ⊢
              clear hv0
              obtain ⟨q, m, rfl, hm, i0, i1⟩ : ∃ (q : Nat) (m : Sc), sv = q ∧ L[q]? = some m ∧ 0 ≤ iv ∧ iv < 3 := by
                rcases may_cases HV.out with ⟨e, _⟩ | ⟨e, _⟩ | ⟨_, h⟩
                · cases e
                · cases e
                · exact h
              have hql := sc_lt hm
              have hrm := hA.rt.ra.room
              go_wp2_with fail
              refine (sd_ask hA.sd iv i0 (by omega) (by omega) q m hm).mono ?_
              rintro e w4 ⟨rfl, h4, hk4⟩
              have hrt4 := hA.rt.kept hk4 (fun q hq e => hA.ap q hq (.inl e))
              obtain ⟨_, b1, _⟩ := hrt4.cells
              rw [HRR.out] at b1
              have ca := hrt4.ra.cell (j := q) (v := .bool (askB m)) (by unfold askVs; rw [List.getElem?_map, hm]; rfl)
              have fa := hrt4.ra.frozen q
              unfold askVs at hrm
              rw [List.length_map] at hrm
              have HA4 := Lib.hid (hA.ask hm h4 hk4)
              have hbl : (askS L q m).length = L.length := by unfold askS; split <;> simp
              have HBL := Lib.hid hbl
              obtain ⟨tb, htb⟩ : ∃ tb, decide (m.ask = 0) = tb := ⟨_, rfl⟩
              have hta : askB m = !tb := by unfold askB; rw [← htb]; simp
              rw [hta] at ca
              rw [htb]
              have ht2 : (tb == tb) = true := by simp
              have ht3 : (tb != tb) = false := by simp
              have ht4 : (!!tb) = tb := by simp
              clear htb hta h4 hk4 hrt4 hA hbl
              go_wp2_with fail
              go_meet
              case rel => exact ⟨0, d + 1, _, R, c', g, rfl, .inl ⟨rfl, rfl⟩, by rw [HBL.out]; exact hfit, HRR.out, HA4.out⟩

            · have HNO := Lib.hid (s_ask_no hA.sd iv sv v HV.out hv0)
              have hvv : (v != v) = false := by simp
              have hv1 : (v == 0) = false := by simp [hv0]
              have hv2 : (v != 0) = true := by simp [hv0]
              have HV0 := Lib.hid hv0
              clear hv0
              go_wp2_with fail
              refine HNO.out.mono ?_
              rintro e w4 ⟨rfl, h4, hk4⟩
              have HA4 := Lib.hid (hA.same h4 hk4)
              clear HNO h4 hk4 hA
              go_wp2_with fail
              go_meet
              case rel => exact ⟨v, d, L, R, c', g, rfl, .inr ⟨HV0.out, rfl⟩, hfit, HRR.out, HA4.out⟩
            -- END ask
          · as_aux_lemma =>
            -- PART asked
            clear hDo
            by_cases hv0 : v = 0
            · rw [hv0] at HV ⊢
              clear hv0
              obtain ⟨q, m, rfl, hm, i0, i1⟩ : ∃ (q : Nat) (m : Sc), sv = q ∧ L[q]? = some m ∧ 0 ≤ iv ∧ iv < 3 := by
                rcases may_cases HV.out with ⟨e, _⟩ | ⟨e, _⟩ | ⟨_, h⟩
                · cases e
                · cases e
                · exact h
              have hql := sc_lt hm
              have hrm := hA.rt.ra.room
              go_wp2_with fail
              refine (sd_asked hA.sd iv i0 (by omega) (by omega) q m hm).mono ?_
              rintro e w4 ⟨rfl, h4, hk4⟩
              have hrt4 := hA.rt.kept hk4 (fun q hq e => hA.ap q hq (.inl e))
              obtain ⟨_, b1, _⟩ := hrt4.cells
              rw [HRR.out] at b1
              have ca := hrt4.ra.cell (j := q) (v := .bool (askB m)) (by unfold askVs; rw [List.getElem?_map, hm]; rfl)
              have fa := hrt4.ra.frozen q
              unfold askVs at hrm
              rw [List.length_map] at hrm
              have HA4 := Lib.hid (hA.same h4 hk4)
              obtain ⟨tb, htb⟩ : ∃ tb, askB m = tb := ⟨_, rfl⟩
              rw [htb] at ca
              rw [show decide (¬ m.ask = 0) = tb from htb]
              have ht2 : (tb == tb) = true := by simp
              have ht3 : (tb != tb) = false := by simp
              clear htb h4 hk4 hrt4 hA
              go_wp2_with fail
              go_meet
              case rel => exact ⟨0, d + 1, L, R, c', g, rfl, .inl ⟨rfl, rfl⟩, hfit, HRR.out, HA4.out⟩

            · have HNO := Lib.hid (s_asked_no hA.sd iv sv v HV.out hv0)
              have hvv : (v != v) = false := by simp
              have hv1 : (v == 0) = false := by simp [hv0]
              have hv2 : (v != 0) = true := by simp [hv0]
              have HV0 := Lib.hid hv0
              clear hv0
              go_wp2_with fail
              refine HNO.out.mono ?_
              rintro e w4 ⟨rfl, h4, hk4⟩
              have HA4 := Lib.hid (hA.same h4 hk4)
              clear HNO h4 hk4 hA
              go_wp2_with fail
              go_meet
              case rel => exact ⟨v, d, L, R, c', g, rfl, .inr ⟨HV0.out, rfl⟩, hfit, HRR.out, HA4.out⟩
            -- END asked
        case rest =>
          clear hA HV HRR hfit hDo
          obtain ⟨v', d', L', R', c2, g2, rfl, hvd, hfit, hr, hA⟩ := hcut
          obtain ⟨wq, rfl⟩ : ∃ wq : World, wq = wc := ⟨_, rfl⟩
          have hdd : 0 ≤ d' ∧ d' ≤ 1 + ((k : Int) + 1) := by rcases hvd with ⟨_, rfl⟩ | ⟨_, rfl⟩ <;> omega
          go_upto_if 289 with fail
          go_cut [10] from 288 to 291 (fun x wc => x = .int .i64 d' ∧ wq = wc)
          case first =>
            clear hA
            rcases hvd with ⟨rfl, rfl⟩ | ⟨hv, rfl⟩
            · as_aux_lemma =>
                have hw : wrap64 (d + 1) = d + 1 := by unfold wrap64; omega
                go_wp2_with fail
                go_meet
                case rel => exact ⟨rfl, rfl⟩
            · as_aux_lemma =>
                have hv1 : (v' == 0) = false := by simp [hv]
                clear hv
                go_wp2_with fail
                go_meet
                case rel => exact ⟨rfl, rfl⟩
          case rest =>
            obtain ⟨rfl, rfl⟩ := hcut
            clear hvd hd0 hd1
            obtain ⟨hd0, hd1⟩ := hdd
            have hsd := hA.sd
            obtain ⟨st, hl, hpos, hsum, hSW⟩ := hsd
            obtain ⟨a0, a1, a2, rfl⟩ : ∃ a b c, st = [a, b, c] := by
              match st, hl with
              | [a, b, c], _ => exact ⟨a, b, c, rfl⟩
            have p0 := hpos a0 (by simp)
            have p1 := hpos a1 (by simp)
            have p2 := hpos a2 (by simp)
            simp only [List.sum_cons, List.sum_nil, Int.add_zero] at hsum
            have qs : ∀ (i v : Int), (⟨scC L', sz, [a0, a1, a2]⟩ : MS).stepsOf i = v → ∀ pq : BelowOf wq, Calls Try.prog 25 #[.pointer (some ⟨p, 0, none⟩), .int .i64 i] pq.v fun e w' => e = .returned (.int .i64 v) ∧ ∃ q : BelowOf wq, w' = q.v := fun i v hv pq => by
              subst hv
              exact Calls.below_same pq (steps_any ⟨p, c2, s0⟩ _ i pq.v (hSW.below pq.bel).m)
            have q0 := qs 0 a0 rfl
            have q1 := qs 1 a1 rfl
            have q2 := qs 2 a2 rfl
            have ql : ∀ pq : BelowOf wq, Calls Try.prog 35 #[.pointer (some ⟨t, 0, none⟩)] pq.v fun e w' => e = .returned (.int .i64 L'.length) ∧ ∃ q : BelowOf wq, w' = q.v := fun pq => by
              have h := len_tree t g2 (scN L') pq.v (hSW.below pq.bel).t
              rw [length_scN] at h
              exact Calls.below_same pq h
            have qu : ∀ pq : BelowOf wq, Calls Try.prog 51 #[.pointer (some ⟨p, 0, none⟩)] pq.v fun e w' => e = .returned (.int .i64 (2 * (L'.length : Int))) ∧ ∃ q : BelowOf wq, w' = q.v := fun pq => by
              have h := used_any ⟨p, c2, s0⟩ _ pq.v (hSW.below pq.bel).m
              rw [show ((⟨scC L', sz, [a0, a1, a2]⟩ : MS).cells.length : Int) = 2 * (L'.length : Int) by show ((scC L').length : Int) = _; rw [length_scC]; omega] at h
              exact Calls.below_same pq h
            have cr : ∀ pq : BelowOf wq, pq.v.cell? ⟨r0, 0, none⟩ = some (.slice (some ⟨R'.pb, 0, none⟩) L'.length R'.pc) := fun pq => by
              have h := (hA.below pq.bel).cells.1
              rwa [hr] at h
            have hrm := hA.rt.rp.room
            rw [len_row] at hrm
            have hw1 : wrap64 (a0 + a1) = a0 + a1 := by unfold wrap64; omega
            have hw2 : wrap64 (a0 + a1 + a2) = d' := by unfold wrap64; omega
            have wm : wrap64 (2 * (L'.length : Int)) = 2 * (L'.length : Int) := by unfold wrap64; omega
            have HA := Lib.hid hA
            have HRR := Lib.hid hr
            have Q0 := Lib.hid q0
            have Q1 := Lib.hid q1
            have Q2 := Lib.hid q2
            have QL := Lib.hid ql
            have QU := Lib.hid qu
            clear hA qs q0 q1 q2 ql qu hSW hsum hpos hl p0 p1 p2
            go_upto_region 53 with fail
            go_cut [322] from 292 to 321 (fun x wx => x = .bool false ∧ Below wq.heap.size wq wx)
            case first =>
              as_aux_lemma =>
                refine wp_region_quiet_below (by kernel_rfl) (by kernel_rfl) ?_
                repeat (go_big_quiet_step (first
                  | (go_at_call 25; with_reducible first | exact Q0.out _ | exact Q1.out _ | exact Q2.out _)
                  | (go_at_call 35; exact QL.out _)
                  | (go_at_call 51; exact QU.out _)))
                refine wpQuiet_nil ?_
                intro _ hw'
                obtain ⟨pq, hw''⟩ := hw'
                subst hw''
                clear cr
                go_wp2_with fail
                go_meet
                case rel => exact ⟨rfl, pq.bel⟩
            case rest =>
              obtain ⟨rfl, hbel⟩ := hcut
              clear cr Q0 Q1 Q2 QL QU hw1 hw2 wm
              have hA := HA.out.below hbel
              clear HA hbel
              go_wp2_with fail
              go_loopw [27] (fun x wr => ∃ j : Nat, j ≤ L'.length ∧ x = .int .i64 j ∧ AS W wr ⟨p, c2, s0⟩ t g2 sz d' L' R') (fun x _ => L'.length - (intOf x).toNat)
              case atStart => exact ⟨0, Nat.zero_le _, rfl, hA⟩
              case round =>
                clear hA
                obtain ⟨j, hj, rfl, hA⟩ := hrel
                have b0 := hA.cells.1
                rw [HRR.out] at b0
                by_cases hlt2 : j < L'.length
                · as_aux_lemma =>
                    obtain ⟨m, hm⟩ : ∃ m, L'[j]? = some m := ⟨L'[j], by simp [hlt2]⟩
                    go_wp2_with fail
                    refine (sd_peek hA.sd j m hm).mono ?_
                    rintro e w5 ⟨rfl, _, hb5⟩
                    have hA5 := hA.below hb5
                    obtain ⟨_, b1, b2⟩ := hA5.cells
                    rw [HRR.out] at b1 b2
                    have ca := hA5.rt.ra.cell (j := j) (v := .bool (askB m)) (by unfold askVs; rw [List.getElem?_map, hm]; rfl)
                    have cl := hA5.rt.rl.cell (int_row Sc.live hm)
                    have hra := hA5.rt.ra.room
                    have hrl := hA5.rt.rl.room
                    unfold askVs at hra
                    rw [List.length_map] at hra
                    rw [len_row] at hrl
                    obtain ⟨tb, htb⟩ : ∃ tb, askB m = tb := ⟨_, rfl⟩
                    rw [htb] at ca
                    rw [show decide (¬ m.ask = 0) = tb from htb]
                    obtain ⟨lv, hlv⟩ : ∃ lv, m.live = lv := ⟨_, rfl⟩
                    rw [hlv] at cl
                    rw [hlv]
                    have ht2 : (tb == tb) = true := by simp
                    have ht3 : (tb != tb) = false := by simp
                    have hl1 : (lv == lv) = true := by simp
                    have hl2 : (lv != lv) = false := by simp
                    have HA5 := Lib.hid hA5
                    clear htb hlv hA hA5 hb5 b0
                    go_wp2_with fail
                    go_roundw
                    case rel => exact ⟨j + 1, by omega, by go_num, HA5.out⟩
                    case measure => simp [intOf]; omega
                · obtain rfl : j = L'.length := by omega
                  have HA := Lib.hid hA
                  clear hA
                  as_aux_lemma =>
                    go_wp2_with fail
                    go_roundw
                    case rel => exact ⟨k + 1, d', L', R', c2, g2, by omega, rfl, by go_num, hd0, by omega, hfit, HRR.out, HA.out⟩
                    case measure => simp [intOf]; omega
      · have n0 : (z0 == 0) = false := by simp; omega
        have n1 : (z0 == 1) = false := by simp; omega
        have n2 : (z0 == 2) = false := by simp; omega
        have n3 : (z0 == 3) = false := by simp; omega
        have n4 : (z0 == 4) = false := by simp; omega
        have n5 : (z0 == 5) = false := by simp; omega
        clear hDo
        as_aux_lemma =>
          -- PART other
          have HA := Lib.hid hA
          clear hA
          go_wp2_with fail
          go_roundw
          case rel => exact ⟨k + 1, d, L, R, c', g, by omega, rfl, by go_num, hd0, by omega, hfit, HRR.out, HA.out⟩
          case measure => simp [intOf]; omega
          -- END other
    · obtain rfl : k = n := by omega
      have bel := hA.sd.bel
      clear hA hlt hk
      go_wp2_with (go_at_call 26; refine (awake14_any _).mono ?_; rintro e w9 ⟨rfl, hb9⟩)
      go_ret
      exact ⟨rfl, bel.trans (hb9.mono bel.size)⟩

theorem scopeActs_walk (W : World) (sz : Int) (_w : (Lit.int .i64 sz).wf = true) (A : Option Addr) (n c : Nat) (z : List Int) (_h : n ≤ maxLen) (F : Flat W A (n * 3) z) :
    Calls Try.prog 10 #[.int .i64 sz, .slice A n c] W fun e w' => e = .returned (.bool true) ∧ Below W.heap.size W w' := by
  by_cases h : 2 ≤ sz ∧ sz ≤ 200 ∧ n ≤ 200
  · exact sacts_near W sz h.1 h.2.1 A n c z h.2.2 F
  · exact sacts_far W sz A n c h
end Go.Proofs.Ytkdpckoneohjkaa
