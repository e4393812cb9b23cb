/-
  WHAT IS PROVED HERE: the walk of the law pelotonlaw14.ScopeSpreads: it returns true, and what was there before the call stays. Conditions: the arguments are 64-bit numbers.
-/
import Derived.Test.YtkdpckoneohjkaaSprC
import Derived.Deep.RegionWith
import Derived.Deep.DeepCutAuto
import Derived.StillTailTactics
import Derived.Deep.RegionHeld3
import Derived.Deep.CutBlock
namespace Go.Proofs.Ytkdpckoneohjkaa
open Go.RowKit

theorem spick_three (v : Int) : ∃ r : Nat, r < 3 ∧ (wrap64 (v.tmod 3 + 3)).tmod 3 = (r : Int) := gpick v 3 (by omega) (by omega)
set_option maxRecDepth 100000 in
set_option maxHeartbeats 4000000 in
theorem spreads_near (W : World) (A0 : Option Addr) (n c : Nat) (z : List Int) (F0 : Flat W A0 n z) (hn : n ≤ 60) (A1 : Option Addr) (n1 c1 : Nat) (z1 : List Int) (F1 : Flat W A1 (n1 * 3) z1) (hn1 : n1 ≤ 300) :
    Calls Try.prog 6 #[.slice A0 n c, .slice A1 n1 c1] W fun e w' => e = .returned (.bool true) ∧ Below W.heap.size W w' := by
  have d1 : decide ((60 : Int) < (n : Int)) = false := by simp; omega
  have d2 : decide ((300 : Int) < (n1 : Int)) = false := by simp; omega
  have hmk1 : ∀ w : World, (Instr.makeSlice 57 (.int .i64 3) (.int .i64 3)).run Try.prog w = .ok (.slice (some ⟨w.heap.size, 0, none⟩) 3 3) (w.alloc (.cells #[.pointer none, .pointer none, .pointer none] 61)) := fun _ => by kernel_rfl
  have hmk2 : ∀ w : World, (Instr.makeSlice 56 (.int .i64 3) (.int .i64 3)).run Try.prog w = .ok (.slice (some ⟨w.heap.size, 0, none⟩) 3 3) (w.alloc (.cells #[.bool false, .bool false, .bool false] 4)) := fun _ => by kernel_rfl
  have hmk3 : ∀ w : World, (Instr.makeSlice 24 (.int .i64 3) (.int .i64 3)).run Try.prog w = .ok (.slice (some ⟨w.heap.size, 0, none⟩) 3 3) (w.alloc (.cells #[.int .i64 0, .int .i64 0, .int .i64 0] 3)) := fun _ => by kernel_rfl
  go_enter Try.func6, Try.ntmps6
  go_wp2_with fail
  refine (new_ok 200 2 _ (by omega) (by omega) (by omega) (by omega)).mono ?_
  rintro e w1 ⟨p, s0, rfl, hm1, hk1, hp, hs⟩
  have hb1 : Below W.heap.size W w1 := hk1.below (Nat.le_refl _) (fun _ h => h.elim)
  clear hk1
  go_wp2_with fail
  refine (grow_ok W w1 p s0 2 A0 n c z hm1 hb1 hp hs F0 (by omega)).mono ?_
  rintro e w2 ⟨c', t, g, bi, ci, L, rfl, hG, hlen⟩
  clear hm1 hb1 hp hs F0 d1
  have hpos := hG.wf.pos
  have hS := SpW.start hG
  obtain ⟨nn, hnn⟩ : ∃ nn, L.length = nn := ⟨_, rfl⟩
  have hL : nn ≤ 61 := by omega
  have hmk0 := fun w => make_bools nn (by omega) w
  rw [hnn] at hS hpos ⊢
  clear hG
  go_wp2_with fail
  generalize w2.heap.size = N at *
  rw [show N + 1 + 1 + 1 + 1 + 1 = N + 5 from rfl, show N + 1 + 1 + 1 + 1 = N + 4 from rfl, show N + 1 + 1 + 1 = N + 3 from rfl, show N + 1 + 1 = N + 2 from rfl]
  generalize ((((((w2.alloc (.cells (bls (List.replicate nn false)).toArray 4)).alloc (.cells #[.pointer none, .pointer none, .pointer none] 61)).alloc (.cells #[.bool false, .bool false, .bool false] 4)).alloc (.cells #[.int .i64 0, .int .i64 0, .int .i64 0] 3)).alloc (.cells #[.int .i64 0, .int .i64 0, .int .i64 0] 3)).alloc (.cells #[.slice none 0 0, .slice none 0 0, .slice none 0 0] 56)) = w3 at *
  clear hmk0 hmk1 hmk2 hmk3 hlen hn
  go_loopw [17] (fun v wr => ∃ (k : Nat) (d : Int) (L : List Sc) (A : List Bool) (ws : List Wr), k ≤ n1 ∧ v = .int .i64 k ∧ L.length = nn ∧ d ≤ 61 + (k : Int) ∧ SpW W wr ⟨p, c', s0⟩ t g bi ci N d L A ws) (fun i _ => n1 - (intOf i).toNat)
  case atStart => exact ⟨0, nn, L, _, _, Nat.zero_le _, rfl, hnn, by omega, hS⟩
  case round =>
    clear hS hnn
    obtain ⟨k, d, L, A, ws, hk, rfl, hnn, hd, hS⟩ := hrel
    by_cases hlt : k < n1
    · obtain ⟨_, _, hcell⟩ := F1
      obtain ⟨b, off, rfl, hb, hc⟩ := hcell (by omega)
      obtain ⟨z0, hz0⟩ : ∃ v, v = z1.getD (k * 3) 0 := ⟨_, rfl⟩
      obtain ⟨z2, hz2⟩ : ∃ v, v = z1.getD (k * 3 + 1) 0 := ⟨_, rfl⟩
      obtain ⟨z3, hz3⟩ : ∃ v, v = z1.getD (k * 3 + 2) 0 := ⟨_, rfl⟩
      have cc0 : wr.cell? ⟨b, off + k * 3, none⟩ = some (.int .i64 z0) := by rw [hz0, hS.sd.bel.cell (by exact hb)]; exact hc (k * 3) (by omega)
      have cc1 : wr.cell? ⟨b, off + k * 3 + 1, none⟩ = some (.int .i64 z2) := by rw [hz2, hS.sd.bel.cell (by exact hb)]; exact hc (k * 3 + 1) (by omega)
      have cc2 : wr.cell? ⟨b, off + k * 3 + 2, none⟩ = some (.int .i64 z3) := by rw [hz3, hS.sd.bel.cell (by exact hb)]; exact hc (k * 3 + 2) (by omega)
      clear hcell hc hz0 hz2 hz3
      have hz : ¬ (nn : Int) = 0 := by omega
      obtain ⟨s, hs1, hs⟩ := gpick z2 nn hpos (by omega)
      have HR := Lib.hid hs
      clear hs
      go_upto_region 20 with fail
      rw [HR.out]
      clear HR cc1
      obtain ⟨v, hv1, hv⟩ := spick_three z3
      have HR := Lib.hid hv
      clear hv
      go_upto_region 21 with fail
      rw [HR.out]
      clear HR cc2
      obtain ⟨x, hx⟩ : ∃ x, L[s]? = some x := ⟨L[s], by simp [hnn, hs1]⟩
      have hwv : (v : Int) < 3 := by omega
      by_cases h4 : z0 = 4
      · skip
        -- PART ask
        have e4 : (z0 == 4) = true := by simp [h4]
        clear h4
        go_wp2_with fail
        refine (sd_ask hS.sd v (by omega) (by omega) (by omega) s x hx).mono ?_
        rintro e w4 ⟨rfl, h4, hk4⟩
        have hS4 := hS.ask hx h4 hk4
        have hAs := hS.as_ s x hx
        have ba4 : Blk w4 N 4 (bls A) := hS.ba.kept hk4 (fun e => by have := mb_low hS e; omega)
        have ca4 : w4.cell? ⟨N, s, none⟩ = some (.bool (decide (¬ x.ask = 0))) := by rw [ba4.cell, get_bls, hAs]; rfl
        have fa4 : w4.frozen? ⟨N, s, none⟩ = false := ba4.frozen s
        obtain ⟨u, hu⟩ : ∃ u, decide (x.ask = 0) = u := ⟨_, rfl⟩
        have hu' : decide (¬ x.ask = 0) = !u := by rw [← hu]; simp
        rw [hu'] at ca4
        rw [hu]
        have ue : (u == !u) = false := by cases u <;> rfl
        have HL : Hid ((askS L s x).length = nn) := Lib.hid (by rw [askS_len]; exact hnn)
        have HS := Lib.hid hS4
        clear hS hS4 h4 hk4 hAs ba4 hu hu' hx
        go_wp2_with fail
        go_roundw
        case rel => exact ⟨k + 1, d + 1, _, _, ws, by omega, by go_num, HL.out, by omega, HS.out⟩
        case measure => simp [intOf]; omega
        -- END ask
      · have e4 : (z0 == 4) = false := by simp [h4]
        clear h4
        obtain ⟨r, hr⟩ : ∃ r, ws[v]? = some r := ⟨ws[v]'(by rw [hS.lw]; exact hv1), by simp [hS.lw, hv1]⟩
        have cb : wr.cell? ⟨N + 2, v, none⟩ = some (.bool r.busy) := by rw [hS.bb.cell, get_bls, List.getElem?_map, hr]; rfl
        go_upto_if 119 with fail
        clear cc0
        go_cut [22, 23] from 115 to 147 (fun x y wc => ∃ (ws' : List Wr) (r' : Wr), SpW W wc ⟨p, c', s0⟩ t g bi ci N d L A ws' ∧ ws'[v]? = some r' ∧ r'.busy = true)
        case first =>
          obtain ⟨bu, hbu⟩ : ∃ bu, r.busy = bu := ⟨_, rfl⟩
          rw [hbu]
          cases bu with
          | true =>
            clear cb
            go_wp2_with fail
            go_meet
            case rel => exact ⟨ws, r, hS, hr, hbu⟩
          | false =>
            skip
            -- PART look
            obtain ⟨ii, hii, hi0, hi1, hi2⟩ := info_bool'
            clear cb
            go_wp2_with fail
            refine (sd_look hS.sd s x hx).mono ?_
            rintro e w4 ⟨b4, rfl, hbs, _, _, hL4, _, hb4⟩
            have hS4 := hS.below hb4
            have fl := hS4.bl.frozen v
            have fb := hS4.bb.frozen v
            have fo := hS4.bo.frozen v
            have fs := hS4.bs.frozen v
            have cl : w4.cell? ⟨N + 1, v, none⟩ = some r.lv := by rw [hS4.bl.cell, List.getElem?_map, hr]; rfl
            have cb : w4.cell? ⟨N + 2, v, none⟩ = some (.bool r.busy) := by rw [hS4.bb.cell, get_bls, List.getElem?_map, hr]; rfl
            have co : w4.cell? ⟨N + 3, v, none⟩ = some (.int .i64 r.of) := by rw [hS4.bo.cell, get_ints, List.getElem?_map, hr]; rfl
            have cs : w4.cell? ⟨N + 4, v, none⟩ = some (.int .i64 r.steps) := by rw [hS4.bs.cell, get_ints, List.getElem?_map, hr]; rfl
            go_upto_region 34 with fail
            have k5 : Kept (fun k => N + 1 ≤ k ∧ k ≤ N + 5) w4 (four w4 N v s b4) := four_kept
            have z5 : (four w4 N v s b4).heap.size = w4.heap.size := four_size
            have bh5 : Blk (four w4 N v s b4) (N + 5) 56 (ws.map Wr.hv) := (((hS4.bh.setOther (p := ⟨N + 1, v, none⟩) (by simp) _).setOther (p := ⟨N + 2, v, none⟩) (by simp) _).setOther (p := ⟨N + 3, v, none⟩) (by simp) _).setOther (p := ⟨N + 4, v, none⟩) (by simp) _
            have ba5 := hS4.ba.kept k5 (by omega)
            clear fl fb fo fs cl cb co cs hS4
            obtain ⟨w5, hw5⟩ : ∃ w5, four w4 N v s b4 = w5 := ⟨_, rfl⟩
            rw [show (((w4.setCell ⟨N + 1, v, none⟩ (.pointer (some ⟨b4, 0, none⟩))).setCell ⟨N + 2, v, none⟩ (.bool true)).setCell ⟨N + 3, v, none⟩ (.int .i64 s)).setCell ⟨N + 4, v, none⟩ (.int .i64 0) = w5 from hw5]
            have HT := fun (w6 : World) (gh ch : Nat) => hS.took (w6 := w6) (gh := gh) (ch := ch) hr hx hbs hb4 hL4
            rw [hw5] at k5 z5 bh5 ba5
            rw [hw5] at HT
            have HK5 := Lib.hid k5
            have HZ5 := Lib.hid z5
            have HTT := Lib.hid HT
            have hN5 : N + 5 < w5.heap.size := bh5.lt
            have ne1 : ¬ N + 5 = w5.heap.size := by omega
            have ne2 : ¬ N = w5.heap.size := by omega
            have RI : Rw (w5.alloc (.cells #[] 4)) w5.heap.size 0 4 [] := Rw.of (Blk.new w5 4 []) (by unfold maxLen; simp)
            have ba6 := ba5.alloc (.cells #[] 4)
            have bh6 := bh5.alloc (.cells #[] 4)
            have z6 : (w5.alloc (.cells #[] 4)).heap.size = w5.heap.size + 1 := by simp
            have RJ := Lib.hid RI
            have BA := Lib.hid ba6
            have BH := Lib.hid bh6
            have HLA : Hid ((bls A).length = nn) := Lib.hid (by rw [length_bls, hS.la]; exact hnn)
            clear hw5 k5 z5 bh5 ba5 HT RI ba6 bh6 hL4 hb4
            go_wp2_with (at_builtin; go_loud (refine wpList_append_rowN _ rfl (.tmp 144) (.tmp 145) 56 rfl 4 ii (.bool false) 1 Try.underlying56 hii hi0 hi1 hi2 rfl w5.heap.size 0 0 [] rfl rfl RJ.out N nn nn (bls A) rfl HLA.out (fun j u hu => by rw [BA.out.cell]; exact hu) (fun u hu => by obtain ⟨x, _, rfl⟩ := List.mem_map.1 hu; rfl) hpos (by show 0 + nn ≤ 1000000; omega) (by omega) ?_); intro gh ch w6 hr6 hk6 hw6 hl6; have bh7 := BH.out.kept hk6 ne1; have c7 : w6.cell? ⟨N + 5, v, none⟩ = some r.hv := (by rw [bh7.cell, List.getElem?_map, hr]; rfl); have f7 := bh7.frozen v; have hT7 := HTT.out w6 gh ch hk6 hr6 hw6; rw [hnn] at hT7; have HT7 := Lib.hid hT7; clear hT7 hr6 hk6 hw6 bh7)
            go_meet
            case rel => exact ⟨_, _, HT7.out, by rw [List.getElem?_set_self (List.getElem?_eq_some_iff.1 hr).1], rfl⟩
            -- END look
        case rest =>
          clear hS hr cb
          obtain ⟨wa, rfl⟩ : ∃ wq : World, wq = wc := ⟨_, rfl⟩
          obtain ⟨ws', r', hS, hr, hbu⟩ := hcut
          obtain ⟨q, a, m, gh, ch, o, n0, H, hK⟩ := hS.wk v r' hr hbu
          have hnq : ¬ hasSW ⟨p, c', s0⟩ t g q := fun e => by have := hS.low q (.inl e); have := hK.nq; omega
          have hWq : W.heap.size ≤ q := by have := hS.nw; have := hK.nq; omega
          have hNq := hK.nq
          have hqlt := hK.lk.lt
          have hmd := hS.wf.deep a m hK.at_
          have hnd := hS.wf.deep o n0 hK.on
          have hst := hK.st
          have hs0 := hK.s0
          obtain ⟨T, hT⟩ : ∃ T, r'.steps = T := ⟨_, rfl⟩
          rw [hT] at hst hs0
          have hwt : wrap64 (T + 1) = T + 1 := by unfold wrap64; omega
          have cs : wa.cell? ⟨N + 4, v, none⟩ = some (.int .i64 T) := by rw [hS.bs.cell, get_ints, List.getElem?_map, hr, ← hT]; rfl
          have cl : wa.cell? ⟨N + 1, v, none⟩ = some (.pointer (some ⟨q, 0, none⟩)) := by rw [hS.bl.cell, List.getElem?_map, hr, ← hK.lv]; rfl
          have fs := hS.bs.frozen v
          have k1 : Kept (fun k => k = N + 4) wa (wa.setCell ⟨N + 4, v, none⟩ (.int .i64 (T + 1))) := (Kept.refl (fun k => k = N + 4) wa).setCell (p := ⟨N + 4, v, none⟩) (.inl rfl) _
          have h1 := hS.sd.kept k1 (fun q hq e => by have := hS.low q (.inl hq); omega) (hS.sd.bel.trans (k1.below hS.sd.bel.size (fun q e => by have := hS.nw; omega)))
          have hL1 := hK.lk.kept k1 (by omega)
          have hAa := hS.as_ a m hK.at_
          obtain ⟨is, his⟩ : ∃ is, is = decide (¬ m.ask = 0) := ⟨_, rfl⟩
          obtain ⟨dn, hdn⟩ : ∃ dn, dn = (is || decide (a = 0)) := ⟨_, rfl⟩
          rw [← his] at hAa
          have hstep := sd_step h1 v (by omega) (by omega) (by omega) q a m false hL1 hnq hWq hK.at_ is dn his hdn
          have HST := Lib.hid hst
          have HS := Lib.hid hS
          have HK := Lib.hid hK
          have HTT := Lib.hid hT
          have HDN := Lib.hid hdn
          have HAA := Lib.hid hAa
          have HK1 := Lib.hid k1
          have HSTEP := Lib.hid hstep
          clear hS hK hT hdn his hAa k1 h1 hL1 hnq hst hstep
          go_wp2_with fail
          refine HSTEP.out.mono ?_
          rintro e w2 ⟨rfl, h2, hL2, hk2⟩
          clear HSTEP
          have k12 : Kept (fun k => (⟨p, c', s0⟩ : MB).has k ∨ k = q ∨ k = N + 4) wa w2 := (HK1.out.mono (fun k _ e => .inr (.inr e))).trans hk2 (fun k _ e => by rcases e with e | e; exact .inl e; exact .inr (.inl e))
          have bs2 := HS.out.bs.set v (.int .i64 (T + 1))
          have bo2 := HS.out.bo.setOther (p := ⟨N + 4, v, none⟩) (by simp) (.int .i64 (T + 1))
          have no2 : ∀ k, N ≤ k → k ≠ q → ¬ ((⟨p, c', s0⟩ : MB).has k ∨ k = q) := fun k h1 h2 e => by
            rcases e with e | e
            · have := mb_low HS.out e; omega
            · exact h2 e
          have bs2 := bs2.kept hk2 (no2 _ (by omega) (by omega))
          have bo2 := bo2.kept hk2 (no2 _ (by omega) (by omega))
          have hilt : v < ws'.length := (List.getElem?_eq_some_iff.1 hr).1
          have cs2 : ∀ pq : BelowOf w2, pq.v.cell? ⟨N + 4, v, none⟩ = some (.int .i64 (T + 1)) := fun pq => by
            rw [(bs2.below pq.bel bs2.lt).cell, List.getElem?_set_self (by rw [length_ints, List.length_map]; exact hilt)]
          have co2 : ∀ pq : BelowOf w2, pq.v.cell? ⟨N + 3, v, none⟩ = some (.int .i64 o) := fun pq => by
            rw [(bo2.below pq.bel bo2.lt).cell, get_ints, List.getElem?_map, hr, ← HK.out.of]; rfl
          have HBS := Lib.hid bs2
          have HK12 := Lib.hid k12
          have hwn : wrap64 (n0.nest + 1) = n0.nest + 1 := by unfold wrap64; omega
          have dl : decide (n0.nest < T) = false := by have := HST.out; simp; omega
          have hon : nestOf (scN L) o = n0.nest := nestOf_sc HK.out.on
          have HON := Lib.hid hon
          clear bs2 bo2 hk2 hon cs cl fs k12 no2
          have hcombo : (dn = false ∧ is = false) ∨ (dn = true ∧ is = true) ∨ (dn = true ∧ is = false) := by
            have h := HDN.out
            cases is with
            | true => exact .inr (.inl ⟨h.trans (Bool.true_or _), rfl⟩)
            | false =>
              cases dn with
              | true => exact .inr (.inr ⟨rfl, rfl⟩)
              | false => exact .inl ⟨rfl, rfl⟩
          go_upto_region 37 with fail
          go_cut [187] from 165 to 186 (fun x wx => x = .bool false ∧ Below w2.heap.size w2 wx)
          case first =>
            have H2 := Lib.hid h2
            clear hL2 h2
            -- PART cut
            rcases hcombo with ⟨rfl, rfl⟩ | ⟨rfl, rfl⟩ | ⟨rfl, rfl⟩
            all_goals
              refine wp_region_quiet_below (by kernel_rfl) (by kernel_rfl) ?_
              repeat (go_big_quiet_step (first
                | (go_at_call 31; exact q_nest H2.out o n0.nest HON.out _)))
              refine wpQuiet_nil ?_
              intro _ hw'
              obtain ⟨pq, hw''⟩ := hw'
              subst hw''
              clear cs2 co2
              go_wp2_with fail
              go_meet
              case rel => exact ⟨rfl, pq.bel⟩
            -- END cut
          case rest =>
            clear cs2 co2
            obtain ⟨rfl, hbel⟩ := hcut
            have k3 : Kept (fun k => (⟨p, c', s0⟩ : MB).has k ∨ k = q ∨ k = N + 4) wa wc := HK12.out.trans (Kept.of_below hbel) (fun _ _ e => e)
            have h3 := h2.below hbel
            have hL3 := hL2.below hbel hL2.lt
            have bs3 := HBS.out.below hbel HBS.out.lt
            have no3 : ∀ k, N ≤ k → k ≠ q → k ≠ N + 4 → ¬ ((⟨p, c', s0⟩ : MB).has k ∨ k = q ∨ k = N + 4) := fun k h1 h2 h3 e => by
              rcases e with e | e | e
              · have := mb_low HS.out e; omega
              · exact h2 e
              · exact h3 e
            have bb3 := HS.out.bb.kept k3 (no3 _ (by omega) (by omega) (by omega))
            have hgq : gh ≠ q := Rw.apart HK.out.row HK.out.lk (by decide)
            have hng := HK.out.ng
            have nogh := no3 gh (by omega) hgq (by omega)
            by_cases hdd : dn = false
            · skip
              -- PART goes
              obtain rfl : is = false := by
                rcases hcombo with ⟨_, e⟩ | ⟨e, _⟩ | ⟨_, e⟩
                · exact e
                · rw [hdd] at e; cases e
                · exact e
              have ha0 : a ≠ 0 := by
                intro e
                have h := HDN.out
                rw [hdd, decide_eq_true e] at h
                cases h
              subst hdd
              have hS' := HS.out.step (r' := { r' with steps := T + 1 }) hr hbu HK.out k3 (fun k e => by rcases e with e | e | e; exact .inl e; exact .inr (.inl e); exact .inr (.inr (.inl e))) h3 rfl rfl rfl
                (by rw [map_same (a' := { r' with steps := T + 1 }) Wr.busy hr rfl]; exact bb3) (by rw [List.map_set, ← set_ints]; exact bs3)
                (fun _ => HK.out.next HS.out.wf HAA.out ha0 k3 nogh hL3 rfl rfl rfl (by rw [HTT.out]))
              have HS' := Lib.hid hS'
              clear hS' bs3 bb3 k3 h3 hL3 h2 hL2 no3 nogh hbel dl
              go_wp2_with fail
              go_roundw
              case rel => exact ⟨k + 1, d + 1, L, A, _, by omega, by go_num, hnn, by omega, HS'.out⟩
              case measure => simp [intOf]; omega
              -- END goes
            · obtain rfl : dn = true := by cases dn; exact absurd rfl hdd; rfl
              clear hdd
              have k4 : Kept (fun k => (⟨p, c', s0⟩ : MB).has k ∨ k = q ∨ k = N + 4 ∨ k = N + 2) wa (wc.setCell ⟨N + 2, v, none⟩ (.bool false)) := (k3.mono (fun k _ e => by rcases e with e | e | e; exact .inl e; exact .inr (.inl e); exact .inr (.inr (.inl e)))).setCell (p := ⟨N + 2, v, none⟩) (.inl (.inr (.inr (.inr rfl)))) _
              have kset : Kept (fun k => k = N + 2) wc (wc.setCell ⟨N + 2, v, none⟩ (.bool false)) := (Kept.refl (fun k => k = N + 2) wc).setCell (p := ⟨N + 2, v, none⟩) (.inl rfl) _
              have h4 := h3.kept kset (fun q hq e => by have := HS.out.low q (.inl hq); omega) (h3.bel.trans (kset.below h3.bel.size (fun q e => by have := HS.out.nw; omega)))
              have bb4 := bb3.set v (.bool false)
              have bs4 := bs3.setOther (p := ⟨N + 2, v, none⟩) (by simp) (.bool false)
              have fb := bb3.frozen v
              have cb : wc.cell? ⟨N + 2, v, none⟩ = some (.bool true) := by rw [bb3.cell, get_bls, List.getElem?_map, hr, ← hbu]; rfl
              have hS' := HS.out.step (r' := { r' with steps := T + 1, busy := false }) hr hbu HK.out k4 (fun k e => e) h4 rfl rfl rfl
                (by rw [List.map_set, ← set_bls]; exact bb4) (by rw [List.map_set, ← set_ints]; exact bs4) (fun e => by cases e)
              have row4 := HK.out.row.kept k4 (by rintro (e | e | e | e); exact nogh (.inl e); exact nogh (.inr (.inl e)); exact nogh (.inr (.inr e)); omega)
              have HR4 := Lib.hid row4
              have co4 : (wc.setCell ⟨N + 2, v, none⟩ (.bool false)).cell? ⟨N + 3, v, none⟩ = some (.int .i64 o) := by rw [hS'.bo.cell, get_ints, List.getElem?_map, List.getElem?_set_self hilt, ← HK.out.of]; rfl
              have ch4 : (wc.setCell ⟨N + 2, v, none⟩ (.bool false)).cell? ⟨N + 5, v, none⟩ = some (.slice (some ⟨gh, 0, none⟩) nn ch) := by rw [hS'.bh.cell, List.getElem?_map, List.getElem?_set_self hilt, ← hnn, ← HK.out.hv]; rfl
              have HS' := Lib.hid hS'
              have HC4 := Lib.hid (And.intro co4 ch4)
              clear hS' bs3 bb3 k3 k4 kset h3 h4 hL3 h2 hL2 no3 nogh hbel dl bb4 bs4 row4 co4 ch4
              go_wp2_with fail
              obtain ⟨co4, ch4⟩ := HC4.out
              clear HC4 cb fb
              generalize (wc.setCell ⟨N + 2, v, none⟩ (.bool false)) = w4 at *
              go_loopw [27, 28, 29] (fun x y i wr => ∃ (k2 : Nat) (nw was : Bool), k2 ≤ nn ∧ x = .bool nw ∧ y = .bool was ∧ i = .int .i64 k2 ∧ wr = w4 ∧ ((is = true ∧ (a < k2 → nw = true)) ∨ (is = false ∧ was = false))) (fun _ _ i _ => nn - (intOf i).toNat)
              case atStart => exact ⟨0, false, false, Nat.zero_le _, rfl, rfl, rfl, rfl, by cases is; exact .inr ⟨rfl, rfl⟩; exact .inl ⟨rfl, fun h => by omega⟩⟩
              case round =>
                obtain ⟨k2, nw, was, hk2, rfl, rfl, rfl, rfl, hrel⟩ := hrel
                by_cases hlt2 : k2 < nn
                · skip
                  -- PART inner
                  obtain ⟨in2, hin2⟩ : ∃ in2, in2 = decide ((k2 : Int) ∈ outs L o) := ⟨_, rfl⟩
                  have har := around_ok _ bi ci L HS'.out.rin HS.out.wf o n0 HK.out.on k2 in2 hin2
                  rw [hnn] at har
                  have HAR := Lib.hid har
                  have HIN := Lib.hid hin2
                  have HREL := Lib.hid hrel
                  obtain ⟨ak, hak⟩ : ∃ ak, A[k2]? = some ak := ⟨A[k2]'(by rw [HS.out.la, hnn]; exact hlt2), by simp [HS.out.la, hnn, hlt2]⟩
                  obtain ⟨hk, hhk⟩ : ∃ hk, H[k2]? = some hk := ⟨H[k2]'(by rw [HK.out.len, hnn]; exact hlt2), by simp [HK.out.len, hnn, hlt2]⟩
                  have ca := (HS'.out.ba.cell k2).trans ((get_bls A k2).trans (by rw [hak]; rfl : _ = some (Value.bool ak)))
                  have crm := HR4.out.room
                  rw [length_bls, HK.out.len, hnn] at crm
                  have chh := HR4.out.cell (j := k2) (v := .bool hk) (by rw [get_bls, hhk]; rfl)
                  have HAK := Lib.hid hak
                  have HHK := Lib.hid hhk
                  have hk2l : (k2 : Int) < (nn : Int) := by omega
                  clear har hin2 hrel hak hhk HS'
                  go_wp2_with fail
                  refine HAR.out.mono ?_
                  rintro e wn ⟨rfl, rfl⟩
                  clear HAR
                  cases in2 with
                  | false =>
                    clear ca chh
                    go_wp2_with fail
                    go_roundw
                    case rel =>
                      refine ⟨k2 + 1, nw, was, by omega, rfl, rfl, by go_num, by first | trivial | rfl, ?_⟩
                      rcases HREL.out with ⟨e, h⟩ | ⟨e, h⟩
                      · refine .inl ⟨e, fun h' => ?_⟩
                        by_cases e2 : a = k2
                        · have h1 := HK.out.mem
                          rw [e2] at h1
                          have h2 := HIN.out
                          rw [decide_eq_true h1] at h2
                          cases h2
                        · exact h (by omega)
                      · exact .inr ⟨e, h⟩
                    case measure => simp [intOf]; omega
                  | true =>
                    have hmem : (k2 : Int) ∈ outs L o := of_decide_eq_true HIN.out.symm
                    have hfin : (is = true ∧ (a < k2 + 1 → (nw || ak) = true)) ∨ (is = false ∧ (was || hk) = false) := by
                      rcases HREL.out with ⟨e, h⟩ | ⟨e, h⟩
                      · refine .inl ⟨e, fun h' => ?_⟩
                        by_cases e2 : a = k2
                        · have h1 := HAA.out
                          rw [e2, HAK.out, e] at h1
                          rw [Option.some.inj h1]; simp
                        · rw [h (by omega)]; rfl
                      · refine .inr ⟨e, ?_⟩
                        have h0 : a = 0 := by
                          have h := HDN.out
                          rw [e] at h
                          exact of_decide_eq_true (h.symm.trans rfl)
                        have h1 := HK.out.ends HS.out.wf (by rw [HAA.out, e]) h0 k2 hmem
                        rw [HHK.out] at h1
                        rw [Option.some.inj h1, h]; rfl
                    have HFIN := Lib.hid hfin
                    clear hfin hmem HREL HAK HHK HIN
                    cases nw with
                    | false =>
                      cases was with
                      | false =>
                        go_wp2_with fail
                        go_roundw
                        case rel => exact ⟨k2 + 1, ak, hk, by omega, rfl, rfl, by go_num, by first | trivial | rfl, HFIN.out⟩
                        case measure => simp [intOf]; omega
                      | true =>
                        go_wp2_with fail
                        go_roundw
                        case rel => exact ⟨k2 + 1, ak, true, by omega, rfl, rfl, by go_num, by first | trivial | rfl, HFIN.out⟩
                        case measure => simp [intOf]; omega
                    | true =>
                      cases was with
                      | false =>
                        go_wp2_with fail
                        go_roundw
                        case rel => exact ⟨k2 + 1, true, hk, by omega, rfl, rfl, by go_num, by first | trivial | rfl, HFIN.out⟩
                        case measure => simp [intOf]; omega
                      | true =>
                        go_wp2_with fail
                        go_roundw
                        case rel => exact ⟨k2 + 1, true, true, by omega, rfl, rfl, by go_num, by first | trivial | rfl, HFIN.out⟩
                        case measure => simp [intOf]; omega
                  -- END inner
                · obtain rfl : k2 = nn := by omega
                  have haL : a < k2 := by rw [← hnn]; exact sc_lt HK.out.at_
                  clear co4 ch4
                  -- PART end
                  rcases hrel with ⟨rfl, h⟩ | ⟨rfl, rfl⟩
                  · obtain rfl := h haL
                    go_wp2_with fail
                    go_roundw
                    case rel => exact ⟨k + 1, d + 1, L, A, _, by omega, by go_num, hnn, by omega, HS'.out⟩
                    case measure => simp [intOf]; omega
                  · cases nw
                    all_goals
                      go_wp2_with fail
                      go_roundw
                      case rel => exact ⟨k + 1, d + 1, L, A, _, by omega, by go_num, hnn, by omega, HS'.out⟩
                      case measure => simp [intOf]; omega
                  -- END end
    · obtain rfl : k = n1 := by omega
      have bel := hS.sd.bel
      clear hS hlt hk
      go_wp2_with (go_at_call 26; refine (awake14_any _).mono ?_; rintro e w9 ⟨rfl, hb9⟩)
      go_ret
      exact ⟨rfl, bel.trans (hb9.mono bel.size)⟩

set_option maxRecDepth 100000 in
set_option maxHeartbeats 1000000 in
theorem scopeSpreads_walk (W : World) (A0 : Option Addr) (n c : Nat) (z : List Int) (_h : n ≤ maxLen) (F0 : Flat W A0 n z) (A1 : Option Addr) (n1 c1 : Nat) (z1 : List Int) (_h1 : n1 ≤ maxLen) (F1 : Flat W A1 (n1 * 3) z1) :
    Calls Try.prog 6 #[.slice A0 n c, .slice A1 n1 c1] W fun e w' => e = .returned (.bool true) ∧ Below W.heap.size W w' := by
  by_cases hn : n ≤ 60
  · by_cases hn1 : n1 ≤ 300
    · exact spreads_near W A0 n c z F0 hn A1 n1 c1 z1 F1 hn1
    · have d1 : decide ((60 : Int) < (n : Int)) = false := by simp; omega
      have d2 : decide ((300 : Int) < (n1 : Int)) = true := by simp; omega
      clear F0 F1
      go_enter Try.func6, Try.ntmps6
      go_wp2_with fail
      refine (new_ok 200 2 _ (by omega) (by omega) (by omega) (by omega)).mono ?_
      rintro e w1 ⟨p, s, rfl, hm1, hk1, hp, hs⟩
      have hb1 : Below W.heap.size W w1 := hk1.below (Nat.le_refl _) (fun _ h => h.elim)
      clear hk1 hm1
      go_wp2_with (go_at_call 26; refine (awake14_any _).mono ?_; rintro e w9 ⟨rfl, hb9⟩)
      go_ret
      exact ⟨rfl, hb1.trans (hb9.mono hb1.size)⟩
  · have d1 : decide ((60 : Int) < (n : Int)) = true := by simp; omega
    clear F0 F1
    go_enter Try.func6, Try.ntmps6
    go_wp2_with fail
    refine (new_ok 200 2 _ (by omega) (by omega) (by omega) (by omega)).mono ?_
    rintro e w1 ⟨p, s, rfl, hm1, hk1, hp, hs⟩
    have hb1 : Below W.heap.size W w1 := hk1.below (Nat.le_refl _) (fun _ h => h.elim)
    clear hk1 hm1
    go_wp2_with (go_at_call 26; refine (awake14_any _).mono ?_; rintro e w9 ⟨rfl, hb9⟩)
    go_ret
    exact ⟨rfl, hb1.trans (hb9.mono hb1.size)⟩
end Go.Proofs.Ytkdpckoneohjkaa
