/-
  WHAT IS PROVED HERE: the law pelotonlaw11.EventWakes returns true for every input, and what was there before the call stays.
-/
import Derived.Test.YtelphbfdibfmoaaWakesC
import Derived.Test.YtelphbfdibfmoaaArgs
import Derived.Deep.RegionWith
import Derived.Deep.DeepCutAuto
import Derived.StillTailTactics
import Derived.Deep.RegionHeld3
namespace Go.Proofs.Ytelphbfdibfmoaa
open Go.RowKit

set_option maxRecDepth 100000 in
set_option maxHeartbeats 4000000 in
theorem wakes_near (W : World) (A : Option Addr) (n c : Nat) (z : List Int) (hn : n ≤ 300) (F : Flat W A n z) :
    Calls Try.prog 11 #[.slice A n c] W fun e w' => e = .returned (.bool true) ∧ Below W.heap.size W w' := by
  have d1 : decide ((300 : Int) < (n : Int)) = false := by simp; omega
  have hmk : ∀ w : World, (Instr.makeSlice 74 (.int .i64 6) (.int .i64 6)).run Try.prog w = .ok (.slice (some ⟨w.heap.size, 0, none⟩) 6 6) (w.alloc (.cells #[.pointer none, .pointer none, .pointer none, .pointer none, .pointer none, .pointer none] 65)) := fun _ => by kernel_rfl
  go_enter Try.func11, Try.ntmps11
  go_wp2_with fail
  refine (new_ok 2 6 _ (by omega) (by omega) (by omega) (by omega)).mono ?_
  rintro e w1 ⟨p, s, rfl, hm1, hk1, hp, hs⟩
  have hb1 : Below W.heap.size W w1 := hk1.below (Nat.le_refl _) (fun _ h => h.elim)
  have hp1 := hm1.lt p (.inl rfl)
  have hs1 := hm1.lt s (.inr (.inr rfl))
  go_wp2_with fail
  refine (w_start _ (by exact hm1)).mono ?_
  rintro e w2 ⟨c0, rfl, hk2, hc0, hm2⟩
  have hb2 : Below W.heap.size W w2 := hb1.trans (hk2.under (B := W.heap.size) ⟨hp, hp, hs⟩ hb1.size)
  have hz2 := hk2.size
  have hc2 := hm2.lt c0 (.inr (.inl rfl))
  have hev : Blk (w2.alloc (.cells #[.int .i64 0] 62)) w2.heap.size 62 [.int .i64 0] := Blk.new w2 _ _
  have hm2' := hm2.alloc (.cells #[.int .i64 0] 62)
  have hb2' : Below W.heap.size W (w2.alloc (.cells #[.int .i64 0] 62)) := hb2.alloc hb2.size _
  have hz2' : (w2.alloc (.cells #[.int .i64 0] 62)).heap.size = w2.heap.size + 1 := by simp
  go_wp2_with fail
  refine (w_room _ (by exact hm2')).mono ?_
  rintro e w3 ⟨cc, rfl, hk3, hcc, hm3⟩
  have hb3 : Below W.heap.size W w3 := hb2'.trans (hk3.under (B := W.heap.size) ⟨hp, Nat.le_trans hb1.size hc0, hs⟩ hb2'.size)
  have hz3 := hk3.size
  have hv3 : Blk w3 w2.heap.size 62 [.int .i64 0] := hev.kept hk3 (by
    rintro (e | e | e) <;> (have e' : w2.heap.size = _ := e; simp at e'; omega))
  have hc3 := hm3.lt cc (.inr (.inl rfl))
  obtain ⟨o, ho⟩ : ∃ o, o = W.heap.size := ⟨_, rfl⟩
  have G0 : WkO W ⟨p, cc, s⟩ w2.heap.size w3.heap.size (w3.heap.size + 1) (w3.heap.size + 2) := ⟨hp, hs, by show p < _; omega, by show s < _; omega, by show w2.heap.size < cc; omega, hc3, by omega, by omega⟩
  have F0 : WkF W (((w3.alloc (.cells #[.int .i64 0, .int .i64 0, .int .i64 0, .int .i64 0, .int .i64 0, .int .i64 0] 85)).alloc (.cells #[.int .i64 0, .int .i64 0, .int .i64 0, .int .i64 0, .int .i64 0, .int .i64 0] 86)).alloc (.cells #[.pointer none, .pointer none, .pointer none, .pointer none, .pointer none, .pointer none] 65)) ⟨p, cc, s⟩ w2.heap.size w3.heap.size (w3.heap.size + 1) (w3.heap.size + 2) [] := by
    refine ⟨⟨_, ((hm3.alloc _).alloc _).alloc _, w_room_st⟩, ((hv3.alloc _).alloc _).alloc _, ((Blk.new w3 85 (ints [0, 0, 0, 0, 0, 0])).alloc _).alloc _, ?_, ?_, fun j hj => absurd hj (by simp), fun j hj => absurd hj (by simp), fun i j _ hj => absurd hj (by simp), ((hb3.alloc hb3.size _).alloc (by have := hb3.size; simp; omega) _).alloc (by have := hb3.size; simp; omega) _⟩
    · have := (Blk.new (w3.alloc (.cells #[.int .i64 0, .int .i64 0, .int .i64 0, .int .i64 0, .int .i64 0, .int .i64 0] 85)) 86 (ints [0, 0, 0, 0, 0, 0])).alloc (.cells #[.pointer none, .pointer none, .pointer none, .pointer none, .pointer none, .pointer none] 65)
      simpa [ints] using this
    · have := Blk.new ((w3.alloc (.cells #[.int .i64 0, .int .i64 0, .int .i64 0, .int .i64 0, .int .i64 0, .int .i64 0] 85)).alloc (.cells #[.int .i64 0, .int .i64 0, .int .i64 0, .int .i64 0, .int .i64 0, .int .i64 0] 86)) 65 (List.replicate 6 (.pointer none))
      simpa [List.replicate] using this
  clear hm1 hk1 hp hs hb1 hp1 hs1 hk2 hc0 hm2 hb2 hz2 hc2 hev hm2' hb2' hz2' hk3 hcc hm3 hb3 hz3 hv3 hc3
  go_wp2_with fail
  go_loopw [12] (fun i wr => ∃ l : List Nat, l.length ≤ 6 ∧ i = .int .i64 l.length ∧ WkF W wr ⟨p, cc, s⟩ w2.heap.size w3.heap.size (w3.heap.size + 1) (w3.heap.size + 2) l) (fun i _ => 6 - (intOf i).toNat)
  case atStart => exact ⟨[], by simp, by simp, F0⟩
  case round =>
    clear F0
    obtain ⟨l, hl, rfl, hF⟩ := hrel
    generalize w2.heap.size = vb at *
    have cv := hF.ev.cell
    by_cases hlt : l.length < 6
    · go_wp2_with fail
      refine (w_wait hF).mono ?_
      rintro e w4 ⟨x, rfl, hF4, hx, hxb, hxl⟩
      have hpu := hF4.push G0 hlt hx hxb hxl
      have cp := (hF4.wp.cell l.length)
      have fp := (hF4.wp.frozen l.length)
      rw [show (List.map ptrv l ++ List.replicate (6 - l.length) (Value.pointer none))[l.length]? = some (.pointer none) by simp [List.getElem?_append, List.getElem?_replicate]; omega] at cp
      unfold ptrv at hpu ⊢
      clear hF cv
      go_wp2
      go_roundw
      case rel => exact ⟨l ++ [x], by simp; omega, by simp, hpu⟩
      case measure => simp [intOf]; omega
    · have hl6 : l.length = 6 := by omega
      rw [hl6]
      obtain ⟨G, hW⟩ := hF.done G0 hl6
      clear hF cv hlt hl G0
      generalize w3.heap.size = nb at *
      go_wp2_with fail
      go_loopw [13] (fun i wr => ∃ (k : Nat) (q : WS), k ≤ n ∧ i = .int .i64 k ∧ WkW W wr ⟨p, cc, s⟩ vb nb (nb + 1) (nb + 2) l q ∧ WOk q k) (fun i _ => n - (intOf i).toNat)
      case atStart => exact ⟨0, _, Nat.zero_le _, rfl, hW, WOk.start⟩
      case round =>
        clear hW
        obtain ⟨k, q, hk, rfl, hW, hO⟩ := hrel
        by_cases hlt : k < n
        · obtain ⟨_, _, hcell⟩ := F
          obtain ⟨b, off, rfl, hb, hc⟩ := hcell (by omega)
          obtain ⟨v, hv⟩ : ∃ v, v = z.getD k 0 := ⟨_, rfl⟩
          have hcv : wr.cell? ⟨b, off + k, none⟩ = some (.int .i64 v) := by rw [hv, hW.bel.cell (by exact hb)]; exact hc k hlt
          clear hv hcell hc
          go_upto_if 73 with fail
          obtain ⟨r, h6, hr⟩ := pick_six v
          rw [hr]
          clear hr hcv
          go_cut [15] from 59 to 215 (fun x wc => x = .int .i64 0 ∧ ∃ q', WkW W wc ⟨p, cc, s⟩ vb nb (nb + 1) (nb + 2) l q' ∧ WOk q' (k + 1))
          case first =>
            -- PART first
            have r0 : (0 : Int) ≤ (r : Int) := by omega
            have r6 : (r : Int) < 6 := by omega
            have ln := hO.ln
            have ls := hO.ls
            have e0 := hO.e0
            have ek := hO.ek
            have c0' := hO.c0
            have ck := hO.ck
            by_cases h3 : r < 3
            · rcases hO.wr r h3 with hx | hx
              · have cl := ints_cell hW.nx (by omega) hx
                go_wp2_with fail
                refine (w_add hW G r (by omega) (by omega) c0' (by omega)).mono ?_
                rintro e w5 ⟨rfl, hW5⟩
                have cl5 := ints_cell hW5.nx (by exact ln ▸ h6) hx
                have fz5 := hW5.nx.frozen r
                have hN := hW5.setnx G r 1
                have hO5 := hO.add h3 hx
                clear hW hO cl hW5 hx ln ls e0 ek c0' ck
                have HO := Lib.hid hO5
                have HN := Lib.hid hN
                clear hO5 hN
                go_wp2_with fail
                go_meet
                case rel => exact ⟨rfl, _, HN.out, HO.out⟩
              · have cl := ints_cell hW.nx (by omega) hx
                have cv := hW.ev.cell
                go_wp2_with fail
                refine (w_tell hW G r (by omega) (by omega) e0 (by omega)).mono ?_
                rintro e w5 ⟨rfl, hW5⟩
                have cl5 := ints_cell hW5.nx (by exact ln ▸ h6) hx
                have fz5 := hW5.nx.frozen r
                have hN := hW5.setnx G r 0
                have hO5 := hO.tell h3 0 rfl
                clear hW hO cl cv hW5 hx ln ls e0 ek c0' ck
                have HO := Lib.hid hO5
                have HN := Lib.hid hN
                clear hO5 hN
                go_wp2_with fail
                go_meet
                case rel => exact ⟨rfl, _, HN.out, HO.out⟩
            · have hj : 3 ≤ r := by omega
              obtain ⟨y, hy⟩ : ∃ y, l.getD r 0 = y := ⟨_, rfl⟩
              have cw := hW.wcell G h6
              rw [hy] at cw
              have HY := Lib.hid hy
              clear hy
              rcases hO.place hj h6 with hx | ⟨hx, hh⟩ | ⟨hx, hh⟩ | ⟨hx, hh⟩
              · have cl := ints_cell hW.nx (by omega) hx
                go_wp2_with fail
                have ct := w_ready hW G h6 r (by omega) (by omega); rw [HY.out] at ct; refine ct.mono ?_; clear ct
                rintro e w5 ⟨rfl, hW5⟩
                have cl5 := ints_cell hW5.nx (by exact ln ▸ h6) hx
                have fz5 := hW5.nx.frozen r
                have hN := hW5.setnx G r 1
                have hO5 := hO.ready hj h6
                rw [set_self] at hO5
                clear hW hO cl cw hW5 hx ln ls e0 ek c0' ck
                have HO := Lib.hid hO5
                have HN := Lib.hid hN
                clear hO5 hN
                go_wp2_with fail
                go_meet
                case rel => exact ⟨rfl, _, HN.out, HO.out⟩
              · have cl := ints_cell hW.nx (by omega) hx
                go_wp2_with fail
                refine (w_load hW G r (by omega) (by omega)).mono ?_
                rintro e w5 ⟨rfl, hW5⟩
                have cl5 := ints_cell hW5.nx (by exact ln ▸ h6) hx
                have fz5 := hW5.nx.frozen r
                have cs5 := ints_cell hW5.sw (by exact ls ▸ h6) (j := r) rfl
                have fs5 := hW5.sw.frozen r
                have hN := (hW5.setsw G r q.c).setnx G r 2
                have hO5 := hO.load (by omega) hj h6 hx
                rw [upd_self, upd_self] at hO5
                clear hW hO cl cw hW5 hx ln ls e0 ek c0' ck
                have HO := Lib.hid hO5
                have HN := Lib.hid hN
                clear hO5 hN
                go_wp2_with fail
                go_meet
                case rel => exact ⟨rfl, _, HN.out, HO.out⟩
              · have cl := ints_cell hW.nx (by omega) hx
                obtain ⟨sv, hsv⟩ : ∃ sv, q.sw.getD r 0 = sv := ⟨_, rfl⟩
                have cs := ints_cell hW.sw (by omega) hsv
                have hrd := hO.rd r hj h6
                have hs300 : 0 ≤ sv ∧ sv ≤ 300 := by unfold RdOk at hrd; rw [hsv] at hrd; omega
                clear hrd
                by_cases hs : 0 < sv
                · have ds : decide (0 < sv) = true := by simp; omega
                  have hxv : IntKind.i64.wrap (sv - 1) = sv - 1 := by rw [IntKind.wrap_i64]; omega
                  go_wp2_with fail
                  have hWd := hW.drew
                  have csd : wr.drew.cell? ⟨nb + 1, r, none⟩ = some (.int .i64 sv) := cs
                  go_region_held3 (fun w' => w'.cell? ⟨nb + 1, r, none⟩ = some (.int .i64 sv)) (first | exact csd | exact cs5) (first
                    | (go_at_call 26; refine (w_cas hWd G r sv _ (by omega) (by omega)).mono ?_; rintro e w5 ⟨b', c', rfl, hcc, hW5⟩; have cs5 : w5.cell? ⟨nb + 1, r, none⟩ = some (.int .i64 sv) := ints_cell hW5.sw (by exact ls ▸ h6) hsv))
                  have cw5 := hW5.wcell G h6
                  rw [HY.out] at cw5
                  have hO5 := hO.take hj h6 c' (by omega) (by omega)
                  rw [set_self, upd_self] at hO5
                  go_wp2_with fail
                  have ct := w_leave hW5 G h6; rw [HY.out] at ct; refine ct.mono ?_; clear ct
                  rintro e w6 ⟨rfl, hW6⟩
                  have cl6 := ints_cell hW6.nx (by exact ln ▸ h6) hx
                  have fz6 := hW6.nx.frozen r
                  have hN := hW6.setnx G r 0
                  rw [upd_self] at hN
                  clear hW hO cl cw hW5 hx ln ls e0 ek c0' ck hWd csd cs5 cw5 cs hW6 hcc
                  have HO := Lib.hid hO5
                  have HN := Lib.hid hN
                  clear hO5 hN
                  go_wp2_with fail
                  go_meet
                  case rel => exact ⟨rfl, _, HN.out, HO.out⟩
                · have hO5 := hO.park hj h6 hx (by omega)
                  rw [set_self, upd_self] at hO5
                  go_wp2_with fail
                  have ct := w_park hW G h6 hh; rw [HY.out] at ct; refine ct.mono ?_; clear ct
                  rintro e w5 ⟨rfl, hW5⟩
                  have cl5 := ints_cell hW5.nx (by exact ln ▸ h6) hx
                  have fz5 := hW5.nx.frozen r
                  have hN := hW5.setnx G r 3
                  rw [upd_self] at hN
                  clear hW hO cl cw hW5 hx ln ls e0 ek c0' ck
                  have HO := Lib.hid hO5
                  have HN := Lib.hid hN
                  clear hO5 hN
                  go_wp2_with fail
                  go_meet
                  case rel => exact ⟨rfl, _, HN.out, HO.out⟩
              · have cl := ints_cell hW.nx (by omega) hx
                by_cases hs : q.e = q.seen r
                · go_wp2_with fail
                  have ct := w_parked hW h6 true (by rw [hh, hs]; simp); rw [HY.out] at ct; refine ct.mono ?_; clear ct
                  rintro e w5 ⟨rfl, hW5⟩
                  have hO5 := hO.rest
                  clear hW hO cl cw hx ln ls e0 ek c0' ck
                  have HO := Lib.hid hO5
                  have HN := Lib.hid hW5
                  clear hO5 hW5
                  go_wp2_with fail
                  go_meet
                  case rel => exact ⟨rfl, _, HN.out, HO.out⟩
                · go_wp2_with fail
                  have ct := w_parked hW h6 false (by rw [hh]; simp [hs]); rw [HY.out] at ct; refine ct.mono ?_; clear ct
                  rintro e w5 ⟨rfl, hW5⟩
                  have cl5 := ints_cell hW5.nx (by exact ln ▸ h6) hx
                  have fz5 := hW5.nx.frozen r
                  have hN := hW5.setnx G r 0
                  have hO5 := hO.woken hj h6 hx hs
                  rw [set_self, upd_self, upd_self] at hO5
                  clear hW hO cl cw hW5 hx ln ls e0 ek c0' ck
                  have HO := Lib.hid hO5
                  have HN := Lib.hid hN
                  clear hO5 hN
                  go_wp2_with fail
                  go_meet
                  case rel => exact ⟨rfl, _, HN.out, HO.out⟩
            -- END first
          case rest =>
            obtain ⟨rfl, q', hW', hO'⟩ := hcut
            clear hW hO
            have ck := hO'.ck
            have c0' := hO'.c0
            have ln := hO'.ln
            go_wp2_with fail
            refine (w_peek hW').mono ?_
            rintro e w6 ⟨rfl, rfl⟩
            go_wp2_with fail
            go_loopw [16, 17] (fun x y wl => ∃ i : Nat, i ≤ 3 ∧ x = .int .i64 (q'.c - nsum q'.nx i) ∧ y = .int .i64 i ∧ wc = wl) (fun _ y _ => 3 - (intOf y).toNat)
            case atStart => exact ⟨0, by omega, by simp [nsum], rfl, rfl⟩
            case round =>
              obtain ⟨i, hi, rfl, rfl, rfl⟩ := hrel
              have hsr := nsum_range hO' i hi
              by_cases hi3 : i < 3
              · obtain ⟨u, hu⟩ : ∃ u, q'.nx.getD i 0 = u := ⟨_, rfl⟩
                have hu1 := hO'.wr i hi3
                rw [hu] at hu1
                have cl := ints_cell hW'.nx (by omega) hu
                have HU := Lib.hid hu
                clear hu
                go_wp2_with fail
                go_roundw
                case rel => exact ⟨i + 1, by omega, int_eq (by simp only [nsum]; rw [HU.out]; omega), by go_num, by first | rfl | trivial⟩
                case measure => simp [intOf]; omega
              · obtain rfl : i = 3 := by omega
                rw [WS.d_sum]
                clear hi hi3 hsr
                have hd : -1000 ≤ q'.d ∧ q'.d ≤ 1000 := by
                  have h0 := hO'.wr 0 (by omega)
                  have h1 := hO'.wr 1 (by omega)
                  have h2 := hO'.wr 2 (by omega)
                  unfold WS.d
                  omega
                obtain ⟨d, hdd⟩ : ∃ d, q'.d = d := ⟨_, rfl⟩
                rw [hdd] at hd ⊢
                obtain ⟨hd1, hd2⟩ := hd
                have HD := Lib.hid hdd
                have HO := Lib.hid hO'
                clear hdd hO' ck c0'
                rw [show ((3 : Nat) : Int) = 3 from rfl]
                go_wp2_with fail
                go_loopw [18] (fun y wl => ∃ i : Nat, 3 ≤ i ∧ i ≤ 6 ∧ y = .int .i64 i ∧ WkW W wl ⟨p, cc, s⟩ vb nb (nb + 1) (nb + 2) l q') (fun y _ => 6 - (intOf y).toNat)
                case atStart => exact ⟨3, by omega, by omega, rfl, hW'⟩
                case round =>
                  clear hW'
                  obtain ⟨i, hi3, hi6, rfl, hW⟩ := hrel
                  by_cases hlt6 : i < 6
                  · obtain ⟨y, hy⟩ : ∃ y, l.getD i 0 = y := ⟨_, rfl⟩
                    have cw := hW.wcell G hlt6
                    rw [hy] at cw
                    have HY := Lib.hid hy
                    clear hy
                    have I0 : (0 : Int) ≤ (i : Int) := by omega
                    have I6 : (i : Int) < 6 := by omega
                    by_cases hpk : q'.how i = 2 ∧ q'.e = q'.seen i
                    · have hpp := HO.out.parked hi3 hlt6 hpk.1 hpk.2
                      have hb : (q'.how i == 2 && (q'.e == q'.seen i)) = true := by rw [hpk.1, hpk.2]; simp
                      have hd0 : decide (0 < d) = false := by have := hpp.2; rw [HD.out] at this; simp; omega
                      have HB := Lib.hid hb
                      have h3 := hpp.1
                      have H3 := Lib.hid h3
                      clear hb hpp hpk hd1 hd2 h3
                      go_wp2_with fail
                      have ct := w_parked hW hlt6 true HB.out; rw [HY.out] at ct; refine ct.mono ?_; clear ct
                      rintro e w7 ⟨rfl, hW7⟩
                      have c7 := ints_cell hW7.nx (by rw [ln]; exact hlt6) H3.out
                      clear cw hW
                      go_wp2_with fail
                      go_roundw
                      case rel => exact ⟨i + 1, by omega, by omega, by go_num, hW7⟩
                      case measure => simp [intOf]; omega
                    · have hb : (q'.how i == 2 && (q'.e == q'.seen i)) = false := by
                        simp only [Bool.and_eq_false_iff, beq_eq_false_iff_ne]
                        by_cases e : q'.how i = 2
                        · exact .inr (fun e' => hpk ⟨e, e'⟩)
                        · exact .inl e
                      have HB := Lib.hid hb
                      clear hb hpk
                      by_cases hd0 : 0 < d
                      · have hd0' : decide (0 < d) = true := by simp; omega
                        clear hd1 hd2
                        go_wp2_with fail
                        have ct := w_parked hW hlt6 false HB.out; rw [HY.out] at ct; refine ct.mono ?_; clear ct
                        rintro e w7 ⟨rfl, hW7⟩
                        have cw7 := hW7.wcell G hlt6
                        rw [HY.out] at cw7
                        clear cw hW
                        go_wp2_with fail
                        have ct := w_parked hW7 hlt6 false HB.out; rw [HY.out] at ct; refine ct.mono ?_; clear ct
                        rintro e w8 ⟨rfl, hW8⟩
                        clear cw7 hW7
                        go_wp2_with fail
                        go_roundw
                        case rel => exact ⟨i + 1, by omega, by omega, by go_num, hW8⟩
                        case measure => simp [intOf]; omega
                      · have hd0' : decide (0 < d) = false := by simp; omega
                        clear hd1 hd2
                        go_wp2_with fail
                        have ct := w_parked hW hlt6 false HB.out; rw [HY.out] at ct; refine ct.mono ?_; clear ct
                        rintro e w7 ⟨rfl, hW7⟩
                        clear cw hW
                        go_wp2_with fail
                        go_roundw
                        case rel => exact ⟨i + 1, by omega, by omega, by go_num, hW7⟩
                        case measure => simp [intOf]; omega
                  · obtain rfl : i = 6 := by omega
                    go_wp2_with fail
                    go_roundw
                    case rel => exact ⟨k + 1, q', by omega, by go_num, hW, HO.out⟩
                    case measure => simp [intOf]; omega
        · obtain rfl : k = n := by omega
          clear hk hlt
          have bel := hW.bel
          go_wp2_with (go_at_call 33; refine (awake11_any _).mono ?_; rintro e w3 ⟨rfl, hb3⟩)
          go_ret
          exact ⟨rfl, bel.trans (hb3.mono bel.size)⟩
set_option maxRecDepth 100000 in
set_option maxHeartbeats 4000000 in
theorem wakes_far (W : World) (A : Option Addr) (n c : Nat) (hn : ¬ n ≤ 300) :
    Calls Try.prog 11 #[.slice A n c] W fun e w' => e = .returned (.bool true) ∧ Below W.heap.size W w' := by
  have d1 : decide ((300 : Int) < (n : Int)) = true := by simp; omega
  go_enter Try.func11, Try.ntmps11
  go_wp2_with fail
  refine (new_ok 2 6 _ (by omega) (by omega) (by omega) (by omega)).mono ?_
  rintro e w1 ⟨p, s, rfl, hm1, hk1, hp, hs⟩
  have hb1 : Below W.heap.size W w1 := hk1.below (Nat.le_refl _) (fun _ h => h.elim)
  have hp1 := hm1.lt p (.inl rfl)
  have hs1 := hm1.lt s (.inr (.inr rfl))
  go_wp2_with fail
  refine (w_start _ (by exact hm1)).mono ?_
  rintro e w2 ⟨c0, rfl, hk2, hc0, hm2⟩
  have hb2 : Below W.heap.size W w2 := hb1.trans (hk2.under (B := W.heap.size) ⟨hp, hp, hs⟩ hb1.size)
  have hz2 := hk2.size
  have hc2 := hm2.lt c0 (.inr (.inl rfl))
  have hev : Blk (w2.alloc (.cells #[.int .i64 0] 62)) w2.heap.size 62 [.int .i64 0] := Blk.new w2 _ _
  have hm2' := hm2.alloc (.cells #[.int .i64 0] 62)
  have hb2' : Below W.heap.size W (w2.alloc (.cells #[.int .i64 0] 62)) := hb2.alloc hb2.size _
  have hz2' : (w2.alloc (.cells #[.int .i64 0] 62)).heap.size = w2.heap.size + 1 := by simp
  go_wp2_with fail
  refine (w_room _ (by exact hm2')).mono ?_
  rintro e w3 ⟨cc, rfl, hk3, hcc, hm3⟩
  have hb3 : Below W.heap.size W w3 := hb2'.trans (hk3.under (B := W.heap.size) ⟨hp, Nat.le_trans hb1.size hc0, hs⟩ hb2'.size)
  have hz3 := hk3.size
  clear hm1 hk1 hp hs hb1 hp1 hs1 hk2 hc0 hm2 hb2 hz2 hc2 hev hm2' hb2' hz2' hk3 hcc hm3 hz3
  go_wp2_with (go_at_call 33; refine (awake11_any _).mono ?_; rintro e w3 ⟨rfl, hb4⟩)
  go_ret
  exact ⟨rfl, hb3.trans (hb4.mono hb3.size)⟩

theorem eventWakes_walk (W : World) (A : Option Addr) (n c : Nat) (z : List Int) (_hmax : n ≤ maxLen) (F : Flat W A n z) :
    Calls Try.prog 11 #[.slice A n c] W fun e w' => e = .returned (.bool true) ∧ Below W.heap.size W w' := by
  by_cases hn : n ≤ 300
  · exact wakes_near W A n c z hn F
  · exact wakes_far W A n c hn
end Go.Proofs.Ytelphbfdibfmoaa
