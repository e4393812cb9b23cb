/-
  WHAT IS PROVED HERE: the walk of the law pelotonlaw15.FutureWakes: it returns true, and what was there before the call stays. Conditions: none.
-/
import Derived.Test.YtkdpckoneohjkaaFutC
import Derived.Test.YtkdpckoneohjkaaFwPlain
import Derived.Test.YtkdpckoneohjkaaArgs
import Derived.Deep.DeepCutAuto
import Derived.Outline
namespace Go.Proofs.Ytkdpckoneohjkaa
open Go.RowKit

theorem pick_four (v : Int) : ∃ r : Nat, r < 4 ∧ (wrap64 (v.tmod 4 + 4)).tmod 4 = (r : Int) := by
  have h1 := Int.tmod_lt_of_pos v (show (0 : Int) < 4 by omega)
  have h2 := Int.lt_tmod_of_pos v (show (0 : Int) < 4 by omega)
  have e : wrap64 (v.tmod 4 + 4) = v.tmod 4 + 4 := by unfold wrap64; omega
  rw [e]
  obtain ⟨u, hu⟩ := Int.eq_ofNat_of_zero_le (show 0 ≤ v.tmod 4 + 4 by omega)
  rw [hu]
  exact ⟨u % 4, Nat.mod_lt _ (by omega), rfl⟩
theorem fcell {w : World} {g : Nat} {t : TypeId} {xs : List Int} (h : Blk w g t (ints xs)) {j : Nat} (hj : j < xs.length) {x : Int} (hx : xs.getD j 0 = x) : w.cell? ⟨g, j, none⟩ = some (.int .i64 x) := by
  rw [h.cell, get_ints, ← hx]; simp [List.getD, hj]

theorem seen_bit {s1 s2 s3 : Int} (r1 : s1 = 0 ∨ s1 = 1) (r2 : s2 = 0 ∨ s2 = 1) (r3 : s3 = 0 ∨ s3 = 1) {j : Nat} (h1 : 1 ≤ j) (h4 : j < 4) (e1 : j = 1 → s1 = 1) (e2 : j = 2 → s2 = 1) (e3 : j = 3 → s3 = 1) :
    (bits BinOp.and IntKind.i64 ((2 * s1 + 4 * s2 + 8 * s3) / 2 ^ j) 1 == 0) = false := by
  have : j = 1 ∨ j = 2 ∨ j = 3 := by omega
  rcases this with rfl | rfl | rfl
  · have := e1 rfl; subst this; clear e1 e2 e3 r1
    rcases r2 with rfl | rfl <;> rcases r3 with rfl | rfl <;> decide
  · have := e2 rfl; subst this; clear e1 e2 e3 r2
    rcases r1 with rfl | rfl <;> rcases r3 with rfl | rfl <;> decide
  · have := e3 rfl; subst this; clear e1 e2 e3 r3
    rcases r1 with rfl | rfl <;> rcases r2 with rfl | rfl <;> decide
structure FwW (W0 w : World) (mb : MB) (vb nb : Nat) (nx : List Int) (k b : Int) : Prop where
  f : FW W0 w mb 5 k 0 b
  v : Blk w vb 30 [.int .i64 0]
  n : Blk w nb 23 (ints nx)
  hv : ¬ mb.has vb
  hn : ¬ mb.has nb
  ne : vb ≠ nb
  ge : W0.heap.size ≤ nb
section
variable {W0 w w' : World} {mb : MB} {vb nb : Nat} {nx : List Int} {k b k' b' : Int}
theorem FwW.go (h : FwW W0 w mb vb nb nx k b) (hk : Kept mb.has w w') (hf : FW W0 w' mb 5 k' 0 b') : FwW W0 w' mb vb nb nx k' b' :=
  ⟨hf, h.v.kept hk h.hv, h.n.kept hk h.hn, h.hv, h.hn, h.ne, h.ge⟩
theorem FwW.set (h : FwW W0 w mb vb nb nx k b) (j : Nat) (x : Int) : FwW W0 (w.setCell ⟨nb, j, none⟩ (.int .i64 x)) mb vb nb (nx.set j x) k b :=
  ⟨h.f.set nb j _ h.hn h.ge, h.v.setOther (p := ⟨nb, j, none⟩) h.ne _, by rw [show ints (nx.set j x) = (ints nx).set j (.int .i64 x) from (set_ints _ _ _).symm]; exact h.n.set j _, h.hv, h.hn, h.ne, h.ge⟩
end

set_option maxRecDepth 100000 in
set_option maxHeartbeats 4000000 in
theorem fwakes_near (W : World) (A : Option Addr) (n c : Nat) (z : List Int) (hn : n ≤ 200) (F : Flat W A n z) :
    Calls Try.prog 4 #[.slice A n c] W fun e w' => e = .returned (.bool true) ∧ Below W.heap.size W w' := by
  have d1 : decide ((200 : Int) < (n : Int)) = false := by simp; omega
  go_enter Try.func4, Try.ntmps4
  go_wp2_with fail
  refine (new_ok 3 4 _ (by omega) (by omega) (by omega) (by omega)).mono ?_
  rintro e w1 ⟨p, s, rfl, hm1, hk1, hp, hs⟩
  have hb1 : Below W.heap.size W w1 := hk1.below (Nat.le_refl _) (fun _ h => h.elim)
  clear hk1
  go_wp2_with fail
  refine (f_start (W0 := W) hm1 hb1 hp hs (by omega) (by omega) 4 (by omega) (by omega)).mono ?_
  rintro e w2 ⟨c0, rfl, hF⟩
  have hV : Blk (w2.alloc (.cells #[.int .i64 0] 30)) w2.heap.size 30 [.int .i64 0] := Blk.new w2 _ _
  have hnh := hF.nhas (Nat.le_refl _)
  have hF3 := hF.below ((Below.refl _ w2).alloc (Nat.le_refl _) (.cells #[.int .i64 0] 30))
  have hge := hF.bel.size
  have cv := hV.cell
  clear hm1 hb1 hp hs hF
  go_wp2_with fail
  refine (f_claim_hit hF3 0 (by omega) (by omega)).mono ?_
  rintro e w3 ⟨rfl, hF4, hk⟩
  have hV4 := hV.kept hk hnh
  have hW : FwW W (w3.alloc (.cells #[.int .i64 0, .int .i64 0, .int .i64 0, .int .i64 0] 23)) ⟨p, c0, s⟩ w2.heap.size w3.heap.size [0, 0, 0, 0] 1 0 := by
    refine ⟨hF4.below ((Below.refl _ w3).alloc (Nat.le_refl _) _), hV4.alloc _, Blk.new w3 _ _, hnh, hF4.nhas (Nat.le_refl _), ?_, hF4.bel.size⟩
    have := hV4.lt; omega
  clear hF3 hV cv hk hF4 hV4 hnh hge
  go_wp2_with fail
  go_loopw [4, 10, 11] (fun e x i wr => ∃ (k : Nat) (nx : List Int) (kd b sn : Int), k ≤ n ∧ e = .int .i64 0 ∧ x = .int .i64 sn ∧ i = .int .i64 k ∧ FwW W wr ⟨p, c0, s⟩ w2.heap.size w3.heap.size nx kd b ∧ FwOk nx kd b sn) (fun _ _ i _ => n - (intOf i).toNat)
  case atStart => exact ⟨0, _, 1, 0, 0, Nat.zero_le _, rfl, rfl, rfl, hW, FwOk.start⟩
  case round =>
    clear hW
    obtain ⟨k, nx, kd, b, sn, hk, rfl, rfl, rfl, hW, hO⟩ := hrel
    generalize w2.heap.size = vb at *
    generalize w3.heap.size = nb at *
    by_cases hlt : k < n
    · obtain ⟨_, _, hcell⟩ := F
      obtain ⟨g, off, rfl, hb, hc⟩ := hcell (by omega)
      obtain ⟨v, hv⟩ : ∃ v, v = z.getD k 0 := ⟨_, rfl⟩
      have hcv : wr.cell? ⟨g, off + k, none⟩ = some (.int .i64 v) := by rw [hv, hW.f.bel.cell (by exact hb)]; exact hc k hlt
      clear hv hcell hc
      go_upto_region 14 with fail
      obtain ⟨r, h4, hr⟩ := pick_four v
      rw [hr]
      clear hr hcv
      go_upto_if 60 with fail
      go_cut [4, 10] from 52 to 123 (fun e x wc => e = .int .i64 0 ∧ ∃ (nx' : List Int) (kd' b' sn' : Int), x = .int .i64 sn' ∧ FwW W wc ⟨p, c0, s⟩ vb nb nx' kd' b' ∧ FwOk nx' kd' b' sn')
      case first =>
        have ln := hO.len
        have cv := hW.v.cell
        have r0 : (0 : Int) ≤ (r : Int) := by omega
        have r4 : (r : Int) < 4 := by omega
        by_cases hz : r = 0
        · subst hz
          rcases hO.n0 with ⟨hx, hkd⟩ | ⟨hx, hkd⟩ | ⟨hx, hkd⟩
          · as_aux_lemma =>
            subst hkd
            have cl := fcell hW.n (by omega) hx
            go_wp2_with fail
            refine (f_end_hit hW.f 0 2 (by omega) (by omega) (by omega) (by omega)).mono ?_
            rintro e w5 ⟨rfl, hF5, hk5⟩
            have hW5 := hW.go hk5 hF5
            have cl5 := fcell hW5.n (by omega) hx
            have fz5 := hW5.n.frozen 0
            have HN := Lib.hid (hW5.set 0 1)
            have HO := Lib.hid hO.ended
            clear hW hO cl cv hW5 hF5 hk5 hx ln
            go_wp2_with fail
            go_meet
            case rel => exact ⟨rfl, _, _, _, _, rfl, HN.out, HO.out⟩
          · as_aux_lemma =>
            have cl := fcell hW.n (by omega) hx
            go_wp2_with fail
            refine (f_waiters hW.f 0 (by omega) (by omega)).mono ?_
            rintro e w5 ⟨rfl, hF5, hk5⟩
            have hW5 := hW.go hk5 hF5
            have cl5 := fcell hW5.n (by omega) hx
            have fz5 := hW5.n.frozen 0
            have HN := Lib.hid (hW5.set 0 2)
            have HO := Lib.hid (hO.readw hx)
            clear hW hO cl cv hW5 hF5 hk5 hx ln hkd
            go_wp2_with fail
            go_meet
            case rel => exact ⟨rfl, _, _, _, _, rfl, HN.out, HO.out⟩
          · as_aux_lemma =>
            have cl := fcell hW.n (by omega) hx
            have HN := Lib.hid hW
            have HO := Lib.hid hO
            clear hW hO cv hx ln hkd
            go_wp2_with fail
            go_meet
            case rel => exact ⟨rfl, _, _, _, _, rfl, HN.out, HO.out⟩
        · have h1 : 1 ≤ r := by omega
          have rz : ((r : Int) == 0) = false := by simp; omega
          have hbr := hO.b_range
          have hpw : (2 : Int) ^ (r : Int).toNat = 2 ^ r := by rw [Int.toNat_natCast]
          have hp14 : (2 : Int) ^ r = 2 ∨ (2 : Int) ^ r = 4 ∨ (2 : Int) ^ r = 8 := by
            have : r = 1 ∨ r = 2 ∨ r = 3 := by omega
            rcases this with rfl | rfl | rfl <;> simp
          have HPW := Lib.hid hpw
          have HP := Lib.hid hp14
          clear hpw hp14
          rcases hO.nj r h1 h4 with hx | hx | hx | hx
          · as_aux_lemma =>
            have cl := fcell hW.n (by omega) hx
            go_wp2_with fail
            refine (f_wait hW.f r (b + 2 ^ r) (by omega) (by omega) (by omega) (by rw [HPW.out]; have := HP.out; unfold wrap64; omega)).mono ?_
            rintro e w5 ⟨rfl, hF5, hk5⟩
            have hW5 := hW.go hk5 hF5
            have cl5 := fcell hW5.n (by omega) hx
            have fz5 := hW5.n.frozen r
            have HN := Lib.hid (hW5.set r 1)
            have HO := Lib.hid (hO.place h1 h4 1 (b + 2 ^ r) (by omega) (by omega) (by rw [fbit0 hx]; simp))
            clear hW hO cl cv hW5 hF5 hk5 hx ln hbr
            go_wp2_with fail
            go_meet
            case rel => exact ⟨rfl, _, _, _, _, rfl, HN.out, HO.out⟩
          · have hfb : fbit nx r = 1 := fbit1 (by omega)
            rcases hO.n0 with ⟨hx0, hkd⟩ | hkd
            · as_aux_lemma =>
              subst hkd
              have cl := fcell hW.n (by omega) hx
              go_wp2_with fail
              refine (f_state hW.f r (by omega) (by omega)).mono ?_
              rintro e w5 ⟨rfl, hF5, hk5⟩
              have hW5 := hW.go hk5 hF5
              have cl5 := fcell hW5.n (by omega) hx
              have fz5 := hW5.n.frozen r
              have HN := Lib.hid (hW5.set r 2)
              have HO := Lib.hid (hO.place h1 h4 2 b (by omega) (by omega) (by rw [hfb]; simp))
              clear hW hO cl cv hW5 hF5 hk5 hx ln hbr hx0 hfb
              go_wp2_with fail
              go_meet
              case rel => exact ⟨rfl, _, _, _, _, rfl, HN.out, HO.out⟩
            · as_aux_lemma =>
              have hk2 : kd = 2 := by omega
              subst hk2
              have cl := fcell hW.n (by omega) hx
              go_wp2_with fail
              refine (f_state hW.f r (by omega) (by omega)).mono ?_
              rintro e w5 ⟨rfl, hF5, hk5⟩
              have hW5 := hW.go hk5 hF5
              have cl5 := fcell hW5.n (by omega) hx
              have fz5 := hW5.n.frozen r
              have hss : (nx.set r 2).set r 3 = nx.set r 3 := by simp
              have hN := (hW5.set r 2).set r 3
              rw [hss] at hN
              have HN := Lib.hid hN
              have HO := Lib.hid (hO.place h1 h4 3 b (by omega) (by omega) (by rw [hfb]; simp))
              clear hW hO cl cv hW5 hF5 hk5 hx ln hbr hkd hfb hN hss
              go_wp2_with fail
              go_meet
              case rel => exact ⟨rfl, _, _, _, _, rfl, HN.out, HO.out⟩
          · as_aux_lemma =>
            have cl := fcell hW.n (by omega) hx
            have HN := Lib.hid hW
            have HO := Lib.hid hO
            clear hW hO cv hx ln hbr
            go_wp2_with fail
            go_meet
            case rel => exact ⟨rfl, _, _, _, _, rfl, HN.out, HO.out⟩
          · as_aux_lemma =>
            have hfb : fbit nx r = 1 := fbit1 (by omega)
            have cl := fcell hW.n (by omega) hx
            go_wp2_with fail
            refine (f_leave hW.f r (b + -2 ^ r) (by omega) (by omega) (by omega) (by rw [HPW.out]; have := HP.out; unfold wrap64; omega)).mono ?_
            rintro e w5 ⟨rfl, hF5, hk5⟩
            have hW5 := hW.go hk5 hF5
            have cl5 := fcell hW5.n (by omega) hx
            have fz5 := hW5.n.frozen r
            have HN := Lib.hid (hW5.set r 0)
            have HO := Lib.hid (hO.place h1 h4 0 (b + -2 ^ r) (by omega) (by omega) (by rw [hfb]; simp))
            clear hW hO cl cv hW5 hF5 hk5 hx ln hbr hfb
            go_wp2_with fail
            go_meet
            case rel => exact ⟨rfl, _, _, _, _, rfl, HN.out, HO.out⟩
      case rest =>
        obtain ⟨rfl, nx', kd', b', sn', rfl, hW', hO'⟩ := hcut
        have HO := Lib.hid hO'
        clear hW hO hO'
        go_wp2_with fail
        go_loopw [15] (fun y wl => ∃ j : Nat, 1 ≤ j ∧ j ≤ 4 ∧ y = .int .i64 j ∧ wc = wl) (fun y _ => 4 - (intOf y).toNat)
        case atStart => exact ⟨1, by omega, by omega, rfl, rfl⟩
        case round =>
          obtain ⟨j, hj1, hj4, rfl, rfl⟩ := hrel
          by_cases hl4 : j < 4
          · have ln := HO.out.len
            obtain ⟨x0, hx0⟩ : ∃ x, nx'.getD 0 0 = x := ⟨_, rfl⟩
            obtain ⟨xj, hxj⟩ : ∃ x, nx'.getD j 0 = x := ⟨_, rfl⟩
            have c0' := fcell hW'.n (by omega) hx0
            have cj := fcell hW'.n (by omega) hxj
            by_cases e0 : x0 = 2
            · subst e0
              by_cases ej : xj = 2
              · subst ej
                obtain ⟨s1, s2, s3, hsn, r1, r2, r3, e1, e2, e3⟩ := HO.out.sn hx0
                have tb := seen_bit r1 r2 r3 hj1 hl4 (fun e => e1 (e ▸ hxj)) (fun e => e2 (e ▸ hxj)) (fun e => e3 (e ▸ hxj))
                rw [← hsn] at tb
                clear hx0 hxj hsn r1 r2 r3 e1 e2 e3
                go_wp2_with fail
                go_roundw
                case rel => exact ⟨j + 1, by omega, by omega, by go_num, by first | rfl | trivial⟩
                case measure => simp [intOf]; omega
              · have tj : (xj == 2) = false := by simpa using ej
                clear hx0 hxj ej
                go_wp2_with fail
                go_roundw
                case rel => exact ⟨j + 1, by omega, by omega, by go_num, by first | rfl | trivial⟩
                case measure => simp [intOf]; omega
            · have t0 : (x0 == 2) = false := by simpa using e0
              clear hx0 hxj e0
              go_wp2_with fail
              go_roundw
              case rel => exact ⟨j + 1, by omega, by omega, by go_num, by first | rfl | trivial⟩
              case measure => simp [intOf]; omega
          · go_wp2_with fail
            go_roundw
            case rel => exact ⟨k + 1, nx', kd', b', sn', by omega, rfl, rfl, by go_num, hW', HO.out⟩
            case measure => simp [intOf]; omega
    · obtain rfl : k = n := by omega
      have bel := hW.f.bel
      clear hk hlt
      go_wp2_with (go_at_call 14; refine (awake15_any _).mono ?_; rintro e w3 ⟨rfl, hb3⟩)
      go_ret
      exact ⟨rfl, bel.trans (hb3.mono bel.size)⟩

set_option maxRecDepth 100000 in
set_option maxHeartbeats 1000000 in
theorem fwakes_far (W : World) (A : Option Addr) (n c : Nat) (hn : ¬ n ≤ 200) :
    Calls Try.prog 4 #[.slice A n c] W fun e w' => e = .returned (.bool true) ∧ Below W.heap.size W w' := by
  have d1 : decide ((200 : Int) < (n : Int)) = true := by simp; omega
  go_enter Try.func4, Try.ntmps4
  go_wp2_with fail
  refine (new_ok 3 4 _ (by omega) (by omega) (by omega) (by omega)).mono ?_
  rintro e w1 ⟨p, s, rfl, hm1, hk1, hp, hs⟩
  have hb1 : Below W.heap.size W w1 := hk1.below (Nat.le_refl _) (fun _ h => h.elim)
  clear hk1
  go_wp2_with fail
  refine (f_start (W0 := W) hm1 hb1 hp hs (by omega) (by omega) 4 (by omega) (by omega)).mono ?_
  rintro e w2 ⟨c0, rfl, hF⟩
  have hV : Blk (w2.alloc (.cells #[.int .i64 0] 30)) w2.heap.size 30 [.int .i64 0] := Blk.new w2 _ _
  have hF3 := hF.below ((Below.refl _ w2).alloc (Nat.le_refl _) (.cells #[.int .i64 0] 30))
  have cv := hV.cell
  clear hm1 hb1 hp hs hF
  go_wp2_with fail
  refine (f_claim_hit hF3 0 (by omega) (by omega)).mono ?_
  rintro e w3 ⟨rfl, hF4, hk⟩
  have bel := hF4.bel
  clear hV cv hF3 hk
  go_wp2_with (go_at_call 14; refine (awake15_any _).mono ?_; rintro e w4 ⟨rfl, hb3⟩)
  go_ret
  exact ⟨rfl, bel.trans (hb3.mono bel.size)⟩

theorem futureWakes_walk (W : World) (A : Option Addr) (n c : Nat) (z : List Int) (_hmax : n ≤ maxLen) (F : Flat W A n z) :
    Calls Try.prog 4 #[.slice A n c] W fun e w' => e = .returned (.bool true) ∧ Below W.heap.size W w' := by
  by_cases hn : n ≤ 200
  · exact fwakes_near W A n c z hn F
  · exact fwakes_far W A n c hn
end Go.Proofs.Ytkdpckoneohjkaa
