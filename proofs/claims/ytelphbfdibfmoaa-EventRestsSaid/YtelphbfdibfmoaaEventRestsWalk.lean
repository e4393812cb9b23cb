/-
  WHAT IS PROVED HERE: the walk of the law pelotonlaw11.EventRests: it returns true, and what was there before the call stays. Conditions: the arguments are 64-bit numbers.
-/
import Derived.Test.YtelphbfdibfmoaaLaw11A
namespace Go.Proofs.Ytelphbfdibfmoaa
open Go.RowKit

def inR (x : Int) : Prop := 0 ≤ x ∧ x ≤ 100

set_option maxRecDepth 100000 in
set_option maxHeartbeats 2000000 in
theorem rests_bad (W : World) (a b c : Int) (h : a < 0 ∨ (0 ≤ a ∧ 100 < a) ∨ (0 ≤ a ∧ a ≤ 100 ∧ b < 0) ∨ (0 ≤ a ∧ a ≤ 100 ∧ 0 ≤ b ∧ 100 < b) ∨ (0 ≤ a ∧ a ≤ 100 ∧ 0 ≤ b ∧ b ≤ 100 ∧ c < 0) ∨ (0 ≤ a ∧ a ≤ 100 ∧ 0 ≤ b ∧ b ≤ 100 ∧ 0 ≤ c ∧ 100 < c)) :
    Calls Try.prog 9 #[.int .i64 a, .int .i64 b, .int .i64 c] W fun e w' => e = .returned (.bool true) ∧ Below W.heap.size W w' := by
  rcases h with h1 | ⟨h1, h2⟩ | ⟨h1, h2, h3⟩ | ⟨h1, h2, h3, h4⟩ | ⟨h1, h2, h3, h4, h5⟩ | ⟨h1, h2, h3, h4, h5, h6⟩
  all_goals
    go_enter Try.func9, Try.ntmps9
    go_wp2_with fail
    refine (new_ok 1 1 _ (by omega) (by omega) (by omega) (by omega)).mono ?_
    rintro e w1 ⟨p, s, rfl, hm1, hk1, hp, hs⟩
    have hb1 : Below W.heap.size W w1 := hk1.below (Nat.le_refl _) (fun _ h => h.elim)
    clear hk1
    go_wp2_with fail
    refine (c_start (W0 := W) w1 hm1 hb1 hp hs (by omega) (by omega)).mono ?_
    rintro e w2 ⟨cc, rfl, hc⟩
    have cv := hc.ev.cell
    have bel := hc.bel
    clear hm1 hb1 hp hs hc
    go_wp2_with (go_at_call 33; refine (awake11_any _).mono ?_; rintro e w3 ⟨rfl, hb3⟩)
    go_ret
    exact ⟨rfl, bel.trans (hb3.mono bel.size)⟩

set_option maxRecDepth 100000 in
set_option maxHeartbeats 4000000 in
theorem rests_good (W : World) (a b c : Nat) (h1 : a ≤ 100) (h2 : b ≤ 100) (h3 : c ≤ 100) :
    Calls Try.prog 9 #[.int .i64 a, .int .i64 b, .int .i64 c] W fun e w' => e = .returned (.bool true) ∧ Below W.heap.size W w' := by
  have d1 : decide ((a : Int) < 0) = false := by simp
  have d2 : decide ((100 : Int) < (a : Int)) = false := by simp; omega
  have d3 : decide ((b : Int) < 0) = false := by simp
  have d4 : decide ((100 : Int) < (b : Int)) = false := by simp; omega
  have d5 : decide ((c : Int) < 0) = false := by simp
  have d6 : decide ((100 : Int) < (c : Int)) = false := by simp; omega
  go_enter Try.func9, Try.ntmps9
  go_wp2_with fail
  refine (new_ok 1 1 _ (by omega) (by omega) (by omega) (by omega)).mono ?_
  rintro e w1 ⟨p, s, rfl, hm1, hk1, hp, hs⟩
  have hb1 : Below W.heap.size W w1 := hk1.below (Nat.le_refl _) (fun _ h => h.elim)
  clear hk1
  go_wp2_with fail
  refine (c_start (W0 := W) w1 hm1 hb1 hp hs (by omega) (by omega)).mono ?_
  rintro e w2 ⟨cc, rfl, hc⟩
  have cv := hc.ev.cell
  clear hm1 hb1 hp hs
  go_wp2_with fail
  refine (c_wait hc).mono ?_
  rintro e w3 ⟨x, rfl, hc3, hx3, hb3, hx3'⟩
  have cv3 := hc3.ev.cell
  have sx : x < w3.heap.size := Blk.lt hx3.wt
  clear cv hc hb3 hx3'
  go_wp2_with fail
  refine (c_wait hc3).mono ?_
  rintro e w4 ⟨y, rfl, hc4, hy4, hb4, hy4'⟩
  have hx4 := hx3.below hb4
  have hxy : x ≠ y := by omega
  have hyx : y ≠ x := Ne.symm hxy
  have HXY := Lib.hid hxy
  have HYX := Lib.hid hyx
  have cv4 := hc4.ev.cell
  clear cv3 hc3 hx3 hb4 hy4' sx hxy hyx
  go_wp2_with fail
  refine (c_ready hc4 hy4 1 (by omega) (by omega)).mono ?_
  rintro e w5 ⟨rfl, hc5, hy5, hk5⟩
  have hx5 := hx4.other hk5 HXY.out
  have cv5 := hc5.ev.cell
  clear cv4 hc4 hx4 hy4 hk5
  go_wp2_with fail
  refine (c_park hc5 hy5).mono ?_
  rintro e w6 ⟨rfl, hc6, hy6, hk6⟩
  have hx6 := hx5.other1 hk6 HXY.out
  clear cv5 hc5 hx5 hy5 hk6
  generalize w2.heap.size = vb at *
  go_wp2_with fail
  go_loopw [13] (fun i wr => ∃ k : Nat, k ≤ a ∧ i = .int .i64 k ∧ EvC W wr ⟨p, cc, s⟩ k vb ∧ EvX W wr ⟨p, cc, s⟩ vb x 0 0 ∧ EvX W wr ⟨p, cc, s⟩ vb y 2 0) (fun i _ => a - (intOf i).toNat)
  case atStart => exact ⟨0, Nat.zero_le _, rfl, hc6, hx6, hy6⟩
  case round =>
    clear hc6 hx6 hy6
    obtain ⟨k, hk, rfl, hc, hx, hy⟩ := hrel
    have cv := hc.ev.cell
    by_cases hlt : k < a
    · go_wp2_with fail
      refine (c_tell hc 0 (by omega) (by omega)).mono ?_
      rw [show wrap64 ((k : Int) + 1) = ((k + 1 : Nat) : Int) by unfold wrap64; omega]
      rintro e w7 ⟨rfl, hc7, hk7⟩
      have hx7 := hx.kept hk7
      have hy7 := hy.kept hk7
      clear hc hx hy hk7 cv
      go_wp2
      go_roundw
      case rel => exact ⟨k + 1, by omega, by go_num, hc7, hx7, hy7⟩
      case measure => simp [intOf]; omega
    · obtain rfl : k = a := by omega
      clear hk hlt
      go_wp2_with fail
      refine (c_ready hc hx 0 (by omega) (by omega)).mono ?_
      rintro e w7 ⟨rfl, hc7, hx7, hk7⟩
      have hy7 := hy.other hk7 HYX.out
      have cv7 := hc7.ev.cell
      clear hc hx hy hk7 cv
      go_wp2_with fail
      refine (c_parked hc7 hx7 false rfl).mono ?_
      rintro e w8 ⟨rfl, hc8, hx8, hb8⟩
      have hy8 := hy7.below hb8
      have cv8 := hc8.ev.cell
      clear hc7 hx7 hy7 hb8 cv7
      go_wp2_with fail
      refine (c_park hc8 hx8).mono ?_
      rintro e w9 ⟨rfl, hc9, hx9, hk9⟩
      have hy9 := hy8.other1 hk9 HYX.out
      have cv9 := hc9.ev.cell
      clear hc8 hx8 hy8 hk9 cv8
      go_wp2_with fail
      refine (park_no x 0 2 k _ hx9.wt (by omega)).mono ?_
      rintro e w9' ⟨rfl, rfl⟩
      go_wp2_with fail
      go_loopw [14] (fun i wr => ∃ j : Nat, j ≤ b ∧ i = .int .i64 j ∧ EvC W wr ⟨p, cc, s⟩ k vb ∧ EvX W wr ⟨p, cc, s⟩ vb x 2 k ∧ EvX W wr ⟨p, cc, s⟩ vb y 2 0) (fun i _ => b - (intOf i).toNat)
      case atStart => exact ⟨0, Nat.zero_le _, rfl, hc9, hx9, hy9⟩
      case round =>
        clear hc9 hx9 hy9 cv9
        obtain ⟨j, hj, rfl, hc, hx, hy⟩ := hrel
        have cv := hc.ev.cell
        have tk : ((k : Int) != (k : Int)) = false := by simp
        by_cases hlt : j < b
        · go_wp2_with fail
          refine (c_read hc 1 (by omega) (by omega)).mono ?_
          rintro e w10 ⟨rfl, hc10, hk10⟩
          have hx10 := hx.kept hk10
          have hy10 := hy.kept hk10
          clear hc hx hy hk10 cv
          go_wp2_with fail
          refine (c_parked hc10 hx10 true (by simp)).mono ?_
          rintro e w11 ⟨rfl, hc11, hx11, hb11⟩
          have hy11 := hy10.below hb11
          clear hc10 hx10 hy10 hb11
          go_wp2
          go_roundw
          case rel => exact ⟨j + 1, by omega, by go_num, hc11, hx11, hy11⟩
          case measure => simp [intOf]; omega
        · obtain rfl : j = b := by omega
          clear hj hlt
          go_wp2_with fail
          refine (c_parked hc hx true (by simp)).mono ?_
          rintro e w10 ⟨rfl, hc10, hx10, hb10⟩
          have hy10 := hy.below hb10
          clear hc hx hy hb10 cv
          go_wp2_with fail
          refine (c_parked hc10 hy10 ((k : Int) == 0) (by simp)).mono ?_
          rintro e w11 ⟨rfl, hc11, hy11, hb11⟩
          have hx11 := hx10.below hb11
          have t0 : (((k : Int) == 0) != ((k : Int) == 0)) = false := by simp
          clear hc10 hx10 hy10 hb11
          go_wp2_with fail
          go_loopw [17] (fun i wr => ∃ q : Nat, q ≤ c ∧ i = .int .i64 q ∧ EvC W wr ⟨p, cc, s⟩ (k + q : Nat) vb ∧ EvX W wr ⟨p, cc, s⟩ vb x 2 k ∧ EvX W wr ⟨p, cc, s⟩ vb y 2 0) (fun i _ => c - (intOf i).toNat)
          case atStart => exact ⟨0, Nat.zero_le _, rfl, hc11, hx11, hy11⟩
          case round =>
            clear hc11 hx11 hy11
            obtain ⟨q, hq, rfl, hc, hx, hy⟩ := hrel
            have cv := hc.ev.cell
            by_cases hlt : q < c
            · go_wp2_with fail
              refine (c_tell hc 1 (by omega) (by omega)).mono ?_
              rw [show wrap64 (((k + q : Nat) : Int) + 1) = ((k + (q + 1) : Nat) : Int) by unfold wrap64; omega]
              rintro e w12 ⟨rfl, hc12, hk12⟩
              have hx12 := hx.kept hk12
              have hy12 := hy.kept hk12
              clear hc hx hy hk12 cv
              go_wp2_with fail
              refine (c_parked hc12 hx12 false (by simp; omega)).mono ?_
              rintro e w13 ⟨rfl, hc13, hx13, hb13⟩
              have hy13 := hy12.below hb13
              clear hc12 hx12 hy12 hb13
              go_wp2_with fail
              refine (c_parked hc13 hy13 false (by simp; omega)).mono ?_
              rintro e w14 ⟨rfl, hc14, hy14, hb14⟩
              have hx14 := hx13.below hb14
              clear hc13 hx13 hy13 hb14
              go_wp2
              go_roundw
              case rel => exact ⟨q + 1, by omega, by go_num, hc14, hx14, hy14⟩
              case measure => simp [intOf]; omega
            · obtain rfl : q = c := by omega
              have tc : (((q : Int) == 0) != ((q : Int) == 0)) = false := by simp
              clear hq hlt
              go_wp2_with fail
              refine (c_parked hc hx ((q : Int) == 0) (by
                by_cases hq0 : q = 0
                · subst hq0; simp
                · have e1 : ((q : Int) == 0) = false := by simp; omega
                  rw [e1]; simp; omega)).mono ?_
              rintro e w12 ⟨rfl, hc12, hx12, hb12⟩
              have hy12 := hy.below hb12
              clear hc hx hy hb12 cv hx12
              go_wp2_with fail
              refine (c_ready hc12 hy12 1 (by omega) (by omega)).mono ?_
              rintro e w13 ⟨rfl, hc13, hy13, hk13⟩
              clear hc12 hy12 hk13
              go_wp2_with fail
              refine (c_parked hc13 hy13 false rfl).mono ?_
              rintro e w14 ⟨rfl, hc14, hy14, hb14⟩
              clear hc13 hy13 hb14
              go_wp2_with fail
              refine (c_park hc14 hy14).mono ?_
              rintro e w15 ⟨rfl, hc15, hy15, hk15⟩
              clear hc14 hy14 hk15
              go_wp2_with fail
              refine (c_parked hc15 hy15 true (by simp)).mono ?_
              rintro e w16 ⟨rfl, hc16, hy16, hb16⟩
              clear hc15 hy15 hb16
              go_wp2_with fail
              refine (c_leave hc16 hy16).mono ?_
              rintro e w17 ⟨rfl, hc17, hy17, hk17⟩
              clear hc16 hy16 hk17
              go_wp2_with fail
              refine (c_parked hc17 hy17 false rfl).mono ?_
              rintro e w18 ⟨rfl, hc18, hy18, hb18⟩
              clear hc17 hy17 hb18
              go_wp2_with fail
              refine (park_no y 0 0 _ _ hy18.wt (by omega)).mono ?_
              rintro e w18' ⟨rfl, rfl⟩
              have bel := hc18.bel
              clear hc18 hy18
              go_wp2_with (go_at_call 33; refine (awake11_any _).mono ?_; rintro e w3 ⟨rfl, hb3⟩)
              go_ret
              exact ⟨rfl, bel.trans (hb3.mono bel.size)⟩

theorem eventRests_walk (W : World) (a : Int) (_w0 : (Lit.int .i64 a).wf = true) (b : Int) (_w1 : (Lit.int .i64 b).wf = true) (c : Int) (_w2 : (Lit.int .i64 c).wf = true) :
    Calls Try.prog 9 #[.int .i64 a, .int .i64 b, .int .i64 c] W fun e w' => e = .returned (.bool true) ∧ Below W.heap.size W w' := by
  by_cases h : 0 ≤ a ∧ a ≤ 100 ∧ 0 ≤ b ∧ b ≤ 100 ∧ 0 ≤ c ∧ c ≤ 100
  · obtain ⟨h1, h2, h3, h4, h5, h6⟩ := h
    obtain ⟨a', rfl⟩ := Int.eq_ofNat_of_zero_le h1
    obtain ⟨b', rfl⟩ := Int.eq_ofNat_of_zero_le h3
    obtain ⟨c', rfl⟩ := Int.eq_ofNat_of_zero_le h5
    exact rests_good W a' b' c' (by omega) (by omega) (by omega)
  · exact rests_bad W a b c (by omega)
end Go.Proofs.Ytelphbfdibfmoaa
