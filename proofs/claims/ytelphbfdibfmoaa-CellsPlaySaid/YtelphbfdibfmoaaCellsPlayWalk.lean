/-
  WHAT IS PROVED HERE: the walk of the law pelotonlaw01.CellsPlay: it returns true, and what was there before the call stays. Conditions: the arguments are 64-bit numbers.
-/
import Derived.Test.YtelphbfdibfmoaaPlayA
import Derived.Test.YtelphbfdibfmoaaArgs
import Derived.Deep.DeepCutAuto
import Derived.Outline
namespace Go.Proofs.Ytelphbfdibfmoaa
open Go.RowKit

set_option maxRecDepth 100000 in
set_option maxHeartbeats 4000000 in
theorem play_yes (W : World) (size workers : Int) (A : Option Addr) (n c : Nat) (z : List Int) (h1 : 1 ≤ size) (h2 : size ≤ 64) (h3 : 1 ≤ workers) (h4 : workers ≤ 16) (hn : n ≤ 100) (F : Flat W A (n * 5) z) :
    Calls Try.prog 8 #[.agg #[.int .i64 size, .int .i64 workers], .slice A n c] W fun e w' => e = .returned (.bool true) ∧ Below W.heap.size W w' := by
  have d1 : decide ((100 : Int) < (n : Int)) = false := by simp; omega
  have hsm : (mayB size workers && decide (size ≤ 64)) = true := by simp [mayB]; omega
  have hx := boxS W size workers
  have HSM := Lib.hid hsm
  clear hsm
  go_enter Try.func8, Try.ntmps8
  go_wp2_with fail
  refine (small_any size workers _).mono ?_
  rw [HSM.out]
  rintro e w1 ⟨rfl, rfl⟩
  go_wp2_with fail
  refine (new_ok size workers _ (by omega) (by omega) (by omega) (by omega)).mono ?_
  rintro e w1 ⟨p, s, rfl, hm1, hk1, hp, hs⟩
  have hb1 := hk1.below (B := W.heap.size + 1) (by simp) (fun _ h => h.elim)
  have q0 : Blk (W.alloc (.cells #[.int .i64 size, .int .i64 workers] 54)) W.heap.size 54 [.int .i64 size, .int .i64 workers] := Blk.new W _ _
  have q1 := q0.below hb1 (by omega)
  have bel1 : Below W.heap.size W w1 := ((Below.refl _ W).alloc (Nat.le_refl _) _).trans (hb1.mono (by omega))
  have hp1 := hm1.lt p (.inl rfl)
  have hs1 := hm1.lt s (.inr (.inr rfl))
  rw [World.size_alloc] at hp hs
  have hz1 : W.heap.size + 1 ≤ w1.heap.size := by omega
  have cx1 := q1.cell
  clear hx hb1 q0 hk1
  go_wp2_with fail
  refine (rnew_ok size workers _ h3 h4).mono ?_
  rintro e w2 ⟨rp, rs, rfl, hr2, ho2, hk2, hrp, hrs⟩
  have hP : PlW W w2 ⟨p, p, s⟩ ⟨rp, rp, rs⟩ (MS.fresh size workers.toNat) (MS.fresh size workers.toNat) size workers := by
    refine ⟨hm1.kept hk2 (fun _ _ f => f), hr2, ho2, fun k a b => ?_, ⟨hp, hp, hs⟩, ⟨by show _ ≤ rp; omega, by show _ ≤ rp; omega, by show _ ≤ rs; omega⟩, q1.kept hk2 (fun f => f), bel1.trans ((hk2.below (Nat.le_refl _) (fun _ h => h.elim)).mono bel1.size), Nat.le_trans hz1 hk2.size⟩
    have := hm1.lt k a
    rcases (show k = rp ∨ k = rp ∨ k = rs from b) with e | e | e <;> omega
  have hS : (MS.fresh size workers.toNat).size = size := rfl
  have HS := Lib.hid hS
  clear cx1 q1 bel1 hm1 hr2 ho2 hk2 hp hs hp1 hs1 hrp hrs hz1 hS
  go_wp2_with fail
  go_loopw [8] (fun i wr => ∃ (k : Nat) (st : MS) (mc rc : Nat), k ≤ n ∧ i = .int .i64 k ∧ PlW W wr ⟨p, mc, s⟩ ⟨rp, rc, rs⟩ st st size workers ∧ Hid (st.size = size)) (fun i _ => n - (intOf i).toNat)
  case atStart => exact ⟨0, _, p, rp, Nat.zero_le _, rfl, hP, HS⟩
  case round =>
    clear hP HS
    obtain ⟨k, st, mc, rc, hk, rfl, hP, HS⟩ := hrel
    by_cases hlt : k < n
    · obtain ⟨_, _, hcell⟩ := F
      obtain ⟨b, off, rfl, hb, hc⟩ := hcell (by omega)
      obtain ⟨v0, hv0⟩ : ∃ v, v = z.getD (k * 5) 0 := ⟨_, rfl⟩
      obtain ⟨v1, hv1⟩ : ∃ v, v = z.getD (k * 5 + 1) 0 := ⟨_, rfl⟩
      obtain ⟨v2, hv2⟩ : ∃ v, v = z.getD (k * 5 + 2) 0 := ⟨_, rfl⟩
      obtain ⟨v3, hv3⟩ : ∃ v, v = z.getD (k * 5 + 3) 0 := ⟨_, rfl⟩
      obtain ⟨v4, hv4⟩ : ∃ v, v = z.getD (k * 5 + 4) 0 := ⟨_, rfl⟩
      have cc : ∀ {w' : World}, Below W.heap.size W w' → w'.cell? ⟨b, off + k * 5, none⟩ = some (.int .i64 v0) ∧ w'.cell? ⟨b, off + k * 5 + 1, none⟩ = some (.int .i64 v1) ∧ w'.cell? ⟨b, off + k * 5 + 2, none⟩ = some (.int .i64 v2) ∧ w'.cell? ⟨b, off + k * 5 + 3, none⟩ = some (.int .i64 v3) ∧ w'.cell? ⟨b, off + k * 5 + 4, none⟩ = some (.int .i64 v4) := by
        intro w' hw
        refine ⟨?_, ?_, ?_, ?_, ?_⟩
        · rw [hv0, hw.cell (by exact hb)]; exact hc (k * 5) (by omega)
        · rw [hv1, hw.cell (by exact hb)]; exact hc (k * 5 + 1) (by omega)
        · rw [hv2, hw.cell (by exact hb)]; exact hc (k * 5 + 2) (by omega)
        · rw [hv3, hw.cell (by exact hb)]; exact hc (k * 5 + 3) (by omega)
        · rw [hv4, hw.cell (by exact hb)]; exact hc (k * 5 + 4) (by omega)
      obtain ⟨c0, c1, c2, c3, c4⟩ := cc hP.bel
      have CC := fun {w' : World} (hw : Below W.heap.size W w') => Lib.hid (cc hw)
      clear hv0 hv1 hv2 hv3 hv4 hc hcell cc
      go_wp2_with fail
      refine (pl_does hP v0 v1 v2 v3 v4 (by rw [HS.out]; omega) (by rw [HS.out]; omega)).mono ?_
      rintro e w4 ⟨rfl, mc', hP4⟩
      obtain ⟨c0', c1', c2', c3', c4'⟩ := (CC hP4.bel).out
      clear hP c0 c1 c2 c3 c4
      go_wp2_with fail
      refine (pl_plain hP4 v0 v1 v2 v3 v4 (by rw [HS.out]; omega) (by rw [HS.out]; omega)).mono ?_
      rintro e w5 ⟨rfl, rc', hP5⟩
      have hsz : (doesR st v0 v1 v2 v3 v4).2.2.size = size := by rw [doesR_size]; exact HS.out
      have c1 := (CC hP5.bel).out.2.1
      clear hP4 c0' c1' c2' c3' c4' CC
      obtain ⟨v, er, st5, hr⟩ : ∃ v er st5, doesR st v0 v1 v2 v3 v4 = (v, er, st5) := ⟨_, _, _, rfl⟩
      rw [hr] at hP5 hsz ⊢
      simp only at hP5 hsz ⊢
      obtain ⟨Ar, cap, r0, _, _, _, _, hcap, _⟩ := hP5.r.fields
      obtain ⟨sv, hsv⟩ : ∃ sv, st5.stepsOf v1 = sv := ⟨_, rfl⟩
      have tv : (v != v) = false := by simp
      have te : (er != er) = false := by simp
      have ts : (sv != sv) = false := by simp
      have tl : ((st5.cells.length : Int) != (st5.cells.length : Int)) = false := by simp
      have HSZ := Lib.hid hsz
      have HSV := Lib.hid hsv
      clear hr hsz hsv hcap
      go_wp2_with fail
      go_quiet ((first | (go_at_call 22; exact used_q ⟨p, mc', s⟩ st5 _ _ hP5.m) | (go_at_call 23; exact steps_quiet ⟨p, mc', s⟩ st5 v1 sv _ _ hP5.m HSV.out) | (go_at_call 30; exact rof_quiet ⟨rp, rc', rs⟩ st5 v1 sv _ _ hP5.r HSV.out)))
      have hP6 := hP5.drew nq
      clear hP5 c1 r0
      go_wp2_with fail
      go_roundw
      case rel => exact ⟨k + 1, st5, mc', rc', by omega, by go_num, hP6, HSZ⟩
      case measure => simp [intOf]; omega
    · obtain rfl : k = n := by omega
      clear F hk hlt
      obtain ⟨wo, rfl⟩ : ∃ wo : World, wo = wr := ⟨_, rfl⟩
      go_wp2_with fail
      go_loopw [13] (fun i wl => ∃ j : Nat, (j : Int) ≤ size + 2 ∧ i = .int .i64 ((j : Int) - 1) ∧ wo = wl) (fun i _ => (size + 2 - (intOf i + 1)).toNat)
      case atStart => exact ⟨0, by omega, by simp, rfl⟩
      case round =>
        obtain ⟨j, hj, rfl, rfl⟩ := hrel
        have cx := hP.bx.cell
        by_cases hjs : (j : Int) - 1 ≤ size
        · obtain ⟨u, hu⟩ : ∃ u, st.cellOf ((j : Int) - 1) = u := ⟨_, rfl⟩
          have tu : (u != u) = false := by simp
          have HU := Lib.hid hu
          clear hu
          go_wp2_with fail
          refine (peek_any ⟨p, mc, s⟩ st ((j : Int) - 1) _ hP.m).mono ?_
          rw [HU.out]
          rintro e w6 ⟨rfl, rfl⟩
          go_wp2_with fail
          refine (rpeek_any ⟨rp, rc, rs⟩ st ((j : Int) - 1) _ hP.r).mono ?_
          rw [HU.out]
          rintro e w6 ⟨rfl, rfl⟩
          go_wp2_with fail
          go_roundw
          case rel => exact ⟨j + 1, by omega, int_eq (by omega), by first | rfl | trivial⟩
          case measure => simp [intOf]; omega
        · clear hj
          go_wp2_with fail
          go_loopw [14] (fun i wl => ∃ j : Nat, (j : Int) ≤ workers + 3 ∧ i = .int .i64 ((j : Int) - 1) ∧ wo = wl) (fun i _ => (workers + 3 - (intOf i + 1)).toNat)
          case atStart => exact ⟨0, by omega, by simp, rfl⟩
          case round =>
            clear hjs
            obtain ⟨j, hj, rfl, rfl⟩ := hrel
            by_cases hjs : (j : Int) - 1 ≤ workers + 1
            · obtain ⟨u, hu⟩ : ∃ u, st.stepsOf ((j : Int) - 1) = u := ⟨_, rfl⟩
              have tu : (u != u) = false := by simp
              have HU := Lib.hid hu
              clear hu
              go_wp2_with fail
              refine (steps_any ⟨p, mc, s⟩ st ((j : Int) - 1) _ hP.m).mono ?_
              rw [HU.out]
              rintro e w6 ⟨rfl, rfl⟩
              go_wp2_with fail
              refine (rof_any ⟨rp, rc, rs⟩ st ((j : Int) - 1) _ hP.r).mono ?_
              rw [HU.out]
              rintro e w6 ⟨rfl, rfl⟩
              go_wp2_with fail
              go_roundw
              case rel => exact ⟨j + 1, by omega, int_eq (by omega), by first | rfl | trivial⟩
              case measure => simp [intOf]; omega
            · have bel := hP.bel
              go_wp2_with (go_at_call 15; refine (awake01_any _).mono ?_; rintro e w3 ⟨rfl, hb3⟩)
              go_ret
              exact ⟨rfl, bel.trans (hb3.mono bel.size)⟩

set_option maxRecDepth 100000 in
set_option maxHeartbeats 1000000 in
theorem play_no (W : World) (size workers : Int) (A : Option Addr) (n c : Nat) (h : (mayB size workers && decide (size ≤ 64)) = false ∨ ¬ n ≤ 100) :
    Calls Try.prog 8 #[.agg #[.int .i64 size, .int .i64 workers], .slice A n c] W fun e w' => e = .returned (.bool true) ∧ Below W.heap.size W w' := by
  have hx := boxS W size workers
  have bel1 : Below W.heap.size W (W.alloc (.cells #[.int .i64 size, .int .i64 workers] 54)) := (Below.refl _ W).alloc (Nat.le_refl _) _
  cases hs : (mayB size workers && decide (size ≤ 64)) with
  | false =>
    have HSM := Lib.hid hs
    clear hs h
    go_enter Try.func8, Try.ntmps8
    go_wp2_with fail
    refine (small_any size workers _).mono ?_
    rw [HSM.out]
    rintro e w1 ⟨rfl, rfl⟩
    clear hx
    go_wp2_with (go_at_call 15; refine (awake01_any _).mono ?_; rintro e w3 ⟨rfl, hb3⟩)
    go_ret
    exact ⟨rfl, bel1.trans (hb3.mono bel1.size)⟩
  | true =>
    have d1 : decide ((100 : Int) < (n : Int)) = true := by
      have := h.resolve_left (by rw [hs]; simp)
      simp; omega
    have HSM := Lib.hid hs
    clear hs h
    go_enter Try.func8, Try.ntmps8
    go_wp2_with fail
    refine (small_any size workers _).mono ?_
    rw [HSM.out]
    rintro e w1 ⟨rfl, rfl⟩
    clear hx
    go_wp2_with (go_at_call 15; refine (awake01_any _).mono ?_; rintro e w3 ⟨rfl, hb3⟩)
    go_ret
    exact ⟨rfl, bel1.trans (hb3.mono bel1.size)⟩

theorem cellsPlay_walk (W : World) (zs : List Int) (hl : zs.length = 2) (_hw : ∀ z ∈ zs, (Lit.int .i64 z).wf = true) (A : Option Addr) (n c : Nat) (z : List Int) (_hmax : n ≤ maxLen) (F : Flat W A (n * 5) z) :
    Calls Try.prog 8 #[.agg (zs.map (Value.int .i64)).toArray, .slice A n c] W fun e w' => e = .returned (.bool true) ∧ Below W.heap.size W w' := by
  obtain ⟨size, workers, rfl⟩ := arr2 hl
  cases h : (mayB size workers && decide (size ≤ 64)) with
  | false => exact play_no W size workers A n c (.inl h)
  | true =>
    by_cases hn : n ≤ 100
    · simp [mayB] at h
      exact play_yes W size workers A n c z (by omega) (by omega) (by omega) (by omega) hn F
    · exact play_no W size workers A n c (.inr hn)
end Go.Proofs.Ytelphbfdibfmoaa
