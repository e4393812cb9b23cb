/-
  WHAT IS PROVED HERE: the walk of the law pelotonlaw12.IdleFirst: it returns true, and what was there before the call stays. Conditions: the table math/bits.deBruijn64tab lies as its initialiser lays it.
-/
import Derived.Test.YtkilghhknimolaaDoorAwakeI
import Derived.Test.YtkilghhknimolaaDoorFirstP
namespace Go.Proofs.YtkilghhknimolaaDoor
open Go.RowKit

set_option maxRecDepth 20000 in
set_option maxHeartbeats 2000000 in
theorem idleFirst_walk (W : World) (hT : Tab W) (z : Int) (_w0 : (Lit.int .i64 z).wf = true) (n : Int) (_w1 : (Lit.int .i64 n).wf = true) (more : Int) (_w2 : (Lit.int .i64 more).wf = true) :
    Calls Tryd.prog 7 #[.int .i64 z, .int .i64 n, .int .i64 more] W fun e w' => e = .returned (.bool true) ∧ Below W.heap.size W w' := by
  have hlt := hT.lt
  obtain ⟨x, hx⟩ : ∃ x, firstOf z n = x := ⟨_, rfl⟩
  -- what the law asks of x, and up to where all are
  have hcase : ∃ u : Nat, u ≤ 64 ∧ (∀ i, i < u → (u64 z).testBit i = true) ∧ ((x = u ∧ u < 64 ∧ (u : Int) < n ∧ hasBit z u = false) ∨ (x = -1 ∧ ((n < 64 ∧ (u : Int) = max n 0) ∨ (64 ≤ n ∧ u = 64)))) := by
    rcases firstOf_cases z n with ⟨k, e, h1, h2, h3, h4⟩ | ⟨e, h1⟩
    · exact ⟨k, by omega, h3, .inl ⟨by rw [← hx, e], h1, h2, by rw [hasBit_nat z h1]; exact h4⟩⟩
    · by_cases hn : n < 64
      · exact ⟨(max n 0).toNat, by omega, fun i hi => h1 i (by omega) (by omega), .inr ⟨by rw [← hx, e], .inl ⟨hn, by omega⟩⟩⟩
      · exact ⟨64, by omega, fun i hi => h1 i hi (by omega), .inr ⟨by rw [← hx, e], .inr ⟨by omega, rfl⟩⟩⟩
  have h1 := first_ok z n W hT
  rw [hx] at h1
  have hsgn : IntKind.u64.signed = false := rfl
  have HX := Lib.hid hx
  obtain ⟨u, hu, hall, hc⟩ := hcase
  have HALL := Lib.hid hall
  clear hall hx _w0 _w1 _w2
  go_enter Tryd.func7, Tryd.ntmps7
  go_wp2_with fail
  refine h1.mono ?_
  rintro e wn ⟨rfl, rfl⟩
  clear h1
  go_upto_region 2 with fail
  go_cut [33] from 14 to 32 (fun y wc => y = .bool false ∧ wc = W)
  case first =>
    have d1 : decide (x < -1) = false := by rcases hc with ⟨h, _⟩ | ⟨h, _⟩ <;> (simp; omega)
    have d2 : decide (64 ≤ x) = false := by rcases hc with ⟨h, _⟩ | ⟨h, _⟩ <;> (simp; omega)
    rcases hc with ⟨rfl, h1, h2, h3⟩ | ⟨rfl, _⟩
    · have d3 : decide ((0 : Int) ≤ (u : Int)) = true := by simp
      have d4 : decide (n ≤ (u : Int)) = false := by simp; omega
      have h := has_ok z u W
      rw [h3] at h
      clear h1 h2 h3
      go_wp2_with fail
      refine h.mono ?_
      rintro e wn ⟨rfl, rfl⟩
      clear h
      go_wp2_with fail
      go_meet
      case rel => exact ⟨rfl, by first | trivial | rfl⟩
    · go_wp2_with fail
      go_meet
      case rel => exact ⟨rfl, by first | trivial | rfl⟩
  case rest =>
    obtain ⟨rfl, rfl⟩ := hcut
    go_upto_if 36 with fail
    go_cut [8] from 35 to 39 (fun y wc' => wc' = wc ∧ ∃ uv : Int, y = .int .i64 uv ∧ (uv = u ∨ (uv < 0 ∧ u = 0)))
    case first =>
      rcases hc with ⟨rfl, h1, h2, h3⟩ | ⟨rfl, ⟨h1, h2⟩ | ⟨h1, h2⟩⟩
      · have d1 : decide ((u : Int) < 0) = false := by simp
        clear h1 h2 h3
        go_wp2_with fail
        go_meet
        case rel => exact ⟨by first | trivial | rfl, u, rfl, .inl rfl⟩
      · have d1 : decide (n < 64) = true := by simp; omega
        have H2 := Lib.hid h2
        clear h1 h2
        go_wp2_with fail
        go_meet
        case rel => exact ⟨by first | trivial | rfl, n, rfl, by have := H2.out; omega⟩
      · have d1 : decide (n < 64) = false := by simp; omega
        have H2 := Lib.hid h2
        clear h1 h2
        go_wp2_with fail
        go_meet
        case rel => exact ⟨by first | trivial | rfl, 64, rfl, by have := H2.out; omega⟩
    case rest =>
      obtain ⟨rfl, uv, rfl, huv⟩ := hcut
      have HUV := Lib.hid huv
      clear huv hc
      go_wp2_with fail
      go_loopw [9] (fun i wr => ∃ k : Nat, k ≤ u ∧ i = .int .i64 k ∧ wr = wc) (fun i _ => u - (intOf i).toNat)
      case atStart => exact ⟨0, Nat.zero_le _, rfl, rfl⟩
      case round =>
        obtain ⟨k, hk, rfl, rfl⟩ := hrel
        have hw64 : (k : Int) ≤ 64 := by omega
        by_cases hku : k < u
        · have d1 : decide ((k : Int) < uv) = true := by have := HUV.out; simp; omega
          have h := has_ok z k wr
          rw [hasBit_nat z (by omega), HALL.out k hku] at h
          have HKU := Lib.hid hku
          clear hku
          go_wp2_with fail
          refine h.mono ?_
          rintro e wn ⟨rfl, rfl⟩
          clear h
          go_wp2_with fail
          go_roundw
          case rel => exact ⟨k + 1, by have := HKU.out; omega, by go_num, by first | trivial | rfl⟩
          case measure => have := HKU.out; simp [intOf]; omega
        · obtain rfl : k = u := by omega
          have d1 : decide ((k : Int) < uv) = false := by have := HUV.out; simp; omega
          clear hku
          by_cases hn0 : n < 0
          · have d2 : decide (n < 0) = true := by simp; omega
            clear hn0
            go_wp2_with fail
            refine (awake12_any wr hT).mono ?_
            rintro e w9 ⟨rfl, hb9⟩
            go_wp2_with fail
            go_ret
            exact ⟨rfl, hb9⟩
          · have d2 : decide (n < 0) = false := by simp; omega
            by_cases hn1 : 63 < n
            · have d3 : decide (63 < n) = true := by simp; omega
              clear hn0 hn1
              go_wp2_with fail
              refine (awake12_any wr hT).mono ?_
              rintro e w9 ⟨rfl, hb9⟩
              go_wp2_with fail
              go_ret
              exact ⟨rfl, hb9⟩
            · obtain ⟨m, rfl⟩ : ∃ m : Nat, n = m := ⟨n.toNat, by omega⟩
              have d3 : decide ((63 : Int) < (m : Int)) = false := by simp; omega
              have hm : m < 64 := by omega
              have hwu := wrap_u64_cast more
              clear hn0 hn1
              go_upto_region 17 with fail
              have hf := first_ok (bits .or .i64 z (wrap64 (IntKind.u64.wrap ((u64 more : Int) / 2 ^ m * 2 ^ m)))) m wr hT
              rw [firstOf_congr (z := z) (fun i h1 h2 => (or_high' (by omega)).symm), HX.out] at hf
              generalize (bits .or .i64 z (wrap64 (IntKind.u64.wrap ((u64 more : Int) / 2 ^ m * 2 ^ m)))) = ot at *
              have hxx : (x == x) = true := by simp
              go_wp2_with fail
              refine hf.mono ?_
              rintro e wn ⟨rfl, rfl⟩
              clear hf
              go_wp2_with fail
              refine (awake12_any wr hT).mono ?_
              rintro e w9 ⟨rfl, hb9⟩
              go_wp2_with fail
              go_ret
              exact ⟨rfl, hb9⟩
end Go.Proofs.YtkilghhknimolaaDoor
