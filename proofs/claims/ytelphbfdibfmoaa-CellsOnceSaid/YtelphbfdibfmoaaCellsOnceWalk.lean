/-
  WHAT IS PROVED HERE: the walk of the law pelotonlaw01.CellsOnce: it returns true, and what was there before the call stays. Conditions: the arguments are 64-bit numbers.
-/
import Derived.Test.YtelphbfdibfmoaaLaw01A
import Derived.Test.YtelphbfdibfmoaaArgs
namespace Go.Proofs.Ytelphbfdibfmoaa
open Go.RowKit

/-- What holds when k callers have been: who was the first, and what stands in the cell. -/
def OnceSt (was : Int) (k : Nat) (st : MS) (f : Value) : Prop :=
  st.steps.length = 4 ∧ st.cells.length = 16 ∧ ((f = .int .i64 (-1) ∧ st.cellOf 5 = was) ∨ ∃ q : Nat, q < k ∧ f = .int .i64 q ∧ st.cellOf 5 = wrap64 (wrap64 (was + 1) + q))

theorem once_ne (was : Int) (q : Nat) (hq : q < 40) : ¬ wrap64 (wrap64 (was + 1) + q) = was := by
  unfold wrap64; omega
theorem once_caller {st : MS} {v : Int} (h : st.steps.length = 4) (h0 : 0 ≤ v) (h1 : v ≤ 3) : st.isCaller v = true := by simp [MS.isCaller]; omega
theorem once_given {st : MS} (h : st.cells.length = 16) : st.isGiven 5 = true := by simp [MS.isGiven]; omega
theorem once_no {st : MS} {v : Int} (h : st.steps.length = 4) (h0 : ¬ (0 ≤ v ∧ v ≤ 3)) : st.isCaller v = false := by simp [MS.isCaller]; omega

set_option maxHeartbeats 2000000 in
theorem cellsOnce_walk (W : World) (was : Int) (_w0 : (Lit.int .i64 was).wf = true) (A : Option Addr) (n c : Nat) (z : List Int) (hmax : n ≤ maxLen) (F : Flat W A n z) :
    Calls Try.prog 7 #[.int .i64 was, .slice A n c] W fun e w' => e = .returned (.bool true) ∧ Below W.heap.size W w' := by
  unfold maxLen at hmax
  by_cases hn : n ≤ 40
  · go_enter Try.func7, Try.ntmps7
    go_wp2_with fail
    refine (made_any _).mono ?_
    rintro e w1 ⟨mb, rfl, hm, bel1, hf⟩
    go_wp2_with fail
    refine (store_ok mb MS.made16 3 5 was _ hm (made_caller (by omega) (by omega)) (made_given (by omega) (by omega))).mono ?_
    rintro e w2 ⟨rfl, hm2, hk2⟩
    have bel2 := bel1.trans (hk2.under hf bel1.size)
    have hs2 : OnceSt was 0 ((MS.made16.did 3).putAt 5 was) (.int .i64 (-1)) :=
      ⟨by simp [MS.putAt, MS.did, MS.made16], by simp [MS.putAt, MS.did, MS.made16], .inl ⟨rfl, cellOf_put_same _ _ _ (made_given (by omega) (by omega))⟩⟩
    clear hm hk2 bel1
    go_wp2_with fail
    go_loopw [6, 7] (fun f i wr => ∃ (k : Nat) (st : MS), k ≤ n ∧ i = .int .i64 k ∧ MachP wr mb st ∧ OnceSt was k st f ∧ Below W.heap.size W wr) (fun _ i _ => n - (intOf i).toNat)
    case atStart => exact ⟨0, _, Nat.zero_le _, rfl, hm2, hs2, bel2⟩
    case round =>
      clear hm2 hs2 bel2
      obtain ⟨k, st, hk, rfl, hm, ⟨hs1, hs2, hs3⟩, bel⟩ := hrel
      by_cases hlt : k < n
      · obtain ⟨hzl, _, hcell⟩ := F
        obtain ⟨b, off, rfl, hb, hc⟩ := hcell (by omega)
        obtain ⟨v, hv⟩ : ∃ v, v = z.getD k 0 := ⟨_, rfl⟩
        have hcv : wr.cell? ⟨b, off + k, none⟩ = some (.int .i64 v) := by rw [hv, bel.cell (by exact hb)]; exact hc k hlt
        clear hv hc hcell hzl
        have hk40 : k < 40 := by omega
        rcases hs3 with ⟨rfl, h5⟩ | ⟨q, hq, rfl, h5⟩
        · by_cases hv : 0 ≤ v ∧ v ≤ 3
          · obtain ⟨hv0, hv3⟩ := hv
            have g1 := once_caller hs1 hv0 hv3
            have g2 := once_given hs2
            go_wp2_with fail
            refine (cas_hit mb st v 5 was (wrap64 (wrap64 (was + 1) + k)) _ hm g1 g2 h5).mono ?_
            rintro e w3 ⟨rfl, hm3, hk3⟩
            have bel3 := bel.trans (hk3.under hf bel.size)
            have hs : OnceSt was (k + 1) ((st.did v).putAt 5 (wrap64 (wrap64 (was + 1) + k))) (.int .i64 k) :=
              ⟨by simp [MS.putAt, MS.did, hs1], by simp [MS.putAt, MS.did, hs2], .inr ⟨k, by omega, rfl, cellOf_put_same _ _ _ (by rw [isGiven_did]; exact g2)⟩⟩
            have hcv3 : w3.cell? ⟨b, off + k, none⟩ = some (.int .i64 v) := (hk3.under hf bel.size).cell (p := ⟨b, off + k, none⟩) hb |>.trans hcv
            clear hm hk3 bel h5 hs1 hs2 g1 g2 hcv
            go_wp2
            go_roundw
            case rel => exact ⟨k + 1, _, by omega, by go_num, hm3, hs, bel3⟩
            case measure => simp [intOf]; omega
          · have hs := once_no hs1 hv
            have hos : OnceSt was (k + 1) st (.int .i64 (-1)) := ⟨hs1, hs2, .inl ⟨rfl, h5⟩⟩
            clear h5 hs1 hs2
            by_cases hv0 : 0 ≤ v
            · have hv3 : ¬ v ≤ 3 := by omega
              clear hv
              go_wp2_with fail
              refine (cas_no mb st v 5 was (wrap64 (wrap64 (was + 1) + k)) _ hm (.inl hs)).mono ?_
              rintro e w3 ⟨rfl, rfl⟩
              go_wp2
              go_roundw
              case rel => exact ⟨k + 1, _, by omega, by go_num, hm, hos, bel⟩
              case measure => simp [intOf]; omega
            · clear hv
              go_wp2_with fail
              refine (cas_no mb st v 5 was (wrap64 (wrap64 (was + 1) + k)) _ hm (.inl hs)).mono ?_
              rintro e w3 ⟨rfl, rfl⟩
              go_wp2
              go_roundw
              case rel => exact ⟨k + 1, _, by omega, by go_num, hm, hos, bel⟩
              case measure => simp [intOf]; omega
        · have hne := once_ne was q (by omega)
          have hf0 : ¬ ((q : Int) < 0) := by omega
          by_cases hv : 0 ≤ v ∧ v ≤ 3
          · obtain ⟨hv0, hv3⟩ := hv
            have g1 := once_caller hs1 hv0 hv3
            have g2 := once_given hs2
            have hs : OnceSt was (k + 1) (st.did v) (.int .i64 q) := ⟨by simp [MS.did, hs1], hs2, .inr ⟨q, by omega, rfl, h5⟩⟩
            have hm5 : ¬ st.cellOf 5 = was := by rw [h5]; exact hne
            clear hne h5 hs1 hs2
            go_wp2_with fail
            refine (cas_miss mb st v 5 was (wrap64 (wrap64 (was + 1) + k)) _ hm g1 g2 hm5).mono ?_
            rintro e w3 ⟨rfl, hm3, hk3⟩
            have bel3 := bel.trans (hk3.under hf bel.size)
            have hcv3 : w3.cell? ⟨b, off + k, none⟩ = some (.int .i64 v) := (hk3.under hf bel.size).cell (p := ⟨b, off + k, none⟩) hb |>.trans hcv
            clear hm hk3 bel g1 g2 hcv hm5
            go_wp2
            go_roundw
            case rel => exact ⟨k + 1, _, by omega, by go_num, hm3, hs, bel3⟩
            case measure => simp [intOf]; omega
          · have hs := once_no hs1 hv
            have hos : OnceSt was (k + 1) st (.int .i64 q) := ⟨hs1, hs2, .inr ⟨q, by omega, rfl, h5⟩⟩
            clear h5 hs1 hs2 hne
            by_cases hv0 : 0 ≤ v
            · have hv3 : ¬ v ≤ 3 := by omega
              clear hv
              go_wp2_with fail
              refine (cas_no mb st v 5 was (wrap64 (wrap64 (was + 1) + k)) _ hm (.inl hs)).mono ?_
              rintro e w3 ⟨rfl, rfl⟩
              go_wp2
              go_roundw
              case rel => exact ⟨k + 1, _, by omega, by go_num, hm, hos, bel⟩
              case measure => simp [intOf]; omega
            · clear hv
              go_wp2_with fail
              refine (cas_no mb st v 5 was (wrap64 (wrap64 (was + 1) + k)) _ hm (.inl hs)).mono ?_
              rintro e w3 ⟨rfl, rfl⟩
              go_wp2
              go_roundw
              case rel => exact ⟨k + 1, _, by omega, by go_num, hm, hos, bel⟩
              case measure => simp [intOf]; omega
      · clear F
        rcases hs3 with ⟨rfl, h5⟩ | ⟨q, hq, rfl, h5⟩
        · go_wp2_with (first | (go_at_call 17; refine (peek_any mb _ _ _ hm).mono ?_; rintro e w3 ⟨rfl, rfl⟩) | (go_at_call 15; refine (awake01_any _).mono ?_; rintro e w3 ⟨rfl, hb3⟩))
          go_ret
          exact ⟨rfl, bel.trans (hb3.mono bel.size)⟩
        · have hf0 : ¬ ((q : Int) < 0) := by omega
          go_wp2_with (first | (go_at_call 17; refine (peek_any mb _ _ _ hm).mono ?_; rintro e w3 ⟨rfl, rfl⟩) | (go_at_call 15; refine (awake01_any _).mono ?_; rintro e w3 ⟨rfl, hb3⟩))
          go_ret
          exact ⟨rfl, bel.trans (hb3.mono bel.size)⟩
  · go_enter Try.func7, Try.ntmps7
    go_wp2_with fail
    refine (made_any _).mono ?_
    rintro e w1 ⟨mb, rfl, hm, bel1, hf⟩
    go_wp2_with (go_at_call 15; refine (awake01_any _).mono ?_; rintro e w3 ⟨rfl, hb3⟩)
    go_ret
    exact ⟨rfl, bel1.trans (hb3.mono bel1.size)⟩
end Go.Proofs.Ytelphbfdibfmoaa
