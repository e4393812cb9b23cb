/-
  WHAT IS PROVED HERE: the walk of the law pelotonlaw01.CellsAdds: it returns true, and what was there before the call stays. Conditions: the arguments are 64-bit numbers.
-/
import Derived.Test.YtelphbfdibfmoaaLaw01A
import Derived.Test.YtelphbfdibfmoaaArgs
import Derived.Test.YtelphbfdibfmoaaCellsAddsPlain
namespace Go.Proofs.Ytelphbfdibfmoaa
open Go.RowKit

/-- A machine of 16 cells and four callers, in whose cell 2 the number v stands. -/
def AddsSt (v : Int) (st : MS) : Prop := st.steps.length = 4 ∧ st.cells.length = 16 ∧ st.cellOf 2 = v
theorem AddsSt.caller {v : Int} {st : MS} (h : AddsSt v st) {i : Int} (h0 : 0 ≤ i) (h1 : i < 4) : st.isCaller i = true := by
  obtain ⟨h2, h3, _⟩ := h
  simp [MS.isCaller]; omega
theorem AddsSt.given {v : Int} {st : MS} (h : AddsSt v st) : st.isGiven 2 = true := by
  obtain ⟨h2, h3, _⟩ := h
  simp [MS.isGiven]; omega
theorem AddsSt.add {v : Int} {st : MS} (h : AddsSt v st) (i x : Int) : AddsSt x ((st.did i).putAt 2 x) :=
  ⟨by simp [MS.putAt, MS.did, h.1], by simp [MS.putAt, MS.did, h.2.1], cellOf_put_same _ _ _ (by rw [isGiven_did]; exact h.given)⟩
theorem AddsSt.did {v : Int} {st : MS} (h : AddsSt v st) (i : Int) : AddsSt v (st.did i) :=
  ⟨by simp [MS.did, h.1], h.2.1, h.2.2⟩
theorem wrap_zero : wrap64 0 = 0 := by unfold wrap64; omega
theorem made_adds : AddsSt 0 MS.made16 := ⟨rfl, by simp [MS.made16], made_cellOf _⟩

set_option maxHeartbeats 1000000 in
theorem adds_bad (W : World) (A : Option Addr) (n c : Nat) (t : Int) (hmax : n ≤ maxLen) (h : 40 < n ∨ (n ≤ 40 ∧ t < 0) ∨ (n ≤ 40 ∧ 0 ≤ t ∧ (n : Int) < t)) :
    Calls Try.prog 3 #[.slice A n c, .int .i64 t] W fun e w' => e = .returned (.bool true) ∧ Below W.heap.size W w' := by
  unfold maxLen at hmax
  rcases h with h1 | ⟨h1, h2⟩ | ⟨h1, h2, h3⟩
  all_goals
    go_enter Try.func3, Try.ntmps3
    go_wp2_with fail
    refine (made_any _).mono ?_
    rintro e w1 ⟨mb, rfl, hm, bel1, hf⟩
    go_wp2_with fail
    refine (made_any _).mono ?_
    rintro e w2 ⟨nb, rfl, hn, bel2, hg⟩
    have bel := bel1.trans (bel2.mono bel1.size)
    go_wp2_with (go_at_call 15; refine (awake01_any _).mono ?_; rintro e w3 ⟨rfl, hb3⟩)
    go_ret
    exact ⟨rfl, bel.trans (hb3.mono bel.size)⟩

set_option maxHeartbeats 4000000 in
theorem adds_good (W : World) (A : Option Addr) (n c : Nat) (z : List Int) (t : Nat) (hn40 : n ≤ 40) (F : Flat W A n z) (ht : t ≤ n) :
    Calls Try.prog 3 #[.slice A n c, .int .i64 t] W fun e w' => e = .returned (.bool true) ∧ Below W.heap.size W w' := by
  have hzl : z.length = n := F.1
  have HZ := Lib.hid hzl
  clear hzl
  have d1 : decide ((40 : Int) < (n : Int)) = false := by simp; omega
  have d2 : decide ((t : Int) < 0) = false := by simp
  have d3 : decide ((n : Int) < (t : Int)) = false := by simp; omega
  have d4 : decide (n < t) = false := by simp; omega
  go_enter Try.func3, Try.ntmps3
  go_wp2_with fail
  refine (made_any _).mono ?_
  rintro e w1 ⟨mb, rfl, hm, bel1, hf⟩
  go_wp2_with fail
  refine (made_any _).mono ?_
  rintro e w2 ⟨nb, rfl, hnb, bel2, hg⟩
  have hd : ∀ k, nb.has k → ¬ mb.has k := fun k h1 h2 => by have := hm.lt k h2; have := MB.from_has hg k h1; omega
  have hm2 : MachP w2 mb MS.made16 := hm.kept (Kept.of_below (S := fun _ => False) bel2) (fun _ _ f => f)
  have hg' : nb.from_ W.heap.size := ⟨Nat.le_trans bel1.size hg.1, Nat.le_trans bel1.size hg.2.1, Nat.le_trans bel1.size hg.2.2⟩
  have bel := bel1.trans (bel2.mono bel1.size)
  have hs0 := made_adds
  clear bel1 bel2 hm hg
  go_wp2_with fail
  go_loopw [7] (fun i wr => ∃ (k : Nat) (st st2 : MS), k ≤ n ∧ i = .int .i64 k ∧ MachP wr mb st ∧ MachP wr nb st2 ∧ AddsSt (wrap64 (psum z k)) st ∧ AddsSt (wrap64 (rsum z t k)) st2 ∧ Below W.heap.size W wr) (fun i _ => n - (intOf i).toNat)
  case atStart => exact ⟨0, _, _, Nat.zero_le _, rfl, hm2, hnb, by rw [psum_zero, wrap_zero]; exact hs0, by show AddsSt (wrap64 0) _; rw [wrap_zero]; exact hs0, bel⟩
  case round =>
    clear hm2 hnb bel hs0
    obtain ⟨k, st, st2, hk, rfl, hm, hnb, hs, hs2, bel⟩ := hrel
    by_cases hlt : k < n
    · obtain ⟨_, _, hcell⟩ := F
      obtain ⟨b, off, rfl, hb, hc⟩ := hcell (by omega)
      have i1 : ((k : Int) + (t : Int)) % (n : Int) < (n : Int) := Int.emod_lt_of_pos _ (by omega)
      have i0 : 0 ≤ ((k : Int) + (t : Int)) % (n : Int) := Int.emod_nonneg _ (by omega)
      have i2 : (k + t) % n < n := Nat.mod_lt _ (by omega)
      have j1 : (k : Int) % 4 < 4 := by omega
      have j0 : 0 ≤ (k : Int) % 4 := by omega
      obtain ⟨v, hv⟩ : ∃ v, v = z.getD k 0 := ⟨_, rfl⟩
      obtain ⟨u, hu⟩ : ∃ u, u = z.getD ((k + t) % n) 0 := ⟨_, rfl⟩
      have hcv : wr.cell? ⟨b, off + k, none⟩ = some (.int .i64 v) := by rw [hv, bel.cell (by exact hb)]; exact hc k hlt
      have HV := Lib.hid hv
      have HU := Lib.hid hu
      clear hv hu
      go_wp2_with fail
      refine (add_v mb st ((k : Int) % 4) 2 v _ _ hm (hs.caller j0 j1) hs.given hs.2.2).mono ?_
      rintro e w3 ⟨rfl, hm3, hk3⟩
      have b3 := hk3.under hf bel.size
      have bel3 := bel.trans b3
      have hnb3 : MachP w3 nb st2 := hnb.kept hk3 hd
      have hs3 : AddsSt (wrap64 (psum z (k + 1))) ((st.did ((k : Int) % 4)).putAt 2 (wrap64 (wrap64 (psum z k) + v))) := by
        have e : wrap64 (wrap64 (psum z k) + v) = wrap64 (psum z (k + 1)) := by rw [wrap_add, HV.out, ← psum_succ z k (by rw [HZ.out]; exact hlt)]
        rw [e]; exact hs.add _ _
      have hcu : w3.cell? ⟨b, off + (k + t) % n, none⟩ = some (.int .i64 u) := by rw [HU.out, bel3.cell (by exact hb)]; exact hc _ i2
      clear hm hk3 bel hnb hs hcv b3
      go_wp2_with fail
      refine (add_v nb st2 3 2 u _ _ hnb3 (hs2.caller (by omega) (by omega)) hs2.given hs2.2.2).mono ?_
      rintro e w4 ⟨rfl, hnb4, hk4⟩
      have b4 := hk4.under hg' bel3.size
      have bel4 := bel3.trans b4
      have hm4 := hm3.kept hk4 (fun k h1 h2 => hd k h2 h1)
      have hs4 : AddsSt (wrap64 (rsum z t (k + 1))) ((st2.did 3).putAt 2 (wrap64 (wrap64 (rsum z t k) + u))) := by
        have hr : rsum z t (k + 1) = rsum z t k + u := by rw [HU.out, ← HZ.out]; rfl
        rw [wrap_add, ← hr]; exact hs2.add _ _
      clear hm3 hk4 bel3 hnb3 hs2 hcu b4
      go_wp2
      go_roundw
      case rel => exact ⟨k + 1, _, _, by omega, by go_num, hm4, hnb4, hs3, hs4, bel4⟩
      case measure => simp [intOf]; omega
    · obtain rfl : k = n := by omega
      have hsum : rsum z t k = psum z k := by
        have := rsum_all z t (by rw [HZ.out]; exact ht)
        rwa [HZ.out] at this
      rw [hsum] at hs2
      have v1 := hs.2.2
      have v2 := hs2.2.2
      have V1 := Lib.hid v1
      have V2 := Lib.hid v2
      clear hsum v1 v2
      go_wp2_with fail
      refine (peek_any mb _ _ _ hm).mono ?_
      rw [V1.out]
      rintro e w3 ⟨rfl, rfl⟩
      go_wp2_with fail
      refine (peek_any nb _ _ _ hnb).mono ?_
      rw [V2.out]
      rintro e w3 ⟨rfl, rfl⟩
      clear hnb hs2 V1 V2
      go_wp2_with fail
      go_loopw [12] (fun i w5 => ∃ (q : Nat) (st5 : MS), q ≤ k ∧ i = .int .i64 q ∧ MachP w5 mb st5 ∧ AddsSt (wrap64 (psum z k - psum z q)) st5 ∧ Below W.heap.size W w5) (fun i _ => k - (intOf i).toNat)
      case atStart => exact ⟨0, _, Nat.zero_le _, rfl, hm, by rw [psum_zero, Int.sub_zero]; exact hs, bel⟩
      case round =>
        clear hm hs bel
        obtain ⟨q, st5, hq, rfl, hm, hs, bel⟩ := hrel
        by_cases hlt : q < k
        · obtain ⟨_, _, hcell⟩ := F
          obtain ⟨b, off, rfl, hb, hc⟩ := hcell (by omega)
          obtain ⟨v, hv⟩ : ∃ v, v = z.getD q 0 := ⟨_, rfl⟩
          have hcv : wr.cell? ⟨b, off + q, none⟩ = some (.int .i64 v) := by rw [hv, bel.cell (by exact hb)]; exact hc q hlt
          obtain ⟨T, hT⟩ : ∃ T, T = psum z k - psum z q := ⟨_, rfl⟩
          have hT2 : psum z k - psum z (q + 1) = T - v := by rw [psum_succ z q (by rw [HZ.out]; exact hlt), hT, hv]; omega
          rw [← hT] at hs
          have HT := Lib.hid hT2
          clear hv hT hT2 hcell hc
          have t1 : (wrap64 (wrap64 T - v) != wrap64 (wrap64 T + wrap64 (-v))) = false := by rw [wrap_sub, wrap_add_neg]; simp
          go_wp2_with fail
          refine (add_v mb st5 0 2 (wrap64 (-v)) _ _ hm (hs.caller (by omega) (by omega)) hs.given hs.2.2).mono ?_
          rintro e w6 ⟨rfl, hm6, hk6⟩
          have b6 := hk6.under hf bel.size
          have bel6 := bel.trans b6
          have hs6 := hs.add 0 (wrap64 (wrap64 T + wrap64 (-v)))
          have hcv6 : w6.cell? ⟨b, off + q, none⟩ = some (.int .i64 v) := (b6.cell (p := ⟨b, off + q, none⟩) hb).trans hcv
          clear hm hk6 bel hs b6 hcv
          go_wp2_with fail
          refine (load_v mb _ 1 2 (wrap64 (wrap64 T + wrap64 (-v))) _ hm6 (hs6.caller (by omega) (by omega)) hs6.given hs6.2.2).mono ?_
          rintro e w7 ⟨rfl, hm7, hk7⟩
          have b7 := hk7.under hf bel6.size
          have bel7 := bel6.trans b7
          have hs7 : AddsSt (wrap64 (psum z k - psum z (q + 1))) (((st5.did 0).putAt 2 (wrap64 (wrap64 T + wrap64 (-v)))).did 1) := by
            rw [HT.out, ← wrap_add_neg]; exact hs6.did 1
          have hcv7 : w7.cell? ⟨b, off + q, none⟩ = some (.int .i64 v) := (b7.cell (p := ⟨b, off + q, none⟩) hb).trans hcv6
          clear hm6 hk7 bel6 hs6 b7 hcv6
          go_wp2
          go_roundw
          case rel => exact ⟨q + 1, _, by omega, by go_num, hm7, hs7, bel7⟩
          case measure => simp [intOf]; omega
        · obtain rfl : q = k := by omega
          rw [Int.sub_self, wrap_zero] at hs
          have v3 := hs.2.2
          have V3 := Lib.hid v3
          clear v3 hs
          go_wp2_with fail
          refine (peek_any mb _ _ _ hm).mono ?_
          rw [V3.out]
          rintro e w6 ⟨rfl, rfl⟩
          clear V3
          go_wp2_with (go_at_call 15; refine (awake01_any _).mono ?_; rintro e w3 ⟨rfl, hb3⟩)
          go_ret
          exact ⟨rfl, bel.trans (hb3.mono bel.size)⟩

theorem cellsAdds_walk (W : World) (A : Option Addr) (n c : Nat) (z : List Int) (hmax : n ≤ maxLen) (F : Flat W A n z) (t : Int) (_w1 : (Lit.int .i64 t).wf = true) :
    Calls Try.prog 3 #[.slice A n c, .int .i64 t] W fun e w' => e = .returned (.bool true) ∧ Below W.heap.size W w' := by
  by_cases h : n ≤ 40 ∧ 0 ≤ t ∧ t ≤ n
  · obtain ⟨h1, h2, h3⟩ := h
    obtain ⟨q, rfl⟩ := Int.eq_ofNat_of_zero_le h2
    exact adds_good W A n c z q h1 F (by omega)
  · exact adds_bad W A n c t hmax (by omega)
end Go.Proofs.Ytelphbfdibfmoaa
