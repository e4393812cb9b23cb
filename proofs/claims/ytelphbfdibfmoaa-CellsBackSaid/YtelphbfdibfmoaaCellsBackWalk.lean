/-
  WHAT IS PROVED HERE: the walk of the law pelotonlaw01.CellsBack: it returns true, and what was there before the call stays. Conditions: the arguments are 64-bit numbers.
-/
import Derived.Test.YtelphbfdibfmoaaLaw01A
namespace Go.Proofs.Ytelphbfdibfmoaa
open Go.RowKit

set_option maxHeartbeats 1000000 in
theorem back_bad (W : World) (a0 a1 b0 b1 x : Int) (h : a0 < 0 ∨ (0 ≤ a0 ∧ 15 < a0) ∨ (0 ≤ a0 ∧ a0 ≤ 15 ∧ a1 < 0) ∨ (0 ≤ a0 ∧ a0 ≤ 15 ∧ 0 ≤ a1 ∧ 15 < a1) ∨ (0 ≤ a0 ∧ a0 ≤ 15 ∧ 0 ≤ a1 ∧ a1 ≤ 15 ∧ b0 < 0) ∨ (0 ≤ a0 ∧ a0 ≤ 15 ∧ 0 ≤ a1 ∧ a1 ≤ 15 ∧ 0 ≤ b0 ∧ 3 < b0) ∨
      (0 ≤ a0 ∧ a0 ≤ 15 ∧ 0 ≤ a1 ∧ a1 ≤ 15 ∧ 0 ≤ b0 ∧ b0 ≤ 3 ∧ b1 < 0) ∨ (0 ≤ a0 ∧ a0 ≤ 15 ∧ 0 ≤ a1 ∧ a1 ≤ 15 ∧ 0 ≤ b0 ∧ b0 ≤ 3 ∧ 0 ≤ b1 ∧ 3 < b1)) :
    Calls Try.prog 4 #[.agg #[.int .i64 a0, .int .i64 a1], .agg #[.int .i64 b0, .int .i64 b1], .int .i64 x] W fun e w' => e = .returned (.bool true) ∧ Below W.heap.size W w' := by
  rcases h with h1 | ⟨h1, h2⟩ | ⟨h1, h2, h3⟩ | ⟨h1, h2, h3, h4⟩ | ⟨h1, h2, h3, h4, h5⟩ | ⟨h1, h2, h3, h4, h5, h6⟩ | ⟨h1, h2, h3, h4, h5, h6, h7⟩ | ⟨h1, h2, h3, h4, h5, h6, h7, h8⟩
  all_goals
    go_enter Try.func4, Try.ntmps4
    go_wp2_with fail
    refine (made_any _).mono ?_
    rintro e w1 ⟨mb, rfl, hm, hb, hf⟩
    have qa := (((Blk.new W 32 [.int .i64 a0, .int .i64 a1]).alloc (.cells #[.int .i64 b0, .int .i64 b1] 32)).under hb (by simp; omega)).cell
    have qb0 := (Blk.new (W.alloc (.cells #[.int .i64 a0, .int .i64 a1] 32)) 32 [.int .i64 b0, .int .i64 b1]).under hb (by simp)
    rw [World.size_alloc] at qb0
    have qb := qb0.cell
    have bel : Below W.heap.size W w1 := ((((Below.refl _ W).alloc (Nat.le_refl _) _).alloc (by simp) _).trans (hb.mono (by simp; omega)))
    clear hb qb0 hm hf
    go_wp2_with (go_at_call 15; refine (awake01_any _).mono ?_; rintro e w2 ⟨rfl, hb2⟩)
    go_ret
    exact ⟨rfl, bel.trans (hb2.mono bel.size)⟩

set_option maxHeartbeats 2000000 in
theorem back_good (W : World) (a0 a1 b0 b1 x : Int) (h1 : 0 ≤ a0) (h2 : a0 ≤ 15) (h3 : 0 ≤ a1) (h4 : a1 ≤ 15) (h5 : 0 ≤ b0) (h6 : b0 ≤ 3) (h7 : 0 ≤ b1) (h8 : b1 ≤ 3) :
    Calls Try.prog 4 #[.agg #[.int .i64 a0, .int .i64 a1], .agg #[.int .i64 b0, .int .i64 b1], .int .i64 x] W fun e w' => e = .returned (.bool true) ∧ Below W.heap.size W w' := by
  go_enter Try.func4, Try.ntmps4
  go_wp2_with fail
  refine (made_any _).mono ?_
  rintro e w1 ⟨mb, rfl, hm, hb, hf⟩
  have hf' : mb.from_ (W.heap.size + 1 + 1) := by simpa using hf
  have qa := ((Blk.new W 32 [.int .i64 a0, .int .i64 a1]).alloc (.cells #[.int .i64 b0, .int .i64 b1] 32)).under hb (by simp; omega)
  have qb := (Blk.new (W.alloc (.cells #[.int .i64 a0, .int .i64 a1] 32)) 32 [.int .i64 b0, .int .i64 b1]).under hb (by simp)
  rw [World.size_alloc] at qb
  have ra := qa.cell
  have rb := qb.cell
  have bel : Below W.heap.size W w1 := ((((Below.refl _ W).alloc (Nat.le_refl _) _).alloc (by simp) _).trans (hb.mono (by simp; omega)))
  have sz : W.heap.size + 1 + 1 ≤ w1.heap.size := by simpa using hb.size
  clear hb hf
  go_wp2_with fail
  refine (store_ok mb MS.made16 b0 a0 x _ hm (made_caller h5 h6) (made_given h1 h2)).mono ?_
  rintro e w2 ⟨rfl, hm2, hk2⟩
  have hb2 := hk2.under hf' sz
  have bel2 := bel.trans (hb2.mono (by omega))
  have qa2 := qa.under hb2 (by omega)
  have qb2 := qb.under hb2 (by omega)
  have ra2 := qa2.cell
  have rb2 := qb2.cell
  have sz2 := Nat.le_trans sz hb2.size
  clear ra rb qa qb hm hk2 hb2 bel sz
  go_wp2_with fail
  refine (load_v mb _ b1 a0 x _ hm2 (by rw [isCaller_put, isCaller_did]; exact made_caller h7 h8) (by rw [isGiven_put, isGiven_did]; exact made_given h1 h2) (cellOf_put_same _ _ _ (made_given h1 h2))).mono ?_
  rintro e w3 ⟨rfl, hm3, hk3⟩
  have hb3 := hk3.under hf' sz2
  have bel3 := bel2.trans (hb3.mono (by omega))
  have qa3 := qa2.under hb3 (by omega)
  have qb3 := qb2.under hb3 (by omega)
  have ra3 := qa3.cell
  have rb3 := qb3.cell
  have sz3 := Nat.le_trans sz2 hb3.size
  clear ra2 rb2 qa2 qb2 hm2 hk3 hb3 bel2 sz2
  go_wp2_with fail
  have g1 : MS.isCaller (((MS.made16.did b0).putAt a0 x).did b1) b1 = true := by rw [isCaller_did, isCaller_put, isCaller_did]; exact made_caller h7 h8
  have g2 : MS.isGiven (((MS.made16.did b0).putAt a0 x).did b1) a1 = true := by rw [isGiven_did, isGiven_put, isGiven_did]; exact made_given h3 h4
  by_cases h : a0 = a1
  · subst h
    refine (load_v mb _ b1 a0 x _ hm3 g1 g2 (cellOf_put_same _ _ _ (made_given h1 h2))).mono ?_
    clear g1 g2
    rintro e w4 ⟨rfl, hm4, hk4⟩
    have hb4 := hk4.under hf' sz3
    have bel4 := bel3.trans (hb4.mono (by omega))
    have ra4 := (qa3.under hb4 (by omega)).cell
    clear ra3 rb3 qa3 qb3 hm3 hk4 hb4 bel3 sz3
    by_cases hx : x = 0
    · subst hx
      go_wp2_with (go_at_call 15; refine (awake01_any _).mono ?_; rintro e w5 ⟨rfl, hb5⟩)
      go_ret
      exact ⟨rfl, bel4.trans (hb5.mono bel4.size)⟩
    · have hx' : (x == 0) = false := by simpa using hx
      clear hx
      go_wp2_with (go_at_call 15; refine (awake01_any _).mono ?_; rintro e w5 ⟨rfl, hb5⟩)
      go_ret
      exact ⟨rfl, bel4.trans (hb5.mono bel4.size)⟩
  · refine (load_v mb _ b1 a1 0 _ hm3 g1 g2 (by rw [MS.cellOf_did, cellOf_put_other _ _ _ _ (Ne.symm h) (by rw [isGiven_did]; exact made_given h1 h2), MS.cellOf_did, made_cellOf])).mono ?_
    clear g1 g2
    rintro e w4 ⟨rfl, hm4, hk4⟩
    have hb4 := hk4.under hf' sz3
    have bel4 := bel3.trans (hb4.mono (by omega))
    have ra4 := (qa3.under hb4 (by omega)).cell
    clear ra3 rb3 qa3 qb3 hm3 hk4 hb4 bel3 sz3 h
    go_wp2_with (go_at_call 15; refine (awake01_any _).mono ?_; rintro e w5 ⟨rfl, hb5⟩)
    go_ret
    exact ⟨rfl, bel4.trans (hb5.mono bel4.size)⟩

theorem cellsBack_walk (W : World) (z0 : List Int) (l0 : z0.length = 2) (_w0 : ∀ z ∈ z0, (Lit.int .i64 z).wf = true) (z1 : List Int) (l1 : z1.length = 2) (_w1 : ∀ z ∈ z1, (Lit.int .i64 z).wf = true) (x : Int) (_w2 : (Lit.int .i64 x).wf = true) :
    Calls Try.prog 4 #[.agg (z0.map (Value.int .i64)).toArray, .agg (z1.map (Value.int .i64)).toArray, .int .i64 x] W fun e w' => e = .returned (.bool true) ∧ Below W.heap.size W w' := by
  obtain ⟨a0, a1, rfl⟩ := arr2 l0
  obtain ⟨b0, b1, rfl⟩ := arr2 l1
  by_cases h : 0 ≤ a0 ∧ a0 ≤ 15 ∧ 0 ≤ a1 ∧ a1 ≤ 15 ∧ 0 ≤ b0 ∧ b0 ≤ 3 ∧ 0 ≤ b1 ∧ b1 ≤ 3
  · obtain ⟨h1, h2, h3, h4, h5, h6, h7, h8⟩ := h
    exact back_good W a0 a1 b0 b1 x h1 h2 h3 h4 h5 h6 h7 h8
  · exact back_bad W a0 a1 b0 b1 x (by omega)
end Go.Proofs.Ytelphbfdibfmoaa
