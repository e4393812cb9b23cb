/-
  WHAT IS PROVED HERE: the walk of the law pelotonlaw14.ScopeNil: it returns true, and what was there before the call stays. Conditions: the arguments are 64-bit numbers.
-/
import Derived.Test.YtkdpckoneohjkaaScopeNilA
import Derived.Test.YtkdpckoneohjkaaArgs
namespace Go.Proofs.Ytkdpckoneohjkaa
open Go.RowKit

theorem fresh_one : stepUp (MS.fresh 4 1).steps 1 = [0, 1] := by
  have h : wrap64 (0 + 1) = 1 := by unfold wrap64; omega
  show [0, wrap64 (0 + 1)] = [0, 1]
  rw [h]

set_option maxRecDepth 100000 in
set_option maxHeartbeats 4000000 in
theorem scopenil_zero (W : World) (i : Int) :
    Calls Try.prog 11 #[.int .i64 i, .int .i64 0] W fun e w' => e = .returned (.bool true) ∧ Below W.heap.size W w' := by
  go_enter Try.func11, Try.ntmps11
  go_wp2_with fail
  refine (new_ok 4 1 _ (by omega) (by omega) (by omega) (by omega)).mono ?_
  rintro e w1 ⟨p, s1, rfl, hm1, hk1, hp, hs1⟩
  have hb1 : Below W.heap.size W w1 := hk1.below (Nat.le_refl _) (fun _ h => h.elim)
  clear hk1
  go_wp2_with fail
  refine (tree_new (W0 := W) p s1 4 1 1 w1 hm1 hb1 hp hs1 (by omega) (by omega) (by omega) (by omega)).mono ?_
  rintro e w2 ⟨c, t, g, rfl, h2⟩
  rw [fresh_one] at h2
  have h2 : NS W w2 ⟨p, c, s1⟩ t g := h2
  clear hm1 hb1 hp hs1
  go_wp2_with fail
  refine (tree_new_nil i w2).mono ?_
  rintro e w3 ⟨rfl, rfl⟩
  go_wp2_with fail
  go_loopw [14] (fun q wr => ∃ j : Nat, q = .int .i64 j ∧ j ≤ 3 ∧ NS W wr ⟨p, c, s1⟩ t g) (fun q _ => 3 - (intOf q).toNat)
  case atStart => exact ⟨0, rfl, by omega, h2⟩
  case round =>
    clear h2
    obtain ⟨j, rfl, hj, hN⟩ := hrel
    have h4 : j = 0 ∨ j = 1 ∨ j = 2 ∨ j = 3 := by omega
    clear hj
    rcases h4 with rfl | rfl | rfl | rfl
    · go_wp2_with (first | (go_at_call 45; refine (n_open hN (refuses_nilT (some ⟨p, 0, none⟩) 0) (by omega) i).mono ?_; rintro e wn ⟨rfl, hN⟩) | (go_at_call 47; refine (n_leave hN (refuses_nilT (some ⟨p, 0, none⟩) 0) (by omega) i).mono ?_; rintro e wn ⟨rfl, hN⟩) | (go_at_call 48; refine (n_live hN (refuses_nilT (some ⟨p, 0, none⟩) 0) (by omega) i).mono ?_; rintro e wn ⟨rfl, hN⟩) | (go_at_call 28; refine (n_ask hN (refuses_nilT (some ⟨p, 0, none⟩) 0) (by omega) i).mono ?_; rintro e wn ⟨rfl, hN⟩) | (go_at_call 50; refine (n_asked hN (refuses_nilT (some ⟨p, 0, none⟩) 0) (by omega) i).mono ?_; rintro e wn ⟨rfl, hN⟩) | (go_at_call 46; refine (n_enter hN (refuses_nilT (some ⟨p, 0, none⟩) 0) (by omega) i).mono ?_; rintro e wn ⟨rfl, hN⟩) | (go_at_call 49; refine (n_peek hN (refuses_nilT (some ⟨p, 0, none⟩) 0) (by omega)).mono ?_; rintro e wn ⟨rfl, hN⟩))
      go_roundw
      case rel => exact ⟨1, rfl, by omega, hN⟩
      case measure => simp [intOf]
    · go_wp2_with (first | (go_at_call 45; refine (n_open hN (refuses_nilM 0) (by omega) i).mono ?_; rintro e wn ⟨rfl, hN⟩) | (go_at_call 47; refine (n_leave hN (refuses_nilM 0) (by omega) i).mono ?_; rintro e wn ⟨rfl, hN⟩) | (go_at_call 48; refine (n_live hN (refuses_nilM 0) (by omega) i).mono ?_; rintro e wn ⟨rfl, hN⟩) | (go_at_call 28; refine (n_ask hN (refuses_nilM 0) (by omega) i).mono ?_; rintro e wn ⟨rfl, hN⟩) | (go_at_call 50; refine (n_asked hN (refuses_nilM 0) (by omega) i).mono ?_; rintro e wn ⟨rfl, hN⟩) | (go_at_call 46; refine (n_enter hN (refuses_nilM 0) (by omega) i).mono ?_; rintro e wn ⟨rfl, hN⟩) | (go_at_call 49; refine (n_peek hN (refuses_nilM 0) (by omega)).mono ?_; rintro e wn ⟨rfl, hN⟩))
      go_roundw
      case rel => exact ⟨2, rfl, by omega, hN⟩
      case measure => simp [intOf]
    · go_wp2_with (first | (go_at_call 35; refine (len_nil _).mono ?_; rintro e wn ⟨rfl, rfl⟩) | (go_at_call 36; refine (parent_nil 0 _).mono ?_; rintro e wn ⟨rfl, hb⟩; have hN := hN.below hb; clear hb) | (go_at_call 31; refine (nest_nil 0 _).mono ?_; rintro e wn ⟨rfl, hb⟩; have hN := hN.below hb; clear hb) | (go_at_call 39; refine (inside_nil 0 0 _).mono ?_; rintro e wn ⟨rfl, hb⟩; have hN := hN.below hb; clear hb))
      refine (look_nil 0 _).mono ?_
      rintro e wn ⟨rfl, rfl⟩
      go_wp2_with fail
      refine (look_ok t g (scN [⟨-1, 0, 0, 0⟩]) 0 _ hN.t (by decide)).mono ?_
      rintro e wl ⟨b, rfl, hbs, hL, hb⟩
      have hN := hN.below hb
      clear hb
      go_wp2_with fail
      refine (step_nil (some ⟨p, 0, none⟩) i _).mono ?_
      rintro e wn ⟨rfl, rfl⟩
      go_wp2_with fail
      refine (step_nilM b i _).mono ?_
      rintro e wn ⟨rfl, rfl⟩
      go_wp2_with fail
      refine (used_any ⟨p, c, s1⟩ _ _ hN.m).mono ?_
      rintro e wn ⟨rfl, rfl⟩
      rw [show (((⟨scC [⟨-1, 0, 0, 0⟩], 4, [0, 1]⟩ : MS).cells.length : Nat) : Int) = 2 from rfl]
      go_wp2_with fail
      refine (steps_any ⟨p, c, s1⟩ _ 0 _ hN.m).mono ?_
      rintro e wn ⟨rfl, rfl⟩
      rw [show (⟨scC [⟨-1, 0, 0, 0⟩], 4, [0, 1]⟩ : MS).stepsOf 0 = 0 from rfl]
      go_wp2_with fail
      refine (steps_any ⟨p, c, s1⟩ _ 1 _ hN.m).mono ?_
      rintro e wn ⟨rfl, rfl⟩
      rw [show (⟨scC [⟨-1, 0, 0, 0⟩], 4, [0, 1]⟩ : MS).stepsOf 1 = 1 from rfl]
      have bel := hN.bel
      clear hN
      go_wp2_with fail
      refine (awake14_any _).mono ?_
      rintro e wn ⟨rfl, hb7⟩
      go_wp2
      go_ret
      exact ⟨rfl, bel.trans (hb7.mono bel.size)⟩
    · go_wp2_with (first | (go_at_call 35; refine (len_nil _).mono ?_; rintro e wn ⟨rfl, rfl⟩) | (go_at_call 36; refine (parent_nil 0 _).mono ?_; rintro e wn ⟨rfl, hb⟩; have hN := hN.below hb; clear hb) | (go_at_call 31; refine (nest_nil 0 _).mono ?_; rintro e wn ⟨rfl, hb⟩; have hN := hN.below hb; clear hb) | (go_at_call 39; refine (inside_nil 0 0 _).mono ?_; rintro e wn ⟨rfl, hb⟩; have hN := hN.below hb; clear hb))
      refine (look_nil 0 _).mono ?_
      rintro e wn ⟨rfl, rfl⟩
      go_wp2_with fail
      refine (look_ok t g (scN [⟨-1, 0, 0, 0⟩]) 0 _ hN.t (by decide)).mono ?_
      rintro e wl ⟨b, rfl, hbs, hL, hb⟩
      have hN := hN.below hb
      clear hb
      go_wp2_with fail
      refine (step_nil (some ⟨p, 0, none⟩) i _).mono ?_
      rintro e wn ⟨rfl, rfl⟩
      go_wp2_with fail
      refine (step_nilM b i _).mono ?_
      rintro e wn ⟨rfl, rfl⟩
      go_wp2_with fail
      refine (used_any ⟨p, c, s1⟩ _ _ hN.m).mono ?_
      rintro e wn ⟨rfl, rfl⟩
      rw [show (((⟨scC [⟨-1, 0, 0, 0⟩], 4, [0, 1]⟩ : MS).cells.length : Nat) : Int) = 2 from rfl]
      go_wp2_with fail
      refine (steps_any ⟨p, c, s1⟩ _ 0 _ hN.m).mono ?_
      rintro e wn ⟨rfl, rfl⟩
      rw [show (⟨scC [⟨-1, 0, 0, 0⟩], 4, [0, 1]⟩ : MS).stepsOf 0 = 0 from rfl]
      go_wp2_with fail
      refine (steps_any ⟨p, c, s1⟩ _ 1 _ hN.m).mono ?_
      rintro e wn ⟨rfl, rfl⟩
      rw [show (⟨scC [⟨-1, 0, 0, 0⟩], 4, [0, 1]⟩ : MS).stepsOf 1 = 1 from rfl]
      have bel := hN.bel
      clear hN
      go_wp2_with fail
      refine (awake14_any _).mono ?_
      rintro e wn ⟨rfl, hb7⟩
      go_wp2
      go_ret
      exact ⟨rfl, bel.trans (hb7.mono bel.size)⟩

set_option maxRecDepth 100000 in
set_option maxHeartbeats 4000000 in
theorem scopenil_other (W : World) (i s : Int) (hs : ¬ s = 0) :
    Calls Try.prog 11 #[.int .i64 i, .int .i64 s] W fun e w' => e = .returned (.bool true) ∧ Below W.heap.size W w' := by
  have ds : (s == 0) = false := by simp [hs]
  have HS := Lib.hid hs
  clear hs
  go_enter Try.func11, Try.ntmps11
  go_wp2_with fail
  refine (new_ok 4 1 _ (by omega) (by omega) (by omega) (by omega)).mono ?_
  rintro e w1 ⟨p, s1, rfl, hm1, hk1, hp, hs1⟩
  have hb1 : Below W.heap.size W w1 := hk1.below (Nat.le_refl _) (fun _ h => h.elim)
  clear hk1
  go_wp2_with fail
  refine (tree_new (W0 := W) p s1 4 1 1 w1 hm1 hb1 hp hs1 (by omega) (by omega) (by omega) (by omega)).mono ?_
  rintro e w2 ⟨c, t, g, rfl, h2⟩
  rw [fresh_one] at h2
  have h2 : NS W w2 ⟨p, c, s1⟩ t g := h2
  clear hm1 hb1 hp hs1
  go_wp2_with fail
  refine (tree_new_nil i w2).mono ?_
  rintro e w3 ⟨rfl, rfl⟩
  go_wp2_with fail
  go_loopw [14] (fun q wr => ∃ j : Nat, q = .int .i64 j ∧ j ≤ 3 ∧ NS W wr ⟨p, c, s1⟩ t g) (fun q _ => 3 - (intOf q).toNat)
  case atStart => exact ⟨0, rfl, by omega, h2⟩
  case round =>
    clear h2
    obtain ⟨j, rfl, hj, hN⟩ := hrel
    have h4 : j = 0 ∨ j = 1 ∨ j = 2 ∨ j = 3 := by omega
    clear hj
    rcases h4 with rfl | rfl | rfl | rfl
    · go_wp2_with (first | (go_at_call 45; refine (n_open hN (refuses_nilT (some ⟨p, 0, none⟩) s) (by omega) i).mono ?_; rintro e wn ⟨rfl, hN⟩) | (go_at_call 47; refine (n_leave hN (refuses_nilT (some ⟨p, 0, none⟩) s) (by omega) i).mono ?_; rintro e wn ⟨rfl, hN⟩) | (go_at_call 48; refine (n_live hN (refuses_nilT (some ⟨p, 0, none⟩) s) (by omega) i).mono ?_; rintro e wn ⟨rfl, hN⟩) | (go_at_call 28; refine (n_ask hN (refuses_nilT (some ⟨p, 0, none⟩) s) (by omega) i).mono ?_; rintro e wn ⟨rfl, hN⟩) | (go_at_call 50; refine (n_asked hN (refuses_nilT (some ⟨p, 0, none⟩) s) (by omega) i).mono ?_; rintro e wn ⟨rfl, hN⟩) | (go_at_call 46; refine (n_enter hN (refuses_nilT (some ⟨p, 0, none⟩) s) (by omega) i).mono ?_; rintro e wn ⟨rfl, hN⟩) | (go_at_call 49; refine (n_peek hN (refuses_nilT (some ⟨p, 0, none⟩) s) (by omega)).mono ?_; rintro e wn ⟨rfl, hN⟩))
      go_roundw
      case rel => exact ⟨1, rfl, by omega, hN⟩
      case measure => simp [intOf]
    · go_wp2_with (first | (go_at_call 45; refine (n_open hN (refuses_nilM s) (by omega) i).mono ?_; rintro e wn ⟨rfl, hN⟩) | (go_at_call 47; refine (n_leave hN (refuses_nilM s) (by omega) i).mono ?_; rintro e wn ⟨rfl, hN⟩) | (go_at_call 48; refine (n_live hN (refuses_nilM s) (by omega) i).mono ?_; rintro e wn ⟨rfl, hN⟩) | (go_at_call 28; refine (n_ask hN (refuses_nilM s) (by omega) i).mono ?_; rintro e wn ⟨rfl, hN⟩) | (go_at_call 50; refine (n_asked hN (refuses_nilM s) (by omega) i).mono ?_; rintro e wn ⟨rfl, hN⟩) | (go_at_call 46; refine (n_enter hN (refuses_nilM s) (by omega) i).mono ?_; rintro e wn ⟨rfl, hN⟩) | (go_at_call 49; refine (n_peek hN (refuses_nilM s) (by omega)).mono ?_; rintro e wn ⟨rfl, hN⟩))
      go_roundw
      case rel => exact ⟨2, rfl, by omega, hN⟩
      case measure => simp [intOf]
    · go_wp2_with (first | (go_at_call 45; refine (n_open hN (refuses_none s HS.out) (by omega) i).mono ?_; rintro e wn ⟨rfl, hN⟩) | (go_at_call 47; refine (n_leave hN (refuses_none s HS.out) (by omega) i).mono ?_; rintro e wn ⟨rfl, hN⟩) | (go_at_call 48; refine (n_live hN (refuses_none s HS.out) (by omega) i).mono ?_; rintro e wn ⟨rfl, hN⟩) | (go_at_call 28; refine (n_ask hN (refuses_none s HS.out) (by omega) i).mono ?_; rintro e wn ⟨rfl, hN⟩) | (go_at_call 50; refine (n_asked hN (refuses_none s HS.out) (by omega) i).mono ?_; rintro e wn ⟨rfl, hN⟩) | (go_at_call 46; refine (n_enter hN (refuses_none s HS.out) (by omega) i).mono ?_; rintro e wn ⟨rfl, hN⟩) | (go_at_call 49; refine (n_peek hN (refuses_none s HS.out) (by omega)).mono ?_; rintro e wn ⟨rfl, hN⟩))
      go_roundw
      case rel => exact ⟨3, rfl, by omega, hN⟩
      case measure => simp [intOf]
    · go_wp2_with (first | (go_at_call 35; refine (len_nil _).mono ?_; rintro e wn ⟨rfl, rfl⟩) | (go_at_call 36; refine (parent_nil s _).mono ?_; rintro e wn ⟨rfl, hb⟩; have hN := hN.below hb; clear hb) | (go_at_call 31; refine (nest_nil s _).mono ?_; rintro e wn ⟨rfl, hb⟩; have hN := hN.below hb; clear hb) | (go_at_call 39; refine (inside_nil s s _).mono ?_; rintro e wn ⟨rfl, hb⟩; have hN := hN.below hb; clear hb))
      refine (look_nil s _).mono ?_
      rintro e wn ⟨rfl, rfl⟩
      go_wp2_with fail
      refine (look_none t g (scN [⟨-1, 0, 0, 0⟩]) s _ hN.t (by have := HS.out; simp [inT, scN]; omega)).mono ?_
      rintro e wl ⟨rfl, hb⟩
      have hN := hN.below hb
      clear hb
      go_wp2_with fail
      refine (step_nil (some ⟨p, 0, none⟩) i _).mono ?_
      rintro e wn ⟨rfl, rfl⟩
      go_wp2_with fail
      refine (used_any ⟨p, c, s1⟩ _ _ hN.m).mono ?_
      rintro e wn ⟨rfl, rfl⟩
      rw [show (((⟨scC [⟨-1, 0, 0, 0⟩], 4, [0, 1]⟩ : MS).cells.length : Nat) : Int) = 2 from rfl]
      go_wp2_with fail
      refine (steps_any ⟨p, c, s1⟩ _ 0 _ hN.m).mono ?_
      rintro e wn ⟨rfl, rfl⟩
      rw [show (⟨scC [⟨-1, 0, 0, 0⟩], 4, [0, 1]⟩ : MS).stepsOf 0 = 0 from rfl]
      go_wp2_with fail
      refine (steps_any ⟨p, c, s1⟩ _ 1 _ hN.m).mono ?_
      rintro e wn ⟨rfl, rfl⟩
      rw [show (⟨scC [⟨-1, 0, 0, 0⟩], 4, [0, 1]⟩ : MS).stepsOf 1 = 1 from rfl]
      have bel := hN.bel
      clear hN
      go_wp2_with fail
      refine (awake14_any _).mono ?_
      rintro e wn ⟨rfl, hb7⟩
      go_wp2
      go_ret
      exact ⟨rfl, bel.trans (hb7.mono bel.size)⟩

theorem scopeNil_walk (W : World) (i : Int) (_w0 : (Lit.int .i64 i).wf = true) (s : Int) (_w1 : (Lit.int .i64 s).wf = true) :
    Calls Try.prog 11 #[.int .i64 i, .int .i64 s] W fun e w' => e = .returned (.bool true) ∧ Below W.heap.size W w' := by
  by_cases hs : s = 0
  · subst hs
    exact scopenil_zero W i
  · exact scopenil_other W i s hs
end Go.Proofs.Ytkdpckoneohjkaa
