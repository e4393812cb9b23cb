/-
  WHAT IS PROVED HERE: the contract of pelotonlaw14's awake: it returns true, and what was there before the call stays. Conditions: none.
-/
import Derived.Test.YtkdpckoneohjkaaLooks
namespace Go.Proofs.Ytkdpckoneohjkaa
open Go.RowKit

def aw2 : List Sc := [⟨-1, 0, 0, 0⟩, ⟨0, 1, 0, 0⟩]
def aw3 : List Sc := [⟨-1, 0, 0, 0⟩, ⟨0, 1, 0, 0⟩, ⟨1, 2, 0, 0⟩]
def aw4 : List Sc := [⟨-1, 0, 0, 0⟩, ⟨0, 1, 0, 0⟩, ⟨1, 2, 0, 0⟩, ⟨0, 1, 0, 0⟩]
def aw5 : List Sc := [⟨-1, 0, 0, 0⟩, ⟨0, 1, 1, 0⟩, ⟨1, 2, 0, 0⟩, ⟨0, 1, 0, 0⟩]
theorem wfs_aw4 : WfS aw4 := by
  have h2 : WfS aw2 := WfS.one.add (s := 0) (n := ⟨-1, 0, 0, 0⟩) rfl (by decide) 0 0
  have h3 : WfS aw3 := h2.add (s := 1) (n := ⟨0, 1, 0, 0⟩) rfl (by decide) 0 0
  exact h3.add (s := 0) (n := ⟨-1, 0, 0, 0⟩) rfl (by decide) 0 0
theorem outs_aw4 : outs aw4 2 = [2, 1, 0] ∧ outs aw4 3 = [3, 0] := by
  have h := wfs_aw4
  have e0 : outs aw4 0 = [0] := h.outs_zero
  have e1 : outs aw4 1 = [1, 0] := by
    have := h.outs_eq (s := 1) (n := ⟨0, 1, 0, 0⟩) rfl
    rw [show ((1 : Nat) : Int) = 1 from rfl, e0] at this
    exact this
  have e2 : outs aw4 2 = [2, 1, 0] := by
    have := h.outs_eq (s := 2) (n := ⟨1, 2, 0, 0⟩) rfl
    rw [show ((2 : Nat) : Int) = 2 from rfl, e1] at this
    exact this
  have e3 : outs aw4 3 = [3, 0] := by
    have := h.outs_eq (s := 3) (n := ⟨0, 1, 0, 0⟩) rfl
    rw [show ((3 : Nat) : Int) = 3 from rfl, e0] at this
    exact this
  exact ⟨e2, e3⟩

theorem ins_aw4 : true = insS aw4 2 1 ∧ false = insS aw4 3 1 := by
  refine ⟨?_, ?_⟩
  · unfold insS
    rw [outs_aw4.1]
    decide
  · unfold insS
    rw [outs_aw4.2]
    decide
set_option maxRecDepth 100000 in
set_option maxHeartbeats 4000000 in
theorem awake14_any (W : World) :
    Calls Try.prog 26 #[] W fun e w' => e = .returned (.bool true) ∧ Below W.heap.size W w' := by
  go_enter Try.func26, Try.ntmps26
  go_wp2_with fail
  refine (new_ok 8 1 _ (by omega) (by omega) (by omega) (by omega)).mono ?_
  rintro e w1 ⟨p, s, rfl, hm1, hk1, hp, hs⟩
  have hb1 : Below W.heap.size W w1 := hk1.below (Nat.le_refl _) (fun _ h => h.elim)
  clear hk1
  go_wp2_with fail
  refine (sd_new (W0 := W) p s 8 1 0 w1 hm1 hb1 hp hs (by omega) (by omega) (by omega) (by omega)).mono ?_
  rintro e w2 ⟨c, t, g, rfl, h2⟩
  clear hm1 hb1 hp hs
  go_wp2_with fail
  refine (sd_open h2 0 (by omega) (by omega) (by omega) 0 ⟨-1, 0, 0, 0⟩ rfl (by decide) (by decide) (by simp) (by simp)).mono ?_
  rintro e w3 ⟨c3, g3, rfl, h3, _, _⟩
  have h3 : SD W w3 ⟨p, c3, s⟩ t g3 8 2 2 aw2 := h3
  clear h2
  go_wp2_with fail
  refine (sd_open h3 0 (by omega) (by omega) (by omega) 1 ⟨0, 1, 0, 0⟩ rfl (by decide) (by decide) (by simp [aw2]) (by simp [aw2])).mono ?_
  rintro e w4 ⟨c4, g4, rfl, h4, _, _⟩
  have h4 : SD W w4 ⟨p, c4, s⟩ t g4 8 2 3 aw3 := h4
  clear h3
  rw [show ((aw2).length : Int) = 2 from rfl]
  go_wp2_with fail
  refine (sd_open h4 0 (by omega) (by omega) (by omega) 0 ⟨-1, 0, 0, 0⟩ rfl (by decide) (by decide) (by simp [aw3]) (by simp [aw3])).mono ?_
  rintro e w5 ⟨c5, g5, rfl, h5, _, _⟩
  have h5 : SD W w5 ⟨p, c5, s⟩ t g5 8 2 4 aw4 := h5
  clear h4
  rw [show ((aw3).length : Int) = 3 from rfl]
  go_wp2_with fail
  refine (sd_nest h5 2).mono ?_
  rintro e w6 ⟨rfl, h6, _⟩
  rw [show nestOf (scN aw4) 2 = 2 from rfl]
  clear h5
  go_wp2_with fail
  refine (sd_inside h6 wfs_aw4 2 1 true ins_aw4.1).mono ?_
  rintro e w7 ⟨rfl, h7, _⟩
  clear h6
  go_wp2_with fail
  refine (sd_inside h7 wfs_aw4 3 1 false ins_aw4.2).mono ?_
  rintro e w8 ⟨rfl, h8, _⟩
  clear h7
  go_wp2_with fail
  refine (sd_ask h8 0 (by omega) (by omega) (by omega) 1 ⟨0, 1, 0, 0⟩ rfl).mono ?_
  rintro e w9 ⟨rfl, h9, _⟩
  have h9 : SD W w9 ⟨p, c5, s⟩ t g5 8 2 5 aw5 := h9
  clear h8
  go_wp2_with fail
  refine (sd_ask h9 1 (by omega) (by omega) (by omega) 1 ⟨0, 1, 1, 0⟩ rfl).mono ?_
  rintro e w10 ⟨rfl, h10, _⟩
  have h10 : SD W w10 ⟨p, c5, s⟩ t g5 8 2 6 aw5 := h10
  clear h9
  go_wp2_with fail
  refine (slooks_ok h10 2 1 ⟨1, 2, 0, 0⟩ ⟨0, 1, 1, 0⟩ rfl rfl (by omega) rfl rfl true (by decide) (by decide) (by omega) (by omega)).mono ?_
  rintro e w11 ⟨rfl, h11⟩
  clear h10
  go_wp2_with fail
  refine (slooks_ok h11 3 0 ⟨0, 1, 0, 0⟩ ⟨-1, 0, 0, 0⟩ rfl rfl (by omega) rfl rfl false (by decide) (by decide) (by omega) (by omega)).mono ?_
  rintro e w12 ⟨rfl, h12⟩
  have bel := h12.bel
  clear h11 h12
  go_wp2
  go_ret
  exact ⟨rfl, bel⟩
end Go.Proofs.Ytkdpckoneohjkaa
