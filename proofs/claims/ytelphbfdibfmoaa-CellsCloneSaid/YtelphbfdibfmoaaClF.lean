/-
  WHAT IS PROVED HERE: contracts of the law's own small functions 'awake' (it answers true) and 'made' (a machine of 16 cells, all given away). Conditions: none.
-/
import Derived.Test.YtelphbfdibfmoaaClE
namespace Go.Proofs.Ytelphbfdibfmoaa
open Go.RowKit

def MS.made16 : MS := ⟨List.replicate 16 0, 16, [0, 0, 0, 1]⟩
theorem made16_eq : ((MS.fresh 16 3).did 3).more 16 = MS.made16 := by
  simp [MS.fresh, MS.did, MS.more, MS.made16, wrap64, List.replicate]

set_option maxHeartbeats 400000 in
theorem made_any (w : World) :
    Calls Try.prog 14 #[] w fun e w' => ∃ mb : MB,
      e = .returned (.pointer (some ⟨mb.p, 0, none⟩)) ∧ MachCP w' mb MS.made16 ∧ Below w.heap.size w w' ∧ mb.from_ w.heap.size := by
  go_enter Try.func14, Try.ntmps14
  go_wp2_with fail
  refine (new_ok 16 3 _ (by omega) (by omega) (by omega) (by omega)).mono ?_
  rintro e w1 ⟨p, s, rfl, hm1, hk1, hp, hs⟩
  go_wp2_with fail
  refine (alloc_okI ⟨p, p, s⟩ (MS.fresh 16 3) 3 16 _ hm1 rfl (by omega) (by decide) (by decide)).mono ?_
  rintro e w2 ⟨rfl, hk2, c, hc, hm2⟩
  have hb2 : Below w.heap.size w w2 := (hk1.below (Nat.le_refl _) (fun _ h => h.elim)).trans (hk2.under (B := w.heap.size) ⟨hp, hp, hs⟩ hk1.size)
  have hcc : w.heap.size ≤ c := Nat.le_trans hk1.size hc
  clear hm1 hk1 hk2
  go_wp2
  go_ret
  exact ⟨⟨p, c, s⟩, rfl, made16_eq ▸ hm2, hb2, hp, hcc, hs⟩

theorem st_eq {a b : MS} (h1 : a.cells = b.cells) (h2 : a.size = b.size) (h3 : a.steps = b.steps) : a = b := by
  cases a; cases b; simp_all

set_option maxHeartbeats 1000000 in
theorem awake01_any (w : World) :
    Calls Try.prog 15 #[] w fun e w' => e = .returned (.bool true) ∧ Below w.heap.size w w' := by
  go_enter Try.func15, Try.ntmps15
  go_wp2_with fail
  refine (new_ok 8 2 _ (by omega) (by omega) (by omega) (by omega)).mono ?_
  rintro e w1 ⟨p, s, rfl, hm1, hk1, hp, hs⟩
  have hb1 : Below w.heap.size w w1 := hk1.below (Nat.le_refl _) (fun _ h => h.elim)
  have e1 : MS.fresh 8 (2 : Int).toNat = ⟨[], 8, [0, 0, 0]⟩ := rfl
  rw [e1] at hm1
  clear hk1 e1
  go_wp2_with fail
  refine (alloc_okI ⟨p, p, s⟩ _ 0 3 _ hm1 rfl (by omega) (by decide) (by decide)).mono ?_
  rintro e w2 ⟨rfl, hk2, c2, hc2, hm2⟩
  have hb2 := hb1.trans (hk2.under (B := w.heap.size) ⟨hp, hp, hs⟩ hb1.size)
  have hcc2 : w.heap.size ≤ c2 := Nat.le_trans hb1.size hc2
  have e2 : (MS.did ⟨[], 8, [0, 0, 0]⟩ 0).more (3 : Int).toNat = ⟨[0, 0, 0], 8, [1, 0, 0]⟩ := by simp [MS.did, MS.more, wrap64, List.replicate]
  rw [e2] at hm2
  clear hk2 e2 hm1 hb1 hc2
  go_wp2_with fail
  refine (alloc_okI ⟨p, c2, s⟩ _ 2 2 _ hm2 rfl (by omega) (by decide) (by decide)).mono ?_
  rintro e w3 ⟨rfl, hk3, c3, hc3, hm3⟩
  have hb3 := hb2.trans (hk3.under (B := w.heap.size) ⟨hp, hcc2, hs⟩ hb2.size)
  have hcc3 : w.heap.size ≤ c3 := Nat.le_trans hb2.size hc3
  have e3 : (MS.did ⟨[0, 0, 0], 8, [1, 0, 0]⟩ 2).more (2 : Int).toNat = ⟨[0, 0, 0, 0, 0], 8, [1, 0, 1]⟩ := by simp [MS.did, MS.more, wrap64, List.replicate]
  rw [e3] at hm3
  clear hk3 e3 hm2 hb2 hc3
  go_wp2_with fail
  refine (add_ok ⟨p, c3, s⟩ _ 1 4 5 _ hm3 rfl rfl).mono ?_
  rintro e w4 ⟨rfl, hm4, hk4⟩
  have hb4 := hb3.trans (hk4.under (B := w.heap.size) ⟨hp, hcc3, hs⟩ hb3.size)
  have e4 : ((MS.did ⟨[0, 0, 0, 0, 0], 8, [1, 0, 1]⟩ 1).putAt 4 (wrap64 (MS.cellOf ⟨[0, 0, 0, 0, 0], 8, [1, 0, 1]⟩ 4 + 5))) = ⟨[0, 0, 0, 0, 5], 8, [1, 1, 1]⟩ := by simp [MS.did, MS.putAt, MS.cellOf, wrap64]
  rw [e4] at hm4
  clear hk4 e4 hm3 hb3
  go_wp2_with fail
  refine (cas_hit ⟨p, c3, s⟩ _ 0 4 5 9 _ hm4 rfl rfl rfl).mono ?_
  rintro e w5 ⟨rfl, hm5, hk5⟩
  have hb5 := hb4.trans (hk5.under (B := w.heap.size) ⟨hp, hcc3, hs⟩ hb4.size)
  have e5 : ((MS.did ⟨[0, 0, 0, 0, 5], 8, [1, 1, 1]⟩ 0).putAt 4 9) = ⟨[0, 0, 0, 0, 9], 8, [2, 1, 1]⟩ := by simp [MS.did, MS.putAt, wrap64]
  rw [e5] at hm5
  clear hk5 e5 hm4 hb4
  go_wp2_with fail
  refine (load_ok ⟨p, c3, s⟩ _ 1 4 _ hm5 rfl rfl).mono ?_
  rintro e w6 ⟨rfl, hm6, hk6⟩
  have hb6 := hb5.trans (hk6.under (B := w.heap.size) ⟨hp, hcc3, hs⟩ hb5.size)
  have e6 : (MS.did ⟨[0, 0, 0, 0, 9], 8, [2, 1, 1]⟩ 1) = ⟨[0, 0, 0, 0, 9], 8, [2, 2, 1]⟩ := by simp [MS.did, wrap64]
  rw [e6] at hm6
  clear hk6 e6 hm5 hb5
  have v6 : MS.cellOf ⟨[0, 0, 0, 0, 9], 8, [2, 1, 1]⟩ 4 = 9 := by simp [MS.cellOf]
  have v4 : MS.cellOf ⟨[0, 0, 0, 0, 0], 8, [1, 0, 1]⟩ 4 = 0 := by simp [MS.cellOf]
  have t0 : MS.stepsOf ⟨[0, 0, 0, 0, 9], 8, [2, 2, 1]⟩ 0 = 2 := by simp [MS.stepsOf]
  have t1 : MS.stepsOf ⟨[0, 0, 0, 0, 9], 8, [2, 2, 1]⟩ 1 = 2 := by simp [MS.stepsOf]
  have t2 : MS.stepsOf ⟨[0, 0, 0, 0, 9], 8, [2, 2, 1]⟩ 2 = 1 := by simp [MS.stepsOf]
  go_wp2_with (go_at_call 23; refine (steps_any ⟨p, c3, s⟩ _ _ _ hm6).mono ?_; rintro e w' ⟨rfl, rfl⟩)
  go_ret
  exact ⟨rfl, hb6⟩
theorem made_caller {i : Int} (h0 : 0 ≤ i) (h1 : i ≤ 3) : MS.made16.isCaller i = true := by simp [MS.isCaller, MS.made16]; omega
theorem made_given {i : Int} (h0 : 0 ≤ i) (h1 : i ≤ 15) : MS.made16.isGiven i = true := by simp [MS.isGiven, MS.made16]; omega
theorem made_cellOf (i : Int) : MS.made16.cellOf i = 0 := by
  unfold MS.cellOf
  split
  · rename_i h
    simp only [MS.made16, List.length_replicate] at h
    simp only [MS.made16, List.getElem?_replicate]
    rw [if_pos (by omega)]
    rfl
  · rfl
end Go.Proofs.Ytelphbfdibfmoaa
