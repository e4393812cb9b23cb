/-
  WHAT IS PROVED HERE: the tree's operations that are refused: what 'may' tells is what they tell; and of a caller that may not call. Conditions: as in the contracts.
-/
import Derived.Test.YtkdpckoneohjkaaTreeB
namespace Go.Proofs.Ytkdpckoneohjkaa
open Go.RowKit

section
variable (tv mv : Value) (i s c : Int) (w : World) (hc : ¬ c = 0)
  (hmay : Calls Try.prog 60 #[tv, mv, .int .i64 s] w fun e w' => e = .returned (.int .i64 c) ∧ Below w.heap.size w w')
include hc hmay
theorem enter_stop : Calls Try.prog 46 #[tv, mv, .int .i64 i, .int .i64 s] w fun e w' => e = .returned (.int .i64 c) ∧ Below w.heap.size w w' := by
  have dc : (c != 0) = true := by simp [hc]
  go_enter Try.func46, Try.ntmps46
  go_wp2_with fail
  refine hmay.mono ?_
  rintro e w2 ⟨rfl, hb⟩
  go_wp2
  go_ret
  exact ⟨rfl, hb⟩
theorem leave_stop : Calls Try.prog 47 #[tv, mv, .int .i64 i, .int .i64 s] w fun e w' => e = .returned (.tuple #[.bool false, .int .i64 c]) ∧ Below w.heap.size w w' := by
  have dc : (c != 0) = true := by simp [hc]
  go_enter Try.func47, Try.ntmps47
  go_wp2_with fail
  refine hmay.mono ?_
  rintro e w2 ⟨rfl, hb⟩
  go_wp2
  go_ret2
  exact ⟨rfl, hb⟩
theorem live_stop : Calls Try.prog 48 #[tv, mv, .int .i64 i, .int .i64 s] w fun e w' => e = .returned (.tuple #[.int .i64 0, .int .i64 c]) ∧ Below w.heap.size w w' := by
  have dc : (c != 0) = true := by simp [hc]
  go_enter Try.func48, Try.ntmps48
  go_wp2_with fail
  refine hmay.mono ?_
  rintro e w2 ⟨rfl, hb⟩
  go_wp2
  go_ret2
  exact ⟨rfl, hb⟩
theorem ask_stop : Calls Try.prog 28 #[tv, mv, .int .i64 i, .int .i64 s] w fun e w' => e = .returned (.tuple #[.bool false, .int .i64 c]) ∧ Below w.heap.size w w' := by
  have dc : (c != 0) = true := by simp [hc]
  go_enter Try.func28, Try.ntmps28
  go_wp2_with fail
  refine hmay.mono ?_
  rintro e w2 ⟨rfl, hb⟩
  go_wp2
  go_ret2
  exact ⟨rfl, hb⟩
theorem asked_stop : Calls Try.prog 50 #[tv, mv, .int .i64 i, .int .i64 s] w fun e w' => e = .returned (.tuple #[.bool false, .int .i64 c]) ∧ Below w.heap.size w w' := by
  have dc : (c != 0) = true := by simp [hc]
  go_enter Try.func50, Try.ntmps50
  go_wp2_with fail
  refine hmay.mono ?_
  rintro e w2 ⟨rfl, hb⟩
  go_wp2
  go_ret2
  exact ⟨rfl, hb⟩
theorem open_stop : Calls Try.prog 45 #[tv, mv, .int .i64 i, .int .i64 s] w fun e w' => e = .returned (.tuple #[.int .i64 0, .int .i64 c]) ∧ Below w.heap.size w w' := by
  have dc : (c != 0) = true := by simp [hc]
  go_enter Try.func45, Try.ntmps45
  go_wp2_with fail
  refine hmay.mono ?_
  rintro e w2 ⟨rfl, hb⟩
  go_wp2
  go_ret2
  exact ⟨rfl, hb⟩
theorem peek_stop : Calls Try.prog 49 #[tv, mv, .int .i64 s] w fun e w' => e = .returned (.tuple #[.bool false, .int .i64 0]) ∧ Below w.heap.size w w' := by
  have dc : (c != 0) = true := by simp [hc]
  go_enter Try.func49, Try.ntmps49
  go_wp2_with fail
  refine hmay.mono ?_
  rintro e w2 ⟨rfl, hb⟩
  go_wp2
  go_ret2
  exact ⟨rfl, hb⟩
end
section
variable {W0 w : World} {mb : MB} {p g : Nat} {size : Int} {steps : List Int} {l : List Sc}
set_option maxHeartbeats 1000000 in
theorem sw_enter_no (h : SW W0 w mb p g size steps l) (i : Int) (h0 : ¬ (0 ≤ i ∧ i < steps.length)) (s : Nat) (n : Sc) (hn : l[s]? = some n) :
    Calls Try.prog 46 #[.pointer (some ⟨p, 0, none⟩), .pointer (some ⟨mb.p, 0, none⟩), .int .i64 i, .int .i64 s] w fun e w' =>
      e = .returned (.int .i64 10) ∧ SW W0 w' mb p g size steps l ∧ Kept mb.has w w' := by
  have hin := sc_in hn
  go_enter Try.func46, Try.ntmps46
  go_wp2_with fail
  refine (may_ok p g (scN l) ⟨mb.p, 0, none⟩ s _ h.t (sc_inN hn)).mono ?_
  rintro e w2 ⟨rfl, hb⟩
  have h2 := h.below hb
  have hk2 : Kept mb.has w w2 := Kept.of_below hb
  obtain ⟨cap, a, c0, c1, s0, s1, l1, l2, HA, a0, a1⟩ := h2.opens hin
  rw [Int.toNat_natCast] at c1
  have HH := Lib.hid h2
  have HN := Lib.hid hn
  clear h h2 hb hn hin
  go_wp2_with fail
  refine (add_no mb ⟨scC l, size, steps⟩ i (a + 1) 1 _ HH.out.m (.inl (scMS_nocaller h0))).mono ?_
  rintro e w3 ⟨rfl, hm3, hk3⟩
  go_wp2
  go_ret
  exact ⟨rfl, HH.out.op rfl hk3 hm3, hk2.trans hk3 (fun _ _ e => e)⟩
set_option maxHeartbeats 1000000 in
theorem sw_leave_no (h : SW W0 w mb p g size steps l) (i : Int) (h0 : ¬ (0 ≤ i ∧ i < steps.length)) (s : Nat) (n : Sc) (hn : l[s]? = some n) :
    Calls Try.prog 47 #[.pointer (some ⟨p, 0, none⟩), .pointer (some ⟨mb.p, 0, none⟩), .int .i64 i, .int .i64 s] w fun e w' =>
      e = .returned (.tuple #[.bool false, .int .i64 10]) ∧ SW W0 w' mb p g size steps l ∧ Kept mb.has w w' := by
  have hin := sc_in hn
  go_enter Try.func47, Try.ntmps47
  go_wp2_with fail
  refine (may_ok p g (scN l) ⟨mb.p, 0, none⟩ s _ h.t (sc_inN hn)).mono ?_
  rintro e w2 ⟨rfl, hb⟩
  have h2 := h.below hb
  have hk2 : Kept mb.has w w2 := Kept.of_below hb
  obtain ⟨cap, a, c0, c1, s0, s1, l1, l2, HA, a0, a1⟩ := h2.opens hin
  rw [Int.toNat_natCast] at c1
  have HH := Lib.hid h2
  have HN := Lib.hid hn
  clear h h2 hb hn hin
  go_wp2_with fail
  refine (add_no mb ⟨scC l, size, steps⟩ i (a + 1) (-1) _ HH.out.m (.inl (scMS_nocaller h0))).mono ?_
  rintro e w3 ⟨rfl, hm3, hk3⟩
  go_wp2
  go_ret2
  exact ⟨rfl, HH.out.op rfl hk3 hm3, hk2.trans hk3 (fun _ _ e => e)⟩
set_option maxHeartbeats 1000000 in
theorem sw_live_no (h : SW W0 w mb p g size steps l) (i : Int) (h0 : ¬ (0 ≤ i ∧ i < steps.length)) (s : Nat) (n : Sc) (hn : l[s]? = some n) :
    Calls Try.prog 48 #[.pointer (some ⟨p, 0, none⟩), .pointer (some ⟨mb.p, 0, none⟩), .int .i64 i, .int .i64 s] w fun e w' =>
      e = .returned (.tuple #[.int .i64 0, .int .i64 10]) ∧ SW W0 w' mb p g size steps l ∧ Kept mb.has w w' := by
  have hin := sc_in hn
  go_enter Try.func48, Try.ntmps48
  go_wp2_with fail
  refine (may_ok p g (scN l) ⟨mb.p, 0, none⟩ s _ h.t (sc_inN hn)).mono ?_
  rintro e w2 ⟨rfl, hb⟩
  have h2 := h.below hb
  have hk2 : Kept mb.has w w2 := Kept.of_below hb
  obtain ⟨cap, a, c0, c1, s0, s1, l1, l2, HA, a0, a1⟩ := h2.opens hin
  rw [Int.toNat_natCast] at c1
  have HH := Lib.hid h2
  have HN := Lib.hid hn
  clear h h2 hb hn hin
  go_wp2_with fail
  refine (load_no mb ⟨scC l, size, steps⟩ i (a + 1) _ HH.out.m (.inl (scMS_nocaller h0))).mono ?_
  rintro e w3 ⟨rfl, rfl⟩
  go_wp2
  go_ret2
  exact ⟨rfl, HH.out, hk2⟩
set_option maxHeartbeats 1000000 in
theorem sw_ask_no (h : SW W0 w mb p g size steps l) (i : Int) (h0 : ¬ (0 ≤ i ∧ i < steps.length)) (s : Nat) (n : Sc) (hn : l[s]? = some n) :
    Calls Try.prog 28 #[.pointer (some ⟨p, 0, none⟩), .pointer (some ⟨mb.p, 0, none⟩), .int .i64 i, .int .i64 s] w fun e w' =>
      e = .returned (.tuple #[.bool false, .int .i64 10]) ∧ SW W0 w' mb p g size steps l ∧ Kept mb.has w w' := by
  have hin := sc_in hn
  go_enter Try.func28, Try.ntmps28
  go_wp2_with fail
  refine (may_ok p g (scN l) ⟨mb.p, 0, none⟩ s _ h.t (sc_inN hn)).mono ?_
  rintro e w2 ⟨rfl, hb⟩
  have h2 := h.below hb
  have hk2 : Kept mb.has w w2 := Kept.of_below hb
  obtain ⟨cap, a, c0, c1, s0, s1, l1, l2, HA, a0, a1⟩ := h2.opens hin
  rw [Int.toNat_natCast] at c1
  have HH := Lib.hid h2
  have HN := Lib.hid hn
  clear h h2 hb hn hin
  go_wp2_with fail
  refine (cas_no mb ⟨scC l, size, steps⟩ i a 0 1 _ HH.out.m (.inl (scMS_nocaller h0))).mono ?_
  rintro e w3 ⟨rfl, rfl⟩
  go_wp2
  go_ret2
  exact ⟨rfl, HH.out, hk2⟩
set_option maxHeartbeats 1000000 in
theorem sw_asked_no (h : SW W0 w mb p g size steps l) (i : Int) (h0 : ¬ (0 ≤ i ∧ i < steps.length)) (s : Nat) (n : Sc) (hn : l[s]? = some n) :
    Calls Try.prog 50 #[.pointer (some ⟨p, 0, none⟩), .pointer (some ⟨mb.p, 0, none⟩), .int .i64 i, .int .i64 s] w fun e w' =>
      e = .returned (.tuple #[.bool false, .int .i64 10]) ∧ SW W0 w' mb p g size steps l ∧ Kept mb.has w w' := by
  have hin := sc_in hn
  go_enter Try.func50, Try.ntmps50
  go_wp2_with fail
  refine (may_ok p g (scN l) ⟨mb.p, 0, none⟩ s _ h.t (sc_inN hn)).mono ?_
  rintro e w2 ⟨rfl, hb⟩
  have h2 := h.below hb
  have hk2 : Kept mb.has w w2 := Kept.of_below hb
  obtain ⟨cap, a, c0, c1, s0, s1, l1, l2, HA, a0, a1⟩ := h2.opens hin
  rw [Int.toNat_natCast] at c1
  have HH := Lib.hid h2
  have HN := Lib.hid hn
  clear h h2 hb hn hin
  go_wp2_with fail
  refine (load_no mb ⟨scC l, size, steps⟩ i a _ HH.out.m (.inl (scMS_nocaller h0))).mono ?_
  rintro e w3 ⟨rfl, rfl⟩
  go_wp2
  go_ret2
  exact ⟨rfl, HH.out, hk2⟩
set_option maxRecDepth 20000 in
set_option maxHeartbeats 1000000 in
theorem sw_peek_ok (h : SW W0 w mb p g size steps l) (s : Nat) (n : Sc) (hn : l[s]? = some n) :
    Calls Try.prog 49 #[.pointer (some ⟨p, 0, none⟩), .pointer (some ⟨mb.p, 0, none⟩), .int .i64 s] w fun e w' =>
      e = .returned (.tuple #[.bool (decide (¬ n.ask = 0)), .int .i64 n.live]) ∧ SW W0 w' mb p g size steps l ∧ Below w.heap.size w w' := by
  have hin := sc_in hn
  go_enter Try.func49, Try.ntmps49
  go_wp2_with fail
  refine (may_ok p g (scN l) ⟨mb.p, 0, none⟩ s _ h.t (sc_inN hn)).mono ?_
  rintro e w2 ⟨rfl, hb⟩
  have h2 := h.below hb
  obtain ⟨cap, a, c0, c1, s0, s1, l1, l2, HA, a0, a1⟩ := h2.opens hin
  rw [Int.toNat_natCast] at c1
  have hm2 := h2.m
  obtain ⟨x, hx⟩ : ∃ x, n.ask = x := ⟨_, rfl⟩
  obtain ⟨y, hy⟩ : ∃ y, n.live = y := ⟨_, rfl⟩
  have v0 : (⟨scC l, size, steps⟩ : MS).cellOf a = x := by rw [HA.out, ← hx]; exact sc_ask hn
  have v1 : (⟨scC l, size, steps⟩ : MS).cellOf (a + 1) = y := by rw [HA.out, ← hy]; exact sc_live hn
  have HX := Lib.hid hx
  have HY := Lib.hid hy
  have HH := Lib.hid h2
  have HB := Lib.hid hb
  have V0 := Lib.hid v0
  have V1 := Lib.hid v1
  clear h h2 hb hn hin hx hy v0 v1
  by_cases e1 : x = 0
  · have e2 : (x != 0) = false := by simp [e1]
    have e3 : decide (¬ x = 0) = false := by simp [e1]
    go_wp2_with fail
    go_quiet (first | (go_at_call 56; first | with_reducible exact peek_quiet mb ⟨scC l, size, steps⟩ a x _ _ hm2 V0.out | with_reducible exact peek_quiet mb ⟨scC l, size, steps⟩ (a + 1) y _ _ hm2 V1.out))
    go_wp2
    go_ret2
    exact ⟨by rw [HX.out, HY.out]; first | rfl | simp [e1], HH.out.drewN _, below_drewN' HB.out _⟩
  · have e2 : (x != 0) = true := by simp [e1]
    have e3 : decide (¬ x = 0) = true := by simp [e1]
    go_wp2_with fail
    go_quiet (first | (go_at_call 56; first | with_reducible exact peek_quiet mb ⟨scC l, size, steps⟩ a x _ _ hm2 V0.out | with_reducible exact peek_quiet mb ⟨scC l, size, steps⟩ (a + 1) y _ _ hm2 V1.out))
    go_wp2
    go_ret2
    exact ⟨by rw [HX.out, HY.out]; first | rfl | simp [e1], HH.out.drewN _, below_drewN' HB.out _⟩
end
end Go.Proofs.Ytkdpckoneohjkaa
