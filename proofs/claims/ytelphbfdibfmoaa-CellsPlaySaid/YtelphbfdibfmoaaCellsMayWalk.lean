/-
  WHAT IS PROVED HERE: the walk of the law pelotonlaw01.CellsMay: it returns true, and what was there before the call stays. Conditions: the arguments are 64-bit numbers.
-/
import Derived.Test.YtelphbfdibfmoaaLaw01A
namespace Go.Proofs.Ytelphbfdibfmoaa
open Go.RowKit

def mayB (size workers : Int) : Bool := decide (1 ≤ size) && decide (size ≤ 1048576) && decide (1 ≤ workers) && decide (workers ≤ 16)

theorem may_any (size workers : Int) (w : World) :
    Calls Try.prog 21 #[.int .i64 size, .int .i64 workers] w fun e w' => e = .returned (.bool (mayB size workers)) ∧ w = w' := by
  by_cases h1 : 1 ≤ size
  · by_cases h2 : size ≤ 1048576
    · by_cases h3 : 1 ≤ workers
      · go_enter Try.func21, Try.ntmps21
        go_wp2
        go_ret
        exact ⟨ret_bool (by simp [mayB, h1, h2, h3]), rfl⟩
      · go_enter Try.func21, Try.ntmps21
        go_wp2
        go_ret
        exact ⟨ret_bool (by simp [mayB]; omega), rfl⟩
    · go_enter Try.func21, Try.ntmps21
      go_wp2
      go_ret
      exact ⟨ret_bool (by simp [mayB]; omega), rfl⟩
  · go_enter Try.func21, Try.ntmps21
    go_wp2
    go_ret
    exact ⟨ret_bool (by simp [mayB]; omega), rfl⟩

theorem fresh_caller {size : Int} {k : Nat} {i : Int} (h0 : 0 ≤ i) (h1 : i ≤ k) : (MS.fresh size k).isCaller i = true := by simp [MS.isCaller, MS.fresh]; omega
theorem fresh_steps (size : Int) (k : Nat) (i : Int) : (MS.fresh size k).stepsOf i = 0 := by
  unfold MS.stepsOf
  split
  · simp only [MS.fresh, List.getElem?_replicate]
    split <;> rfl
  · rfl
theorem more_zeros (st : MS) (n : Nat) (h : st.cells = []) (i : Int) : (st.more n).cellOf i = 0 := by
  unfold MS.cellOf
  split
  · simp only [MS.more, h, List.nil_append, List.getElem?_replicate]
    split <;> rfl
  · rfl

set_option maxHeartbeats 1000000 in
theorem may_bad (W : World) (size workers : Int) (h : mayB size workers = false) :
    Calls Try.prog 5 #[.int .i64 size, .int .i64 workers] W fun e w' => e = .returned (.bool true) ∧ Below W.heap.size W w' := by
  have hn : size < 1 ∨ 1048576 < size ∨ workers < 1 ∨ 16 < workers := by simp [mayB] at h; omega
  go_enter Try.func5, Try.ntmps5
  go_wp2_with fail
  refine (new_no size workers _ hn).mono ?_
  rintro e w1 ⟨rfl, rfl⟩
  clear hn
  go_wp2_with (first | (go_at_call 21; refine (may_any size workers _).mono ?_; rintro e w2 ⟨rfl, rfl⟩) | (go_at_call 15; refine (awake01_any _).mono ?_; rintro e w2 ⟨rfl, hb2⟩))
  go_ret
  exact ⟨rfl, hb2⟩

set_option maxHeartbeats 1000000 in
theorem may_good (W : World) (size workers : Int) (h : mayB size workers = true) :
    Calls Try.prog 5 #[.int .i64 size, .int .i64 workers] W fun e w' => e = .returned (.bool true) ∧ Below W.heap.size W w' := by
  have hn : 1 ≤ size ∧ size ≤ 1048576 ∧ 1 ≤ workers ∧ workers ≤ 16 := by simp [mayB] at h; omega
  obtain ⟨h1, h2, h3, h4⟩ := hn
  go_enter Try.func5, Try.ntmps5
  go_wp2_with fail
  refine (new_ok size workers _ h1 h2 h3 h4).mono ?_
  rintro e w1 ⟨p, s, rfl, hm, hk, hp, hs⟩
  have bel1 : Below W.heap.size W w1 := hk.below (Nat.le_refl _) (fun _ h => h.elim)
  have z0 := fresh_steps size workers.toNat 0
  have z1 : ((MS.fresh size workers.toNat).cells.length : Int) = 0 := rfl
  clear hk
  go_wp2_with (first | (go_at_call 21; refine (may_any size workers _).mono ?_; rintro e w2 ⟨rfl, rfl⟩) | (go_at_call 22; refine (used_any ⟨p, p, s⟩ _ _ hm).mono ?_; rintro e w2 ⟨rfl, rfl⟩) | (go_at_call 23; refine (steps_any ⟨p, p, s⟩ _ _ _ hm).mono ?_; rintro e w2 ⟨rfl, rfl⟩))
  refine (alloc_okI ⟨p, p, s⟩ _ workers size _ hm (fresh_caller (by omega) (by omega)) h1 (by rw [z1]; show 0 + size ≤ size; omega) h2).mono ?_
  rw [z1]
  rintro e w2 ⟨rfl, hk2, c, hc, hm2⟩
  have bel2 := bel1.trans (hk2.under (B := W.heap.size) ⟨hp, hp, hs⟩ bel1.size)
  have e2 : ((((MS.fresh size workers.toNat).did workers).more size.toNat).cells.length : Int) = size := by simp [MS.more, MS.did, MS.fresh]; omega
  have e3 : ((MS.fresh size workers.toNat).did workers).more size.toNat = { (((MS.fresh size workers.toNat).did workers).more size.toNat) with size := size } := rfl
  have z2 := more_zeros ((MS.fresh size workers.toNat).did workers) size.toNat rfl (size - 1)
  clear hm hk2 bel1 z0 z1
  go_wp2_with fail
  refine (alloc_full ⟨p, c, s⟩ _ 0 1 _ hm2 (by simp [MS.isCaller, MS.more, MS.did, MS.fresh]; omega) (by omega) (by rw [e2, e3]; show size < size + 1; omega) (by rw [e3]; show 0 ≤ size; omega) (by rw [e3]; exact h2)).mono ?_
  rintro e w3 ⟨rfl, rfl⟩
  clear e3
  go_wp2_with (first | (go_at_call 22; refine (used_any ⟨p, c, s⟩ _ _ hm2).mono ?_; rintro e w3 ⟨rfl, rfl⟩) | (go_at_call 17; refine (peek_any ⟨p, c, s⟩ _ _ _ hm2).mono ?_; rintro e w3 ⟨rfl, rfl⟩) | (go_at_call 15; refine (awake01_any _).mono ?_; rintro e w3 ⟨rfl, hb3⟩))
  go_ret
  exact ⟨rfl, bel2.trans (hb3.mono bel2.size)⟩

theorem cellsMay_walk (W : World) (a0 : Int) (_w0 : (Lit.int .i64 a0).wf = true) (a1 : Int) (_w1 : (Lit.int .i64 a1).wf = true) :
    Calls Try.prog 5 #[.int .i64 a0, .int .i64 a1] W fun e w' => e = .returned (.bool true) ∧ Below W.heap.size W w' := by
  cases h : mayB a0 a1 with
  | true => exact may_good W a0 a1 h
  | false => exact may_bad W a0 a1 h
end Go.Proofs.Ytelphbfdibfmoaa
