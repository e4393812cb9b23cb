/-
  WHAT IS PROVED HERE: the walk of the law pelotonlaw14.ScopeActs at a size that is too small or too big. Conditions: the arguments are 64-bit numbers.
-/
import Derived.Test.YtkdpckoneohjkaaSact
namespace Go.Proofs.Ytkdpckoneohjkaa
open Go.RowKit

set_option maxRecDepth 100000 in
set_option maxHeartbeats 4000000 in
theorem sacts_far (W : World) (sz : Int) (A : Option Addr) (n c : Nat) (hz : ¬ (2 ≤ sz ∧ sz ≤ 200 ∧ n ≤ 200)) :
    Calls Try.prog 10 #[.int .i64 sz, .slice A n c] W fun e w' => e = .returned (.bool true) ∧ Below W.heap.size W w' := by
  by_cases h1 : sz < 1
  · have d1 : decide (sz < 1) = true := by simp; omega
    clear h1 hz
    go_enter Try.func10, Try.ntmps10
    go_wp2_with (go_at_call 26; refine (awake14_any _).mono ?_; rintro e w9 ⟨rfl, hb9⟩)
    go_ret
    exact ⟨rfl, hb9⟩
  · have d1 : decide (sz < 1) = false := by simp; omega
    by_cases h2 : 200 < sz
    · have d2 : decide (200 < sz) = true := by simp; omega
      clear h1 h2 hz
      go_enter Try.func10, Try.ntmps10
      go_wp2_with (go_at_call 26; refine (awake14_any _).mono ?_; rintro e w9 ⟨rfl, hb9⟩)
      go_ret
      exact ⟨rfl, hb9⟩
    · have d2 : decide (200 < sz) = false := by simp; omega
      by_cases h3 : 200 < n
      · have d3 : decide ((200 : Int) < (n : Int)) = true := by simp; omega
        clear h1 h2 h3 hz
        go_enter Try.func10, Try.ntmps10
        go_wp2_with (go_at_call 26; refine (awake14_any _).mono ?_; rintro e w9 ⟨rfl, hb9⟩)
        go_ret
        exact ⟨rfl, hb9⟩
      · have d3 : decide ((200 : Int) < (n : Int)) = false := by simp; omega
        obtain rfl : sz = 1 := by omega
        clear h1 h2 h3 hz
        go_enter Try.func10, Try.ntmps10
        go_wp2_with fail
        refine (new_ok 1 2 _ (by omega) (by omega) (by omega) (by omega)).mono ?_
        rintro e w1 ⟨p, s0, rfl, hm1, hk1, hp, hs⟩
        have hb1 : Below W.heap.size W w1 := hk1.below (Nat.le_refl _) (fun _ h => h.elim)
        have hstop := tree_new_stop p 2 21 (by omega) w1 (alloc_full ⟨p, p, s0⟩ _ 2 2 w1 hm1 (by decide) (by omega) (by decide) (by decide) (by decide))
        clear hk1 hm1
        go_wp2_with fail
        refine hstop.mono ?_
        rintro e wn ⟨rfl, rfl⟩
        go_wp2_with (go_at_call 26; refine (awake14_any _).mono ?_; rintro e w9 ⟨rfl, hb9⟩)
        go_ret
        exact ⟨rfl, hb1.trans (hb9.mono hb1.size)⟩
end Go.Proofs.Ytkdpckoneohjkaa
