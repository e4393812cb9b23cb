/-
  WHAT IS PROVED HERE: the contracts of pelotonlaw12's same and of the reference's Bits, Members (pelotonref12). Conditions: the slices are rows of numbers.
-/
import Derived.Test.YtkilghhknimolaaDoorListB
import Derived.Test.YtkilghhknimolaaDoorMs
namespace Go.Proofs.YtkilghhknimolaaDoor
open Go.RowKit

def bvs (l : List Bool) : List Value := l.map Value.bool
theorem length_bvs (l : List Bool) : (bvs l).length = l.length := by simp [bvs]
theorem get_bvs (l : List Bool) (i : Nat) : (bvs l)[i]? = l[i]?.map Value.bool := by simp [bvs]
theorem Rw.take {w : World} {g cap : Nat} {t : TypeId} {cs : List Value} (h : Rw w g cap t cs) (n : Nat) : Rw w g cap t (cs.take n) := by
  obtain ⟨rest, hb, h1, h2⟩ := h
  refine ⟨cs.drop n ++ rest, ?_, ?_, h2⟩
  · rw [← List.append_assoc, List.take_append_drop]; exact hb
  · simp; omega
set_option maxRecDepth 20000 in
set_option maxHeartbeats 1000000 in
theorem same_ok (w : World) (ga ca gb cb : Nat) (xs ys : List Int) (ha : Rw w ga ca 3 (ints xs)) (hb : Rw w gb cb 3 (ints ys)) (v : Bool) (hv : v = decide (xs = ys)) :
    Calls Tryd.prog 15 #[.slice (some ⟨ga, 0, none⟩) xs.length ca, .slice (some ⟨gb, 0, none⟩) ys.length cb] w fun e w' => e = .returned (.bool v) ∧ Below w.heap.size w w' := by
  have HV := Lib.hid hv
  clear hv
  have hra := ha.room
  have hrb := hb.room
  rw [length_ints] at hra hrb
  by_cases hl : xs.length = ys.length
  · obtain ⟨n, hn⟩ : ∃ n, xs.length = n := ⟨_, rfl⟩
    have hn2 : ys.length = n := by omega
    rw [hn] at hra ⊢
    rw [hn2] at hrb ⊢
    have hnn : ((n : Int) != (n : Int)) = false := by simp
    have hnb : (n : Int) ≤ 9223372036854775807 := by have := hra.2; unfold maxLen at this; omega
    have HN := Lib.hid hn
    have HN2 := Lib.hid hn2
    clear hl hn hn2
    go_enter Tryd.func15, Tryd.ntmps15
    go_wp2_with fail
    go_loopw [5] (fun i wr => ∃ k : Nat, k ≤ n ∧ i = .int .i64 k ∧ xs.take k = ys.take k ∧ Below w.heap.size w wr) (fun i _ => n - (intOf i).toNat)
    case atStart => exact ⟨0, Nat.zero_le _, rfl, rfl, Below.refl _ w⟩
    case round =>
      obtain ⟨k, hk, rfl, he, hbel⟩ := hrel
      by_cases hlt : k < n
      · obtain ⟨a, hax⟩ : ∃ a, xs[k]? = some a := ⟨xs[k]'(by rw [HN.out]; exact hlt), by simp [HN.out, hlt]⟩
        obtain ⟨b, hbx⟩ : ∃ b, ys[k]? = some b := ⟨ys[k]'(by rw [HN2.out]; exact hlt), by simp [HN2.out, hlt]⟩
        have c1 := (ha.below hbel ha.lt).cell (j := k) (v := .int .i64 a) (by rw [get_ints, hax]; rfl)
        have c2 := (hb.below hbel hb.lt).cell (j := k) (v := .int .i64 b) (by rw [get_ints, hbx]; rfl)
        have hki : (k : Int) < (n : Int) := by omega
        have HE := Lib.hid he
        clear he
        by_cases hab : a = b
        · have e1 : (a != b) = false := by simp [hab]
          have e2 : (a == b) = true := by simp [hab]
          have HAB := Lib.hid hab
          clear hab
          go_upto_region 6 with fail
          go_quiet (fail)
          go_wp2_with fail
          go_roundw
          case rel => exact ⟨k + 1, by omega, by go_num, by rw [List.take_add_one, List.take_add_one, HE.out, hax, hbx, HAB.out], hbel.trans (below_drewN' (Below.refl _ wr) _ |>.mono hbel.size)⟩
          case measure => simp [intOf]; omega
        · have e1 : (a != b) = true := by simp [hab]
          have e2 : (a == b) = false := by simp [hab]
          have HAB := Lib.hid hab
          clear hab
          go_upto_region 6 with fail
          go_quiet (fail)
          go_wp2_with fail
          go_ret
          exact ⟨ret_bool (by
            rw [HV.out, eq_comm, decide_eq_false_iff_not]
            intro h
            rw [h, hbx] at hax
            exact HAB.out (Option.some.inj hax).symm), hbel.trans (below_drewN' (Below.refl _ wr) _ |>.mono hbel.size)⟩
      · obtain rfl : k = n := by omega
        have hvt : v = true := by
          rw [HV.out, decide_eq_true_iff]
          have h1 : xs.take k = xs := List.take_of_length_le (by rw [HN.out]; exact Nat.le_refl _)
          have h2 : ys.take k = ys := List.take_of_length_le (by rw [HN2.out]; exact Nat.le_refl _)
          rw [← h1, ← h2]; exact he
        subst hvt
        clear he
        go_wp2_with fail
        go_ret
        exact ⟨rfl, hbel⟩
  · have hvf : v = false := by
      rw [HV.out, decide_eq_false_iff_not]
      intro h; exact hl (by rw [h])
    subst hvf
    have e1 : ((xs.length : Int) != (ys.length : Int)) = true := by simp; omega
    have e2 : ((xs.length : Int) == (ys.length : Int)) = false := by simp; omega
    go_enter Tryd.func15, Tryd.ntmps15
    go_wp2_with fail
    go_ret
    exact ⟨rfl, Below.refl _ w⟩
end Go.Proofs.YtkilghhknimolaaDoor
