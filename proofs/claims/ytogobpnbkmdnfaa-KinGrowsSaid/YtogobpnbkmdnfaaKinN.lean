/-
  WHAT IS PROVED HERE: the contract of pelotonlaw16's small, and of grow behind it. Conditions: the slice reads a list.
-/
import Derived.Test.YtogobpnbkmdnfaaKinM
namespace Go.Proofs.Ytogobpnbkmdnfaa
open Go.RowKit

theorem gl_take_wf {s : List Int} (hw : WfP s) (k : Nat) : gl (s.take k) = s.take k := by
  induction k with
  | zero => rfl
  | succ k ih =>
    by_cases hk : k < s.length
    · obtain ⟨x, hx⟩ : ∃ x, s[k]? = some x := ⟨s[k], by simp [hk]⟩
      have hx' : s[k] = x := by
        have := (List.getElem?_eq_some_iff.1 hx).2
        exact this
      rw [gl_take hx, ih]
      have hl : (s.take k).length = k := by rw [List.length_take]; omega
      have hc : addC (s.take k) x = 0 := by
        obtain ⟨h0, h1⟩ := hw k hk
        rw [hx'] at h0 h1
        unfold addC
        by_cases e : k = 0
        · subst e
          rw [h0 rfl]
          simp
        · obtain ⟨a, b⟩ := h1 (by omega)
          rw [if_neg (by rw [hl]; intro h; have := inK_iff.2 ⟨a, b⟩; rw [h.2] at this; cases this), if_neg (by omega)]
      unfold addL
      rw [if_pos hc, List.take_add_one, hx]; simp
    · rw [List.take_of_length_le (by omega)]
      rw [List.take_of_length_le (by omega)] at ih
      exact ih
theorem gl_wf_self {s : List Int} (hw : WfP s) : gl s = s := by
  have := gl_take_wf hw s.length
  rwa [List.take_length] at this
/-- A number brought below k. -/
theorem brought {x : Int} {k : Nat} (hk : 0 < k) : 0 ≤ (x.tmod k + k).tmod k ∧ (x.tmod k + k).tmod k < k ∧ -(k : Int) < x.tmod k ∧ x.tmod k < k := by
  have h1 := Int.lt_tmod_of_pos x (b := (k : Int)) (by omega)
  have h2 := Int.tmod_lt_of_pos x (b := (k : Int)) (by omega)
  have h3 : 0 ≤ x.tmod k + k := by omega
  refine ⟨Int.tmod_nonneg _ h3, Int.tmod_lt_of_pos _ (by omega), h1, h2⟩
set_option maxRecDepth 20000 in
set_option maxHeartbeats 1000000 in
theorem small_ok (w : World) (X : Option Addr) (cx : Nat) (xs : List Int) (hx : Sv w X xs) (hm : xs.length ≤ maxLen) :
    Calls Try.prog 23 #[.slice X xs.length cx] w fun e w' => ∃ A c s, e = .returned (.slice A s.length c) ∧ Ls w' w.heap.size A c s ∧ WfP s ∧ s.length ≤ 60 ∧ Below w.heap.size w w' := by
  have he : Ls (w.alloc (.cells #[] 3)) w.heap.size (some ⟨w.heap.size, 0, none⟩) 0 [] := .inr ⟨w.heap.size, rfl, Rw.of (Blk.new w 3 []) (Nat.zero_le _), Nat.le_refl _⟩
  have hb : Below w.heap.size w (w.alloc (.cells #[] 3)) := (Below.refl _ w).alloc (Nat.le_refl _) _
  have hlm : (xs.length : Int) ≤ 9223372036854775807 := by unfold maxLen at hm; omega
  have HX := Lib.hid hx
  clear hx
  go_enter Try.func23, Try.ntmps23
  go_wp2_with fail
  go_loopw [3, 4] (fun o i wr => ∃ (k : Nat) (A : Option Addr) (c : Nat) (s : List Int), k ≤ 60 ∧ s.length = k ∧ i = .int .i64 k ∧ o = .slice A k c ∧ Ls wr w.heap.size A c s ∧ Hid (WfP s) ∧ Below w.heap.size w wr) (fun _ i _ => 60 - (intOf i).toNat)
  case atStart => exact ⟨0, _, 0, [], Nat.zero_le _, rfl, rfl, rfl, he, Lib.hid WfP.nil, hb⟩
  case round =>
    clear he hb
    obtain ⟨k, A, c, s, hk, hs, rfl, rfl, hls, HW, hb⟩ := hrel
    by_cases hlt : k < xs.length
    · have d1 : decide ((k : Int) < (xs.length : Int)) = true := by simp; omega
      by_cases h60 : k < 60
      · have d2 : decide ((k : Int) < 60) = true := by simp; omega
        by_cases h0 : k = 0
        · subst h0
          obtain rfl : s = [] := List.eq_nil_of_length_eq_zero hs
          have hat := hls.at_
          have hb1 : Below w.heap.size w (wr.alloc (.cells #[.int .i64 (-1)] 3)) := hb.alloc hb.size _
          have HLS := Lib.hid (hls.below ((Below.refl wr.heap.size wr).alloc (Nat.le_refl _) (.cells #[.int .i64 (-1)] 3)) (Nat.le_refl _))
          have NB := Lib.hid (one_cell ((Blk.new wr 3 [.int .i64 (-1)]).cell 0))
          have hsz := hb1.size
          have HB1 := Lib.hid hb1
          have HAT := Lib.hid hat
          clear hls hb hb1 hat
          go_wp2_with (at_builtin; go_loud (refine wpList_append_ls _ rfl (.tmp 18) (.tmp 19) rfl [] HLS.out 0 rfl rfl hsz ⟨wr.heap.size, 0, none⟩ 1 1 [(-1 : Int)] rfl rfl (by omega) NB.out (by omega) ?_); intro g' cap' w1 h1 hk1 hw1 hl1; have H1 := Lib.hid h1; have HK1 := Lib.hid hk1; clear h1 hk1 hw1 hl1)
          go_roundw
          case rel => exact ⟨1, some ⟨g', 0, none⟩, cap', [-1], by omega, rfl, rfl, rfl, H1.out, Lib.hid (HW.out.snoc (.inl ⟨rfl, rfl⟩)), HB1.out.trans (HK1.out.below HB1.out.size HAT.out)⟩
          case measure => simp [intOf]
        · obtain ⟨x, hxk⟩ : ∃ x, xs[k]? = some x := ⟨xs[k], by simp [hlt]⟩
          obtain ⟨b, off, rfl, _, hc⟩ := HX.out.below hb (Nat.le_refl _) (by omega)
          have cx := hc k x hxk
          have e1 : ((k : Int) == 0) = false := by simp; omega
          obtain ⟨v0, v1, v2, v3⟩ := brought (x := x) (k := k) (by omega)
          obtain ⟨r, hr⟩ : ∃ r, x.tmod k = r := ⟨_, rfl⟩
          rw [hr] at v0 v1 v2 v3
          obtain ⟨v, hv⟩ : ∃ v, (r + k).tmod k = v := ⟨_, rfl⟩
          rw [hv] at v0 v1
          have hki : (k : Int) < (xs.length : Int) := by omega
          have hat := hls.at_
          have hb1 : Below w.heap.size w (wr.alloc (.cells #[.int .i64 v] 3)) := hb.alloc hb.size _
          have HLS := Lib.hid (hls.below ((Below.refl wr.heap.size wr).alloc (Nat.le_refl _) (.cells #[.int .i64 v] 3)) (Nat.le_refl _))
          have NB := Lib.hid (one_cell ((Blk.new wr 3 [.int .i64 v]).cell 0))
          have hsz := hb1.size
          have HB1 := Lib.hid hb1
          have HAT := Lib.hid hat
          have HS := Lib.hid hs
          have hwr : wrap64 (r + (k : Int)) = r + k := by unfold wrap64; omega
          have hkz : ¬ (k : Int) = 0 := by omega
          clear hls hb hb1 hat hc hxk hs
          go_wp2_with (at_builtin; go_loud (refine wpList_append_ls _ rfl (.tmp 21) (.tmp 32) rfl s HLS.out k HS.out.symm rfl hsz ⟨wr.heap.size, 0, none⟩ 1 1 [v] rfl rfl (by omega) NB.out (by omega) ?_); intro g' cap' w1 h1 hk1 hw1 hl1; have H1 := Lib.hid h1; have HK1 := Lib.hid hk1; clear h1 hk1 hw1 hl1)
          go_roundw
          case rel => exact ⟨k + 1, some ⟨g', 0, none⟩, cap', s ++ [v], by omega, by simp [HS.out], by go_num, rfl, H1.out, Lib.hid (HW.out.snoc (.inr ⟨v0, by have := HS.out; omega⟩)), HB1.out.trans (HK1.out.below HB1.out.size HAT.out)⟩
          case measure => simp [intOf]; omega
      · have d2 : decide ((k : Int) < 60) = false := by simp; omega
        subst hs
        go_wp2_with fail
        go_ret
        exact ⟨A, c, s, rfl, hls, HW.out, hk, hb⟩
    · have d1 : decide ((k : Int) < (xs.length : Int)) = false := by simp; omega
      subst hs
      go_wp2_with fail
      go_ret
      exact ⟨A, c, s, rfl, hls, HW.out, hk, hb⟩
end Go.Proofs.Ytogobpnbkmdnfaa
