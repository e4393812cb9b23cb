/-
  WHAT IS PROVED HERE: contracts of slices.Reverse and of kin's Path; of pelotonlaw16's same and begins. Conditions: as in the contracts.
-/
import Derived.Test.YtogobpnbkmdnfaaKinC
namespace Go.Proofs.Ytogobpnbkmdnfaa
open Go.RowKit

/-- A list whose first i and last i numbers have changed places. -/
def revTo (xs : List Int) (i : Nat) : List Int := (List.range xs.length).map fun k => if k < i ∨ xs.length - 1 - i < k then xs.getD (xs.length - 1 - k) 0 else xs.getD k 0
theorem length_revTo (xs : List Int) (i : Nat) : (revTo xs i).length = xs.length := by simp [revTo]
theorem get_revTo (xs : List Int) (i : Nat) {k : Nat} (hk : k < xs.length) : (revTo xs i)[k]? = some (if k < i ∨ xs.length - 1 - i < k then xs.getD (xs.length - 1 - k) 0 else xs.getD k 0) := by
  simp [revTo, hk]
theorem revTo_zero (xs : List Int) : revTo xs 0 = xs := by
  apply List.ext_getElem?
  intro k
  by_cases hk : k < xs.length
  · rw [get_revTo xs 0 hk, if_neg (by omega)]; simp [hk]
  · rw [List.getElem?_eq_none (by rw [length_revTo]; omega), List.getElem?_eq_none (by omega)]
theorem revTo_end (xs : List Int) (i : Nat) (hi : xs.length ≤ 2 * i + 1) : revTo xs i = xs.reverse := by
  apply List.ext_getElem?
  intro k
  by_cases hk : k < xs.length
  · rw [get_revTo xs i hk, List.getElem?_reverse hk]
    have h1 : xs.length - 1 - k < xs.length := by omega
    by_cases h : k < i ∨ xs.length - 1 - i < k
    · rw [if_pos h]; simp [h1]
    · rw [if_neg h, show xs.length - 1 - k = k by omega]; simp [hk]
  · rw [List.getElem?_eq_none (by rw [length_revTo]; omega), List.getElem?_eq_none (by simp; omega)]
theorem revTo_step (xs : List Int) {i j : Nat} (hj : i + j + 1 = xs.length) (hij : i < j) : ((revTo xs i).set i (xs.getD j 0)).set j (xs.getD i 0) = revTo xs (i + 1) := by
  apply List.ext_getElem?
  intro k
  by_cases hk : k < xs.length
  · rw [get_revTo xs (i + 1) hk, List.getElem?_set, List.getElem?_set, get_revTo xs i hk]
    simp only [List.length_set, length_revTo]
    by_cases h1 : j = k
    · subst h1
      rw [if_pos rfl, if_pos hk, if_pos (.inr (by omega)), show xs.length - 1 - j = i by omega]
    · rw [if_neg h1]
      by_cases h2 : i = k
      · subst h2
        rw [if_pos rfl, if_pos hk, if_pos (.inl (by omega)), show xs.length - 1 - i = j by omega]
      · rw [if_neg h2]
        by_cases h3 : k < i ∨ xs.length - 1 - i < k
        · rw [if_pos h3, if_pos (by omega)]
        · rw [if_neg h3, if_neg (by omega)]
  · rw [List.getElem?_eq_none (by simp [length_revTo]; omega), List.getElem?_eq_none (by rw [length_revTo]; omega)]
set_option maxRecDepth 20000 in
set_option maxHeartbeats 1000000 in
theorem reverse_ok (w : World) (B : Nat) (A : Option Addr) (cap : Nat) (xs : List Int) (h : Ls w B A cap xs) :
    Calls Try.prog 33 #[.slice A xs.length cap] w fun e w' => e = .returned (.tuple #[]) ∧ Ls w' B A cap xs.reverse ∧ Kept (fun k => A = some ⟨k, 0, none⟩) w w' := by
  obtain ⟨n, hn⟩ : ∃ n, xs.length = n := ⟨_, rfl⟩
  have hroom := h.room
  have h' : Ls w B A cap (revTo xs 0) := by rw [revTo_zero]; exact h
  have HX := Lib.hid hn
  rw [hn] at hroom ⊢
  have hnm : (n : Int) ≤ 9223372036854775807 := by have := hroom.2; unfold maxLen at this; omega
  clear h hn
  go_enter Try.func33, Try.ntmps33
  go_wp2_with fail
  go_loopw [2, 3] (fun a b wr => ∃ (i : Nat), a = .int .i64 i ∧ b = .int .i64 ((n : Int) - 1 - i) ∧ 2 * i ≤ n + 1 ∧ Ls wr B A cap (revTo xs i) ∧ Kept (fun k => A = some ⟨k, 0, none⟩) w wr) (fun a _ _ => n - (intOf a).toNat)
  case atStart => exact ⟨0, rfl, by simp, by omega, h', Kept.refl _ w⟩
  case round =>
    clear h'
    obtain ⟨i, rfl, rfl, hi, hl, hk⟩ := hrel
    by_cases hlt : 2 * i + 1 < n
    · obtain ⟨j, hj⟩ : ∃ j : Nat, (n : Int) - 1 - i = j := ⟨n - 1 - i, by omega⟩
      rw [hj]
      have hjn : i + j + 1 = n := by omega
      have hij : i < j := by omega
      have e1 := get_revTo xs i (k := i) (by rw [HX.out]; omega)
      have e2 := get_revTo xs i (k := j) (by rw [HX.out]; omega)
      rw [if_neg (by rw [HX.out]; omega)] at e1 e2
      rcases hl with ⟨rfl, _, e⟩ | ⟨g, rfl, hr, hg⟩
      · have := congrArg List.length e
        rw [length_revTo, HX.out] at this
        simp at this; omega
      obtain ⟨vi, hvi⟩ : ∃ v, xs.getD i 0 = v := ⟨_, rfl⟩
      obtain ⟨vj, hvj⟩ : ∃ v, xs.getD j 0 = v := ⟨_, rfl⟩
      rw [hvi] at e1
      rw [hvj] at e2
      have c1 := hr.cell (j := i) (v := .int .i64 vi) (by rw [get_ints, e1]; rfl)
      have c2 := hr.cell (j := j) (v := .int .i64 vj) (by rw [get_ints, e2]; rfl)
      have f1 := hr.frozen i
      have f2 := hr.frozen j
      have hst := revTo_step xs (i := i) (j := j) (by rw [HX.out]; exact hjn) hij
      rw [hvi, hvj] at hst
      have r2 : Rw ((wr.drew.setCell ⟨g, i, none⟩ (.int .i64 vj)).setCell ⟨g, j, none⟩ (.int .i64 vi)) g cap 3 (ints (revTo xs (i + 1))) := by
        have := (hr.drew.set i (by rw [length_ints, length_revTo, HX.out]; omega) (.int .i64 vj)).set j (by rw [List.length_set, length_ints, length_revTo, HX.out]; omega) (.int .i64 vi)
        rwa [set_ints, set_ints, hst] at this
      have k2 : Kept (fun k => some ⟨g, 0, none⟩ = some (⟨k, 0, none⟩ : Addr)) w ((wr.drew.setCell ⟨g, i, none⟩ (.int .i64 vj)).setCell ⟨g, j, none⟩ (.int .i64 vi)) := (hk.drew.setCell (p := ⟨g, i, none⟩) (.inl rfl) _).setCell (p := ⟨g, j, none⟩) (.inl rfl) _
      have R2 := Lib.hid r2
      have K2 := Lib.hid k2
      have hin : (i : Int) < (n : Int) := by omega
      have hjn' : (j : Int) < (n : Int) := by omega
      have hij' : (i : Int) < (j : Int) := by omega
      have hne : ¬ i = j := by omega
      clear r2 k2 hst e1 e2 hvi hvj hr hk hj
      go_upto_region 3 with fail
      go_region
      all_goals
        go_wp2_with fail
        go_roundw
        case rel => exact ⟨i + 1, by go_num, by go_num, by omega, .inr ⟨g, rfl, R2.out, hg⟩, K2.out⟩
        case measure => simp [intOf]; omega
    · rw [revTo_end xs i (by rw [HX.out]; omega)] at hl
      have hij' : ¬ (i : Int) < (n : Int) - 1 - i := by omega
      have d1 : decide ((i : Int) < (n : Int) - 1 - i) = false := by simp; omega
      go_wp2_with fail
      go_end0
      exact ⟨rfl, hl, hk⟩

theorem Ls.at_ {w : World} {B cap : Nat} {A : Option Addr} {xs : List Int} (h : Ls w B A cap xs) : ∀ k, A = some ⟨k, 0, none⟩ → B ≤ k := fun k e => by
  rcases h with ⟨rfl, _, _⟩ | ⟨g, rfl, _, hg⟩
  · cases e
  · obtain rfl : g = k := by simpa using e
    exact hg
section
variable {w : World} {p : Nat} {own : Nat → Prop} {l : List Int}
set_option maxRecDepth 20000 in
set_option maxHeartbeats 1000000 in
theorem kpath_ok (hT : KT w p own l) (few : l.length ≤ 1000) (x : Nat) (hx : x < l.length) :
    Calls Try.prog 13 #[.pointer (some ⟨p, 0, none⟩), .int .i64 x] w fun e w' => ∃ A cap, e = .returned (.tuple #[.slice A (wayN l x).length cap, .int .i64 0]) ∧ Ls w' w.heap.size A cap (nI (wayN l x)) ∧ Below w.heap.size w w' := by
  have b1 := kbox1 w 3 x
  have bb : Below w.heap.size w (w.alloc (.cells #[.int .i64 x] 3)) := (Below.refl _ w).alloc (Nat.le_refl _) _
  have hT1 := hT.below bb (Nat.le_refl _)
  have hh := khas1 hT1 b1 (inK_nat hx)
  have hwl := wayN_length hT.wf hx
  obtain ⟨n, hn⟩ : ∃ n, (wayN l x).length = n := ⟨_, rfl⟩
  rw [hn] at hwl ⊢
  have HWF := Lib.hid hT.wf
  have HN := Lib.hid hn
  obtain ⟨W, hW⟩ : ∃ W, nI (wayN l x) = W := ⟨_, rfl⟩
  rw [hW]
  have HW := Lib.hid hW
  have HT := Lib.hid hT
  clear hT hn hW
  go_enter Try.func13, Try.ntmps13
  go_wp2_with (go_at_call 32; refine hh.mono ?_; rintro e w' ⟨rfl, rfl⟩)
  clear hh
  go_loopw [1, 6] (fun a b wr => ∃ (y : Nat) (A : Option Addr) (cap : Nat) (ws : List Int), y < l.length ∧ a = .int .i64 y ∧ b = .slice A ws.length cap ∧ Hid (W = nI (wayN l y) ++ ws.reverse) ∧ ws.length + (wayN l y).length = n ∧ Ls wr w.heap.size A cap ws ∧ Below w.heap.size w wr) (fun a _ _ => (intOf a).toNat)
  case atStart => exact ⟨x, none, 0, [], hx, rfl, rfl, Lib.hid (by rw [HW.out]; simp), by rw [HN.out]; simp, Ls.nil _ _, bb⟩
  case round =>
    obtain ⟨y, A, cap, ws, hy, rfl, rfl, HE, hlen, hls, hb⟩ := hrel
    by_cases h0 : 0 < y
    · have hTr := HT.out.below hb (Nat.le_refl _)
      have hat := hls.at_
      obtain ⟨g, gc, c0, hcap, hgm, hog, hnd⟩ := hTr.open (by omega)
      have cn := (hnd y hy).nth
      have hp := HWF.out.pos hy h0
      have hway := wayN_pos HWF.out hy h0
      have hyi : (y : Int) < (l.length : Int) := by omega
      have h0i : (0 : Int) < (y : Int) := by omega
      rw [hway, List.length_append, List.length_singleton] at hlen
      obtain ⟨nn, hnn⟩ : ∃ nn : Nat, nthN l y = nn := ⟨_, rfl⟩
      rw [hnn] at cn hway
      have hb1 : Below w.heap.size w (wr.alloc (.cells #[.int .i64 nn] 3)) := hb.alloc hb.size _
      have HLS := Lib.hid (hls.below ((Below.refl wr.heap.size wr).alloc (Nat.le_refl _) (.cells #[.int .i64 nn] 3)) (Nat.le_refl _))
      have NB : Hid (∀ (j : Nat) (u : Int), [(nn : Int)][j]? = some u → (wr.alloc (.cells #[.int .i64 nn] 3)).cell? ((⟨wr.heap.size, 0, none⟩ : Addr).add j) = some (.int .i64 u)) := Lib.hid (one_cell ((Blk.new wr 3 [.int .i64 nn]).cell 0))
      have hsz := hb1.size
      have HB1 := Lib.hid hb1
      have HAT := Lib.hid hat
      have HP := Lib.hid hp
      have HWY := Lib.hid hway
      have HLEN := Lib.hid hlen
      have hfew : ws.length + 1 ≤ 1000000 := by omega
      clear hls hb hb1 hat hnd hp hway hlen hnn hTr hT1
      go_upto_region 7 with (at_builtin; go_loud (refine wpList_append_ls _ rfl (.tmp 26) (.tmp 35) rfl ws HLS.out ws.length rfl rfl hsz ⟨wr.heap.size, 0, none⟩ 1 1 [(nn : Int)] rfl rfl (by omega) NB.out hfew ?_); intro g' cap' w1 h1 hk1 hw1 hl1)
      have hb2 : Below w.heap.size w w1 := HB1.out.trans (hk1.below HB1.out.size HAT.out)
      obtain ⟨g2, gc2, c02, hcap2, hgm2, hog2, hnd2⟩ := (HT.out.below hb2 (Nat.le_refl _)).open (by omega)
      have cp := (hnd2 y hy).par
      obtain ⟨q, hq⟩ : ∃ q : Nat, parN l y = q := ⟨(parN l y).toNat, by have := HP.out; omega⟩
      rw [hq] at cp
      have HQ := Lib.hid hq
      have H1 := Lib.hid h1
      have HB2 := Lib.hid hb2
      clear c0 hcap hgm hnd2 hq cn h1 hk1 hw1 hl1 hb2
      go_wp2_with fail
      go_roundw
      case rel =>
        have hq := HQ.out
        have hp := HP.out
        have hlen := HLEN.out
        have hwy := HWY.out
        rw [hq] at hp hlen hwy
        rw [Int.toNat_natCast] at hlen hwy
        refine ⟨q, _, cap', ws ++ [(nn : Int)], by omega, rfl, ?_, Lib.hid ?_, ?_, H1.out, HB2.out⟩
        · rw [List.length_append, List.length_singleton]
        · rw [HE.out, hwy, nI_append]; simp [nI]
        · rw [List.length_append, List.length_singleton]; omega
      case measure => have := HQ.out; have := HP.out; simp [intOf]; omega
    · obtain rfl : y = 0 := by omega
      rw [wayN_zero] at hlen
      have hrev := reverse_ok wr w.heap.size A cap ws hls
      obtain rfl : ws.length = n := by simpa using hlen
      have HV := Lib.hid hrev
      have HB := Lib.hid hb
      have hnl := hls.at_
      clear hrev hb hls hlen
      go_wp2_with (go_at_call 33; refine HV.out.mono ?_; rintro e w2 ⟨rfl, hr, hk⟩)
      go_ret2
      refine ⟨A, cap, rfl, ?_, ?_⟩
      · rw [HE.out, wayN_zero]; simpa [nI] using hr
      · exact HB.out.trans (hk.below HB.out.size hnl)
theorem kpath_no (hT : KT w p own l) (x : Int) (hx : inK l.length x = false) :
    Calls Try.prog 13 #[.pointer (some ⟨p, 0, none⟩), .int .i64 x] w fun e w' => e = .returned (.tuple #[.slice none 0 0, .int .i64 17]) ∧ Below w.heap.size w w' := by
  have b1 := kbox1 w 3 x
  have bb : Below w.heap.size w (w.alloc (.cells #[.int .i64 x] 3)) := (Below.refl _ w).alloc (Nat.le_refl _) _
  have hT1 := hT.below bb (Nat.le_refl _)
  go_enter Try.func13, Try.ntmps13
  go_wp2_with (go_at_call 32; refine (khas1 hT1 b1 hx).mono ?_; rintro e w' ⟨rfl, rfl⟩)
  go_ret2
  exact ⟨rfl, bb⟩
end
theorem kpath_nil (x : Int) (w : World) :
    Calls Try.prog 13 #[.pointer none, .int .i64 x] w fun e w' => e = .returned (.tuple #[.slice none 0 0, .int .i64 2]) ∧ w = w' := by
  go_enter Try.func13, Try.ntmps13
  go_wp2_with fail
  go_ret2
  exact ⟨rfl, by first | trivial | rfl⟩

/-! ## The law's own -/
theorem below_drewN' {a : World} {n : Nat} {w : World} (h : Below n a w) (k : Nat) : Below n a (w.drewN k) := ⟨h.os, h.tape, h.output, h.size, h.block⟩
theorem Sv.take {w : World} {A : Option Addr} {xs : List Int} (h : Sv w A xs) (n : Nat) : Sv w A (xs.take n) := fun h0 => by
  obtain ⟨b, off, rfl, hlt, hc⟩ := h (by simp at h0; omega)
  refine ⟨b, off, rfl, hlt, fun j x hj => hc j x ?_⟩
  rw [List.getElem?_take] at hj
  split at hj
  · exact hj
  · cases hj
set_option maxRecDepth 20000 in
set_option maxHeartbeats 1000000 in
theorem ksame_ok (w : World) (A B : Option Addr) (ca cb : Nat) (xs ys : List Int) (ha : Sv w A xs) (hb : Sv w B ys) (hm : xs.length ≤ maxLen) (v : Bool) (hv : decide (xs = ys) = v) :
    Calls Try.prog 15 #[.slice A xs.length ca, .slice B ys.length cb] w fun e w' => e = .returned (.bool v) ∧ Below w.heap.size w w' := by
  have HV := Lib.hid hv
  clear hv
  by_cases hl : xs.length = ys.length
  · obtain ⟨n, hn⟩ : ∃ n, xs.length = n := ⟨_, rfl⟩
    have hn2 : ys.length = n := by omega
    have HA := Lib.hid ha
    have HB := Lib.hid hb
    rw [hn] at hm ⊢
    rw [hn2]
    have hnn : ((n : Int) != (n : Int)) = false := by simp
    have hnb : (n : Int) ≤ 9223372036854775807 := by unfold maxLen at hm; omega
    have HN := Lib.hid hn
    have HN2 := Lib.hid hn2
    clear hl hn hn2 ha hb
    go_enter Try.func15, Try.ntmps15
    go_wp2_with fail
    go_loopw [5] (fun i wr => ∃ k : Nat, k ≤ n ∧ i = .int .i64 k ∧ xs.take k = ys.take k ∧ Below w.heap.size w wr) (fun i _ => n - (intOf i).toNat)
    case atStart => exact ⟨0, Nat.zero_le _, rfl, rfl, Below.refl _ w⟩
    case round =>
      obtain ⟨k, hk, rfl, he, hbel⟩ := hrel
      by_cases hlt : k < n
      · obtain ⟨a, hax⟩ : ∃ a, xs[k]? = some a := ⟨xs[k]'(by rw [HN.out]; exact hlt), by simp [HN.out, hlt]⟩
        obtain ⟨b, hbx⟩ : ∃ b, ys[k]? = some b := ⟨ys[k]'(by rw [HN2.out]; exact hlt), by simp [HN2.out, hlt]⟩
        obtain ⟨b1, o1, rfl, _, hc1⟩ := HA.out.below hbel (Nat.le_refl _) (by rw [HN.out]; omega)
        obtain ⟨b2, o2, rfl, _, hc2⟩ := HB.out.below hbel (Nat.le_refl _) (by rw [HN2.out]; omega)
        have c1 := hc1 k a hax
        have c2 := hc2 k b hbx
        have hki : (k : Int) < (n : Int) := by omega
        have HE := Lib.hid he
        clear he hc1 hc2
        by_cases hab : a = b
        · have e1 : (a != b) = false := by simp [hab]
          have e2 : (a == b) = true := by simp [hab]
          have HAB := Lib.hid hab
          clear hab
          go_upto_region 6 with fail
          go_quiet (fail)
          go_wp2_with fail
          go_roundw
          case rel => exact ⟨k + 1, by omega, by go_num, by rw [List.take_add_one, List.take_add_one, HE.out, hax, hbx, HAB.out], hbel.trans (below_drewN' (Below.refl _ wr) _ |>.mono hbel.size)⟩
          case measure => simp [intOf]; omega
        · have e1 : (a != b) = true := by simp [hab]
          have e2 : (a == b) = false := by simp [hab]
          have HAB := Lib.hid hab
          clear hab
          go_upto_region 6 with fail
          go_quiet (fail)
          go_wp2_with fail
          go_ret
          exact ⟨ret_bool (by
            rw [← HV.out, eq_comm, decide_eq_false_iff_not]
            intro h
            rw [h, hbx] at hax
            exact HAB.out (Option.some.inj hax).symm), hbel.trans (below_drewN' (Below.refl _ wr) _ |>.mono hbel.size)⟩
      · obtain rfl : k = n := by omega
        have hvt : v = true := by
          rw [← HV.out, decide_eq_true_iff]
          have h1 : xs.take k = xs := List.take_of_length_le (by rw [HN.out]; exact Nat.le_refl _)
          have h2 : ys.take k = ys := List.take_of_length_le (by rw [HN2.out]; exact Nat.le_refl _)
          rw [← h1, ← h2]; exact he
        subst hvt
        clear he
        go_wp2_with fail
        go_ret
        exact ⟨rfl, hbel⟩
  · have hvf : v = false := by
      rw [← HV.out, decide_eq_false_iff_not]
      intro h; exact hl (by rw [h])
    subst hvf
    have e1 : ((xs.length : Int) != (ys.length : Int)) = true := by simp; omega
    have e2 : ((xs.length : Int) == (ys.length : Int)) = false := by simp; omega
    go_enter Try.func15, Try.ntmps15
    go_wp2_with fail
    go_ret
    exact ⟨rfl, Below.refl _ w⟩
/-- Is a list another one's beginning? -/
def begins (xs ys : List Int) : Bool := decide (xs <+: ys)
theorem begins_eq (xs ys : List Int) : begins xs ys = (decide (xs.length ≤ ys.length) && decide (xs = ys.take xs.length)) := by
  unfold begins
  rw [Bool.eq_iff_iff]
  simp only [decide_eq_true_eq, Bool.and_eq_true]
  constructor
  · intro h
    exact ⟨h.length_le, List.prefix_iff_eq_take.1 h⟩
  · rintro ⟨_, h⟩
    exact List.prefix_iff_eq_take.2 h
set_option maxRecDepth 20000 in
set_option maxHeartbeats 1000000 in
theorem kbegins_ok (w : World) (A B : Option Addr) (ca cb : Nat) (xs ys : List Int) (ha : Sv w A xs) (hb : Sv w B ys) (hm : xs.length ≤ maxLen) (hm2 : ys.length ≤ cb ∧ cb ≤ maxLen) (hB : B = none → cb = 0) (v : Bool) (hv : begins xs ys = v) :
    Calls Try.prog 24 #[.slice A xs.length ca, .slice B ys.length cb] w fun e w' => e = .returned (.bool v) ∧ Below w.heap.size w w' := by
  rw [begins_eq] at hv
  have hxm : (xs.length : Int) ≤ 9223372036854775807 := by unfold maxLen at hm; omega
  have hcm : (cb : Int) ≤ 9223372036854775807 := by have := hm2.2; unfold maxLen at this; omega
  by_cases hle : xs.length ≤ ys.length
  · rw [decide_eq_true hle, Bool.true_and] at hv
    have hs := ksame_ok w A B ca cb xs (ys.take xs.length) ha (hb.take _) hm v hv
    rw [List.length_take, Nat.min_eq_left hle] at hs
    have d1 : decide ((xs.length : Int) ≤ (ys.length : Int)) = true := by simp; omega
    have d2 : decide (xs.length ≤ ys.length) = true := by simp; omega
    have hlc : xs.length ≤ cb := by omega
    have hlc' : (xs.length : Int) ≤ (cb : Int) := by omega
    have HS := Lib.hid hs
    have HB := Lib.hid hB
    clear hs hb ha hv hB
    go_enter Try.func24, Try.ntmps24
    cases B with
    | none =>
      obtain rfl := HB.out rfl
      have h0 : xs.length = 0 := by omega
      rw [h0] at HS ⊢
      go_wp2_with (go_at_call 15; refine HS.out.mono ?_; rintro e w2 ⟨rfl, hbl⟩)
      go_ret
      exact ⟨rfl, hbl⟩
    | some b =>
      go_wp2_with (go_at_call 15; refine HS.out.mono ?_; rintro e w2 ⟨rfl, hbl⟩)
      go_ret
      exact ⟨rfl, hbl⟩
  · rw [decide_eq_false hle, Bool.false_and] at hv
    subst hv
    have d1 : decide ((xs.length : Int) ≤ (ys.length : Int)) = false := by simp; omega
    go_enter Try.func24, Try.ntmps24
    go_wp2_with fail
    go_ret
    exact ⟨rfl, Below.refl _ w⟩
end Go.Proofs.Ytogobpnbkmdnfaa
