/-
  WHAT IS PROVED HERE: contracts of the reference's functions (pelotonref16): Is, Kids, Descends, Path, Find, Order, Add. Conditions: the slice reads a tree's parents.
-/
import Derived.Test.YtogobpnbkmdnfaaKinD
import Derived.Test.YtogobpnbkmdnfaaKinQ
namespace Go.Proofs.Ytogobpnbkmdnfaa
open Go.RowKit

section
variable {A : Option Addr} {cap : Nat} {l : List Int}
theorem ris_ok (n : Nat) (w : World) (x : Int) (v : Bool) (hv : inK n x = v) :
    Calls Try.prog 14 #[.slice A n cap, .int .i64 x] w fun e w' => e = .returned (.bool v) ∧ w = w' := by
  by_cases h0 : 0 ≤ x
  · have hd : decide (x < (n : Int)) = v := by rw [← hv]; unfold inK; simp [h0]
    have d1 : decide (0 ≤ x) = true := by simp [h0]
    go_enter Try.func14, Try.ntmps14
    cases v <;> (go_wp2_with fail; go_ret; exact ⟨rfl, by first | trivial | rfl⟩)
  · have hvf : v = false := by rw [← hv]; unfold inK; simp; omega
    subst hvf
    have d1 : decide (0 ≤ x) = false := by simp; omega
    go_enter Try.func14, Try.ntmps14
    go_wp2_with fail
    go_ret
    exact ⟨rfl, by first | trivial | rfl⟩

/-- The kids among the first k tasks. -/
def kTo (l : List Int) (x : Int) (k : Nat) : List Nat := (List.range k).filter fun i => l[i]? == some x
theorem kTo_succ (l : List Int) (x : Int) (k : Nat) {v : Int} (hv : l[k]? = some v) : kTo l x (k + 1) = if v = x then kTo l x k ++ [k] else kTo l x k := by
  unfold kTo
  rw [List.range_succ, List.filter_append, List.filter_cons, hv]
  by_cases h : v = x
  · subst h; simp
  · simp [h]
theorem kTo_length (l : List Int) (x : Int) (k : Nat) : (kTo l x k).length ≤ k := by
  unfold kTo
  exact Nat.le_trans (List.length_filter_le _ _) (by simp)
theorem kTo_all (l : List Int) (x : Int) : kTo l x l.length = kN l x := rfl
set_option maxRecDepth 20000 in
set_option maxHeartbeats 1000000 in
theorem rkids_ok (w : World) (hL : Sv w A l) (few : l.length ≤ 1000) (x : Int) :
    Calls Try.prog 27 #[.slice A l.length cap, .int .i64 x] w fun e w' => ∃ A' cap', e = .returned (.slice A' (kidI l x).length cap') ∧ Ls w' w.heap.size A' cap' (kidI l x) ∧ Below w.heap.size w w' := by
  have he : Ls (w.alloc (.cells #[] 3)) w.heap.size (some ⟨w.heap.size, 0, none⟩) 0 [] := .inr ⟨w.heap.size, rfl, Rw.of (Blk.new w 3 []) (Nat.zero_le _), Nat.le_refl _⟩
  have hb : Below w.heap.size w (w.alloc (.cells #[] 3)) := (Below.refl _ w).alloc (Nat.le_refl _) _
  cases hs : inK l.length x with
  | false =>
    have hk : kidI l x = [] := by unfold kidI; rw [hs]; rfl
    rw [hk]
    have hr := ris_ok (A := A) (cap := cap) l.length (w.alloc (.cells #[] 3)) x false hs
    have HE := Lib.hid he
    have HB := Lib.hid hb
    clear he hb hL hk hs
    go_enter Try.func27, Try.ntmps27
    go_wp2_with (go_at_call 14; refine hr.mono ?_; rintro e w2 ⟨rfl, rfl⟩)
    go_ret
    exact ⟨_, 0, rfl, HE.out, HB.out⟩
  | true =>
    have hr := ris_ok (A := A) (cap := cap) l.length (w.alloc (.cells #[] 3)) x true hs
    have hk : kidI l x = nI (kTo l x l.length) := by unfold kidI; rw [hs]; rfl
    obtain ⟨R, hR⟩ : ∃ R, kidI l x = R := ⟨_, rfl⟩
    rw [hR]
    rw [hR] at hk
    have HL := Lib.hid hL
    have HR := Lib.hid hk
    have hlm : (l.length : Int) ≤ 9223372036854775807 := by omega
    clear hL hk hR hs
    go_enter Try.func27, Try.ntmps27
    go_wp2_with (go_at_call 14; refine hr.mono ?_; rintro e w2 ⟨rfl, rfl⟩)
    clear hr
    go_loopw [5, 6] (fun o i wr => ∃ (k : Nat) (A1 : Option Addr) (c1 : Nat), k ≤ l.length ∧ i = .int .i64 k ∧ o = .slice A1 (kTo l x k).length c1 ∧ Ls wr w.heap.size A1 c1 (nI (kTo l x k)) ∧ Below w.heap.size w wr) (fun _ i _ => l.length - (intOf i).toNat)
    case atStart => exact ⟨0, _, 0, Nat.zero_le _, rfl, rfl, he, hb⟩
    case round =>
      clear he hb
      obtain ⟨k, A1, c1, hk, rfl, rfl, hls, hb⟩ := hrel
      by_cases hlt : k < l.length
      · obtain ⟨v, hv⟩ : ∃ v, l[k]? = some v := ⟨l[k], by simp [hlt]⟩
        obtain ⟨b, off, rfl, _, hc⟩ := HL.out.below hb (Nat.le_refl _) (by omega)
        have cv := hc k v hv
        have hst := kTo_succ l x k hv
        have hkl := kTo_length l x k
        have hki : (k : Int) < (l.length : Int) := by omega
        clear hc hv
        by_cases hvx : v = x
        · rw [if_pos hvx] at hst
          have e1 : (v == x) = true := by simp [hvx]
          have hat := hls.at_
          have hb1 : Below w.heap.size w (wr.alloc (.cells #[.int .i64 k] 3)) := hb.alloc hb.size _
          have HLS := Lib.hid (hls.below ((Below.refl wr.heap.size wr).alloc (Nat.le_refl _) (.cells #[.int .i64 k] 3)) (Nat.le_refl _))
          have NB : Hid (∀ (j : Nat) (u : Int), [(k : Int)][j]? = some u → (wr.alloc (.cells #[.int .i64 k] 3)).cell? ((⟨wr.heap.size, 0, none⟩ : Addr).add j) = some (.int .i64 u)) := Lib.hid (one_cell ((Blk.new wr 3 [.int .i64 k]).cell 0))
          have hsz := hb1.size
          have HB1 := Lib.hid hb1
          have HAT := Lib.hid hat
          have HST := Lib.hid hst
          have hfew : (kTo l x k).length + 1 ≤ 1000000 := by omega
          clear hls hb hb1 hat hst hkl hvx
          go_wp2_with (at_builtin; go_loud (refine wpList_append_ls _ rfl (.tmp 25) (.tmp 27) rfl (nI (kTo l x k)) HLS.out (kTo l x k).length (length_nI _).symm rfl hsz ⟨wr.heap.size, 0, none⟩ 1 1 [(k : Int)] rfl rfl (by omega) NB.out hfew ?_); intro g' cap' w1 h1 hk1 hw1 hl1; have H1 := Lib.hid h1; have HK1 := Lib.hid hk1; clear h1 hk1 hw1 hl1)
          go_roundw
          case rel =>
            refine ⟨k + 1, some ⟨g', 0, none⟩, cap', by omega, by go_num, ?_, ?_, HB1.out.trans (HK1.out.below HB1.out.size HAT.out)⟩
            · rw [HST.out, List.length_append, List.length_singleton]
            · rw [HST.out, nI_append]; exact H1.out
          case measure => simp [intOf]; omega
        · rw [if_neg hvx] at hst
          have e1 : (v == x) = false := by simp [hvx]
          have HST := Lib.hid hst
          have HLS := Lib.hid hls
          have HB := Lib.hid hb
          clear hst hls hb hkl
          go_wp2_with fail
          go_roundw
          case rel => exact ⟨k + 1, A1, c1, by omega, by go_num, by rw [HST.out], by rw [HST.out]; exact HLS.out, HB.out⟩
          case measure => simp [intOf]; omega
      · obtain rfl : k = l.length := by omega
        have HLS := Lib.hid hls
        have HB := Lib.hid hb
        have hre : (kTo l x l.length).length = R.length := by rw [HR.out, length_nI]
        clear hls hb
        go_wp2_with fail
        go_ret
        exact ⟨A1, c1, by rw [← hre]; rfl, by rw [HR.out]; exact HLS.out, HB.out⟩

set_option maxRecDepth 20000 in
set_option maxHeartbeats 1000000 in
theorem rdesc_in (hw : WfP l) (hlm : l.length ≤ 1000) (o : Nat) (ho : o < l.length) (x : Nat) : ∀ (w : World), Sv w A l → x < l.length → ∀ v : Bool, desc l x o = v →
    Calls Try.prog 12 #[.slice A l.length cap, .int .i64 x, .int .i64 o] w fun e w' => e = .returned (.bool v) ∧ w = w' := by
  induction x using Nat.strongRecOn with
  | ind x ih =>
    intro w hL hx v hv
    have h1 := ris_ok (A := A) (cap := cap) l.length w x true (inK_nat hx)
    have h2 := ris_ok (A := A) (cap := cap) l.length w o true (inK_nat ho)
    obtain ⟨b, off, rfl, hbl, hc⟩ := hL (by omega)
    have cp := hc x _ (get_parN hx)
    rw [desc_step hw hx] at hv
    have hxi : (x : Int) < (l.length : Int) := by omega
    by_cases he : x = o
    · have e1 : ((x : Int) == (o : Int)) = true := by simp [he]
      obtain rfl : v = true := by rw [← hv]; simp [he]
      clear hv ih hc hL
      go_enter Try.func12, Try.ntmps12
      go_wp2_with (go_at_call 14; first | (with_reducible refine h1.mono ?_; rintro e w2 ⟨rfl, rfl⟩) | (with_reducible refine h2.mono ?_; rintro e w2 ⟨rfl, rfl⟩))
      go_ret
      exact ⟨rfl, by first | trivial | rfl⟩
    · have e1 : ((x : Int) == (o : Int)) = false := by simp; omega
      rw [decide_eq_false he, Bool.false_or] at hv
      by_cases h0 : x = 0
      · subst h0
        rw [hw.zero] at cp hv
        obtain rfl : v = false := by rw [← hv]; simp
        have hx0 : ((0 : Nat) : Int) = 0 := rfl
        rw [hx0] at h1 hxi e1 ⊢
        simp only [Nat.add_zero] at cp
        clear hv ih hc hL hx0
        go_enter Try.func12, Try.ntmps12
        go_wp2_with (go_at_call 14; first | (with_reducible refine h1.mono ?_; rintro e w2 ⟨rfl, rfl⟩) | (with_reducible refine h2.mono ?_; rintro e w2 ⟨rfl, rfl⟩))
        go_ret
        exact ⟨rfl, by first | trivial | rfl⟩
      · have hp := hw.pos hx (by omega)
        obtain ⟨q, hq⟩ : ∃ q : Nat, parN l x = q := ⟨(parN l x).toNat, by omega⟩
        rw [hq] at cp hv hp
        rw [Int.toNat_natCast, decide_eq_true (by omega), Bool.true_and] at hv
        have hrec := ih q (by omega) w hL (by omega) v hv
        have e2 : decide ((0 : Int) ≤ (q : Int)) = true := by simp
        clear hv ih hc hL hq
        go_enter Try.func12, Try.ntmps12
        go_wp2_with (first | (go_at_call 14; first | (with_reducible refine h1.mono ?_; rintro e w2 ⟨rfl, rfl⟩) | (with_reducible refine h2.mono ?_; rintro e w2 ⟨rfl, rfl⟩)) | (go_at_call 12; refine hrec.mono ?_; rintro e w2 ⟨rfl, rfl⟩))
        go_ret
        exact ⟨rfl, by first | trivial | rfl⟩
theorem rdesc_ok (hw : WfP l) (hlm : l.length ≤ 1000) (w : World) (hL : Sv w A l) (x o : Int) (v : Bool) (hv : descI l x o = v) :
    Calls Try.prog 12 #[.slice A l.length cap, .int .i64 x, .int .i64 o] w fun e w' => e = .returned (.bool v) ∧ w = w' := by
  unfold descI at hv
  cases hx : inK l.length x with
  | false =>
    rw [hx, Bool.false_and] at hv
    subst hv
    have h1 := ris_ok (A := A) (cap := cap) l.length w x false hx
    go_enter Try.func12, Try.ntmps12
    go_wp2_with (go_at_call 14; refine h1.mono ?_; rintro e w2 ⟨rfl, rfl⟩)
    go_ret
    exact ⟨rfl, by first | trivial | rfl⟩
  | true =>
    cases ho : inK l.length o with
    | false =>
      rw [hx, ho, Bool.false_and, Bool.and_false] at hv
      subst hv
      have h1 := ris_ok (A := A) (cap := cap) l.length w x true hx
      have h2 := ris_ok (A := A) (cap := cap) l.length w o false ho
      go_enter Try.func12, Try.ntmps12
      go_wp2_with (go_at_call 14; first | (with_reducible refine h1.mono ?_; rintro e w2 ⟨rfl, rfl⟩) | (with_reducible refine h2.mono ?_; rintro e w2 ⟨rfl, rfl⟩))
      go_ret
      exact ⟨rfl, by first | trivial | rfl⟩
    | true =>
      rw [hx, ho, Bool.true_and, Bool.true_and] at hv
      obtain ⟨x, rfl, hxl⟩ := inK_get hx
      obtain ⟨o, rfl, hol⟩ := inK_get ho
      exact rdesc_in hw hlm o hol x w hL hxl v hv

set_option maxRecDepth 20000 in
set_option maxHeartbeats 1000000 in
theorem rpath_ok (hw : WfP l) (few : l.length ≤ 1000) (x : Nat) : ∀ (w : World), Sv w A l → x < l.length →
    Calls Try.prog 16 #[.slice A l.length cap, .int .i64 x] w fun e w' => ∃ A' cap', e = .returned (.slice A' (wayN l x).length cap') ∧ Ls w' w.heap.size A' cap' (nI (wayN l x)) ∧ Below w.heap.size w w' := by
  induction x using Nat.strongRecOn with
  | ind x ih =>
    intro w hL hx
    obtain ⟨b, off, rfl, hbl, hc⟩ := id hL (by omega)
    have cp := hc x _ (get_parN hx)
    have hxi : (x : Int) < (l.length : Int) := by omega
    by_cases h0 : x = 0
    · subst h0
      rw [hw.zero] at cp
      rw [wayN_zero]
      have he : Ls (w.alloc (.cells #[] 3)) w.heap.size (some ⟨w.heap.size, 0, none⟩) 0 [] := .inr ⟨w.heap.size, rfl, Rw.of (Blk.new w 3 []) (Nat.zero_le _), Nat.le_refl _⟩
      have hb : Below w.heap.size w (w.alloc (.cells #[] 3)) := (Below.refl _ w).alloc (Nat.le_refl _) _
      have hx0 : ((0 : Nat) : Int) = 0 := rfl
      rw [hx0] at hxi ⊢
      simp only [Nat.add_zero] at cp
      clear hc hL ih
      go_enter Try.func16, Try.ntmps16
      go_wp2_with fail
      go_ret
      exact ⟨_, 0, rfl, he, hb⟩
    · have hp := hw.pos hx (by omega)
      have hway := wayN_pos hw hx (by omega)
      have hnth := kN_nth hx
      have hbef : ∀ j, j < nthN l x → ∃ a, (kN l (parN l x))[j]? = some a ∧ a ≠ x := fun j hj => kN_before hx hj
      have hnl := nthN_le l x
      obtain ⟨q, hq⟩ : ∃ q : Nat, parN l x = q := ⟨(parN l x).toNat, by omega⟩
      rw [hq] at cp hp hway hnth hbef
      rw [Int.toNat_natCast] at hway
      have hql : q < l.length := by omega
      have hk : kidI l q = nI (kN l q) := by unfold kidI; rw [inK_nat hql]; rfl
      have hkk := rkids_ok (A := some ⟨b, off, none⟩) (cap := cap) w hL few q
      rw [hk, length_nI] at hkk
      obtain ⟨m, hm⟩ : ∃ m, nthN l x = m := ⟨_, rfl⟩
      rw [hm] at hway hnth hbef hnl
      have hml := (List.getElem?_eq_some_iff.1 hnth).1
      have hwl := wayN_length hw hql
      have e0 : ¬ (q : Int) < 0 := by omega
      have d0 : decide ((q : Int) < 0) = false := by simp
      rw [hway, List.length_append, List.length_singleton]
      have HL := Lib.hid hL
      have HIH := Lib.hid (ih q (by omega))
      have HWY := Lib.hid hway
      have HNT := Lib.hid hnth
      have HBF := Lib.hid hbef
      have HQ := Lib.hid hq
      clear hc hL ih hway hnth hbef hm hq hk
      go_enter Try.func16, Try.ntmps16
      go_wp2_with (go_at_call 27; refine hkk.mono ?_; rintro e w2 ⟨Ak, ck, rfl, hls, hb⟩)
      clear hkk
      go_loopw [5] (fun i wr => ∃ j : Nat, j ≤ m ∧ i = .int .i64 j ∧ w2 = wr) (fun i _ => m - (intOf i).toNat)
      case atStart => exact ⟨0, Nat.zero_le _, rfl, by first | trivial | rfl⟩
      case round =>
        obtain ⟨j, hj, rfl, rfl⟩ := hrel
        have hji : (j : Int) < ((kN l q).length : Int) := by omega
        by_cases hlt : j < m
        · obtain ⟨a, ha, hax⟩ := HBF.out j hlt
          obtain ⟨gk, rfl, ck⟩ := hls.get (j := j) (x := a) (by rw [get_nI, ha]; rfl)
          have e1 : ((a : Int) != (x : Int)) = true := by simp; omega
          clear ha hax
          go_wp2_with fail
          go_roundw
          case rel => exact ⟨j + 1, by omega, by go_num, by first | trivial | rfl⟩
          case measure => simp [intOf]; omega
        · obtain rfl : j = m := by omega
          obtain ⟨gk, rfl, ck⟩ := hls.get (j := j) (x := x) (by rw [get_nI, HNT.out]; rfl)
          have e1 : ((x : Int) != (x : Int)) = false := by simp
          obtain ⟨b2, off2, e, _, hc2⟩ := HL.out.below hb (Nat.le_refl _) (by omega)
          obtain ⟨rfl, rfl⟩ : b = b2 ∧ off = off2 := by simpa using e
          have cp2 := hc2 x _ (get_parN hx)
          rw [HQ.out] at cp2
          have hrec := HIH.out w2 (HL.out.below hb (Nat.le_refl _)) hql
          have HB := Lib.hid hb
          clear hc2 hb hls e
          go_wp2_with (first | (at_builtin; go_loud (refine wpList_append_ls _ rfl (.tmp 32) (.tmp 34) rfl (nI (wayN l q)) h3 (wayN l q).length (length_nI _).symm rfl hsz ⟨w3.heap.size, 0, none⟩ 1 1 [(j : Int)] rfl rfl (by omega) nb (by omega) ?_); intro g' cap' w4 h4 hk4 hw4 hl4) | (go_at_call 16; refine hrec.mono ?_; rintro e w3 ⟨A3, c3, rfl, hls3, hb3⟩; have h3 := (hls3.below ((Below.refl w3.heap.size w3).alloc (Nat.le_refl _) (.cells #[.int .i64 j] 3)) (Nat.le_refl _)).mono HB.out.size; have hb4 := (HB.out.trans (hb3.mono HB.out.size)).alloc ((HB.out.trans (hb3.mono HB.out.size)).size) (.cells #[.int .i64 j] 3); have nb := one_cell ((Blk.new w3 3 [.int .i64 j]).cell 0); have hsz := hb4.size))
          go_ret
          refine ⟨_, cap', rfl, ?_, hb4.trans (hk4.below hb4.size h3.at_)⟩
          rw [nI_append]; exact h4

set_option maxRecDepth 20000 in
set_option maxHeartbeats 1000000 in
theorem rfind_ok (w : World) (hL : Sv w A l) (few : l.length ≤ 1000) (D : Option Addr) (cd : Nat) (q : List Int) (hq : Sv w D q) (hm : q.length ≤ maxLen) (u v : Int) (hv : findV l q = (u, v)) :
    Calls Try.prog 18 #[.slice A l.length cap, .slice D q.length cd] w fun e w' => e = .returned (.tuple #[.int .i64 u, .int .i64 v]) ∧ Below w.heap.size w w' := by
  by_cases h0 : l = []
  · subst h0
    obtain ⟨rfl, rfl⟩ : u = 0 ∧ v = 17 := by simp [findV] at hv; omega
    simp only [List.length_nil]
    go_enter Try.func18, Try.ntmps18
    go_wp2_with fail
    go_ret2
    exact ⟨rfl, Below.refl _ w⟩
  · have hl0 : 0 < l.length := List.length_pos_iff.2 h0
    unfold findV at hv
    rw [if_neg h0] at hv
    have HL := Lib.hid hL
    have HQ := Lib.hid hq
    have HV := Lib.hid hv
    have dn : ((l.length : Int) == 0) = false := by simp; omega
    have hql : (q.length : Int) ≤ 9223372036854775807 := by unfold maxLen at hm; omega
    clear h0 hq hv hL
    go_enter Try.func18, Try.ntmps18
    go_wp2_with fail
    go_loopw [6, 7] (fun x i wr => ∃ (y k : Nat), k ≤ q.length ∧ y < l.length ∧ x = .int .i64 y ∧ i = .int .i64 k ∧ findN l 0 (q.take k) = some y ∧ Below w.heap.size w wr) (fun _ i _ => q.length - (intOf i).toNat)
    case atStart => exact ⟨0, 0, Nat.zero_le _, hl0, rfl, rfl, rfl, Below.refl _ w⟩
    case round =>
      obtain ⟨y, k, hk, hy, rfl, rfl, hf, hb⟩ := hrel
      have HF := Lib.hid hf
      clear hf
      by_cases hlt : k < q.length
      · obtain ⟨n, hn⟩ : ∃ n, q[k]? = some n := ⟨q[k], by simp [hlt]⟩
        have hki : (k : Int) < (q.length : Int) := by omega
        have hkids : kidI l y = nI (kN l y) := by unfold kidI; rw [inK_nat hy]; rfl
        have hkk := rkids_ok (A := A) (cap := cap) wr (HL.out.below hb (Nat.le_refl _)) few y
        rw [hkids, length_nI] at hkk
        have hkl := kN_length l y
        have HNN := Lib.hid hn
        have HB := Lib.hid hb
        clear hn hkids hb
        by_cases hneg : n < 0
        · have hnone := findN_none_of HF.out HNN.out (by omega)
          obtain ⟨rfl, rfl⟩ : u = 0 ∧ v = 17 := by have := HV.out; rw [hnone] at this; simp at this; omega
          have d1 : decide (n < 0) = true := by simp; omega
          clear hnone
          go_wp2_with (go_at_call 27; refine hkk.mono ?_; rintro e w2 ⟨Ak, ck, rfl, hls, hb2⟩; have hbb := HB.out.trans (hb2.mono HB.out.size); obtain ⟨b, off, rfl, _, hc⟩ := HQ.out.below hbb (Nat.le_refl _) (by omega); have cq := hc k n HNN.out; clear hc hls hb2)
          go_ret2
          exact ⟨rfl, hbb⟩
        · have d1 : decide (n < 0) = false := by simp; omega
          by_cases hge : ((kN l y).length : Int) ≤ n
          · have hnone := findN_none_of HF.out HNN.out (by omega)
            obtain ⟨rfl, rfl⟩ : u = 0 ∧ v = 17 := by have := HV.out; rw [hnone] at this; simp at this; omega
            have d2 : decide (((kN l y).length : Int) ≤ n) = true := by simp; omega
            clear hnone
            go_wp2_with (go_at_call 27; refine hkk.mono ?_; rintro e w2 ⟨Ak, ck, rfl, hls, hb2⟩; have hbb := HB.out.trans (hb2.mono HB.out.size); obtain ⟨b, off, rfl, _, hc⟩ := HQ.out.below hbb (Nat.le_refl _) (by omega); have cq := hc k n HNN.out; clear hc hls hb2)
            go_ret2
            exact ⟨rfl, hbb⟩
          · have d2 : decide (((kN l y).length : Int) ≤ n) = false := by simp; omega
            obtain ⟨m, rfl⟩ : ∃ m : Nat, n = m := ⟨n.toNat, by omega⟩
            have hml : m < (kN l y).length := by omega
            obtain ⟨z, hz⟩ : ∃ z, (kN l y)[m]? = some z := ⟨(kN l y)[m], by simp [hml]⟩
            have hzl := (nthN_kid hz).1
            have hzt := findN_take HF.out HNN.out (by omega) (z := z) (by simpa using hz)
            have hmi : (m : Int) < ((kN l y).length : Int) := by omega
            have HZ := Lib.hid hzt
            have HZ1 := Lib.hid hz
            clear hz hzt hge hneg
            go_wp2_with (go_at_call 27; refine hkk.mono ?_; rintro e w2 ⟨Ak, ck, rfl, hls, hb2⟩; have hbb := HB.out.trans (hb2.mono HB.out.size); obtain ⟨b, off, rfl, _, hc⟩ := HQ.out.below hbb (Nat.le_refl _) (by omega); have cq := hc k m HNN.out; obtain ⟨gk, rfl, ckz⟩ := hls.get (j := m) (x := z) (by rw [get_nI, HZ1.out]; rfl); clear hc hls hb2)
            go_roundw
            case rel => exact ⟨z, k + 1, by omega, hzl, rfl, by go_num, HZ.out, hbb⟩
            case measure => simp [intOf]; omega
      · obtain rfl : k = q.length := by omega
        have hfy : findN l 0 q = some y := by have := HF.out; rwa [List.take_length] at this
        obtain ⟨rfl, rfl⟩ : u = y ∧ v = 0 := by have := HV.out; rw [hfy] at this; simp at this; omega
        clear hfy
        go_wp2_with fail
        go_ret2
        exact ⟨rfl, hb⟩
end
end Go.Proofs.Ytogobpnbkmdnfaa
