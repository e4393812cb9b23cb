/-
  WHAT IS PROVED HERE: contracts of the reference's Order and Add (pelotonref16). Conditions: the slice reads a tree's parents; Add: it is one's own.
-/
import Derived.Test.YtogobpnbkmdnfaaKinE
namespace Go.Proofs.Ytogobpnbkmdnfaa
open Go.RowKit

section
variable {A : Option Addr} {cap : Nat} {l : List Int}
theorem rord_no (w : World) (x : Int) (hx : inK l.length x = false) :
    Calls Try.prog 19 #[.slice A l.length cap, .int .i64 x] w fun e w' => ∃ A' cap', e = .returned (.slice A' 0 cap') ∧ Ls w' w.heap.size A' cap' [] ∧ Below w.heap.size w w' := by
  have he : Ls (w.alloc (.cells #[] 3)) w.heap.size (some ⟨w.heap.size, 0, none⟩) 0 [] := .inr ⟨w.heap.size, rfl, Rw.of (Blk.new w 3 []) (Nat.zero_le _), Nat.le_refl _⟩
  have hb : Below w.heap.size w (w.alloc (.cells #[] 3)) := (Below.refl _ w).alloc (Nat.le_refl _) _
  have hr := ris_ok (A := A) (cap := cap) l.length (w.alloc (.cells #[] 3)) x false hx
  go_enter Try.func19, Try.ntmps19
  go_wp2_with (go_at_call 14; refine hr.mono ?_; rintro e w2 ⟨rfl, rfl⟩)
  go_ret
  exact ⟨_, 0, rfl, he, hb⟩
set_option maxRecDepth 20000 in
set_option maxHeartbeats 2000000 in
theorem rord_ok (hw : WfP l) (few : l.length ≤ 1000) : ∀ (x : Nat), x < l.length → ∀ (w : World), Sv w A l →
    Calls Try.prog 19 #[.slice A l.length cap, .int .i64 x] w fun e w' => ∃ A' cap', e = .returned (.slice A' (ordN l x).length cap') ∧ Ls w' w.heap.size A' cap' (nI (ordN l x)) ∧ Below w.heap.size w w' := by
  refine ordN_ind hw (fun x hx ih w hL => ?_)
  have hol := ordN_length hw hx
  have hst := ordN_step hw hx
  obtain ⟨O, hO⟩ : ∃ O, ordN l x = O := ⟨_, rfl⟩
  rw [hO] at hol hst ⊢
  obtain ⟨ks, hks⟩ : ∃ ks, kN l x = ks := ⟨_, rfl⟩
  rw [hks] at hst ih
  have hkl : ks.length ≤ 1000 := by rw [← hks]; have := kN_length l x; omega
  have hkid : kidI l x = nI ks := by unfold kidI; rw [inK_nat hx]; show nI (kN l x) = nI ks; rw [hks]
  have hklt : ∀ k, k ∈ ks → k < l.length := fun k hk => by rw [← hks] at hk; exact (kN_gt hw hk).2
  have he : Ls (w.alloc (.cells #[] 3)) w.heap.size (some ⟨w.heap.size, 0, none⟩) 0 [] := .inr ⟨w.heap.size, rfl, Rw.of (Blk.new w 3 []) (Nat.zero_le _), Nat.le_refl _⟩
  have hb0 : Below w.heap.size w (w.alloc (.cells #[] 3)) := (Below.refl _ w).alloc (Nat.le_refl _) _
  have hr := ris_ok (A := A) (cap := cap) l.length (w.alloc (.cells #[] 3)) x true (inK_nat hx)
  have hA1 := he.below ((Below.refl (w.alloc (.cells #[] 3)).heap.size (w.alloc (.cells #[] 3))).alloc (Nat.le_refl _) (.cells #[.int .i64 x] 3)) (Nat.le_refl _)
  have hb1 := hb0.alloc hb0.size (.cells #[.int .i64 x] 3)
  have nb1 := one_cell ((Blk.new (w.alloc (.cells #[] 3)) 3 [.int .i64 x]).cell 0)
  have hs1 := hb1.size
  have z1 : (w.alloc (.cells #[] 3)).heap.size = w.heap.size + 1 := by simp
  rw [z1] at nb1
  have hf1 := he.at_
  have HL := Lib.hid hL
  have HIH := Lib.hid ih
  have HST := Lib.hid hst
  have HKL := Lib.hid hklt
  have HB1 := Lib.hid hb1
  have HA1 := Lib.hid hA1
  have NB1 := Lib.hid nb1
  have HKID := Lib.hid hkid
  clear hL ih hst hklt he hb0 hks hO hkid hb1 hA1 nb1
  go_enter Try.func19, Try.ntmps19
  go_upto_region 5 with (first | (at_builtin; go_loud (refine wpList_append_ls _ rfl (.tmp 14) (.tmp 16) rfl [] HA1.out 0 rfl rfl hs1 ⟨w.heap.size + 1, 0, none⟩ 1 1 [(x : Int)] rfl rfl (by omega) NB1.out (by omega) ?_); intro g2 c2 w2 h2 hk2 hw2 hl2; have H2 := Lib.hid h2; have HK2 := Lib.hid hk2; clear h2 hk2 hw2) | (go_at_call 14; refine hr.mono ?_; rintro e w2 ⟨rfl, rfl⟩))
  have hb2 : Below w.heap.size w w2 := HB1.out.trans (HK2.out.below HB1.out.size HA1.out.at_)
  have hkk := rkids_ok (A := A) (cap := cap) w2 (HL.out.below hb2 (Nat.le_refl _)) few x
  rw [HKID.out, length_nI] at hkk
  have HB2 := Lib.hid hb2
  clear hb2
  go_wp2_with (go_at_call 27; refine hkk.mono ?_; rintro e w3 ⟨Ak, ck, rfl, hls, hb3⟩)
  have hb4 : Below w.heap.size w w3 := HB2.out.trans (hb3.mono HB2.out.size)
  have h4 : Ls w3 w.heap.size (some ⟨g2, 0, none⟩) c2 (nI [x]) := H2.out.below hb3 (Nat.le_refl _)
  have hne : ∀ k, Ak = some ⟨k, 0, none⟩ → k ≠ g2 := fun k e e2 => by have := hls.at_ k e; omega
  clear hkk hb3 H2 HK2 HB2 hr
  go_loopw [5, 7] (fun o i wr => ∃ (k : Nat) (g c n : Nat), k ≤ ks.length ∧ i = .int .i64 k ∧ o = .slice (some ⟨g, 0, none⟩) n c ∧ Hid (n = ((ks.take k).flatMap (ordN l)).length + 1) ∧ Ls wr w.heap.size (some ⟨g, 0, none⟩) c (nI (x :: (ks.take k).flatMap (ordN l))) ∧ Ls wr w2.heap.size Ak ck (nI ks) ∧ Hid (∀ k, Ak = some ⟨k, 0, none⟩ → k ≠ g) ∧ Below w.heap.size w wr) (fun _ i _ => ks.length - (intOf i).toNat)
  case atStart => exact ⟨0, g2, c2, 1, Nat.zero_le _, rfl, rfl, Lib.hid (by simp), h4, hls, Lib.hid hne, hb4⟩
  case round =>
    clear h4 hls hb4 hne
    obtain ⟨k, g, c, n, hk, rfl, rfl, HLN, ho, hls, HNE, hb⟩ := hrel
    by_cases hlt : k < ks.length
    · obtain ⟨z, hz⟩ : ∃ z, ks[k]? = some z := ⟨ks[k], by simp [hlt]⟩
      have hzm : z ∈ ks := List.mem_of_getElem? hz
      have hzl := HKL.out z hzm
      obtain ⟨gk, rfl, cz⟩ := hls.get (j := k) (x := z) (by rw [get_nI, hz]; rfl)
      have hrec := HIH.out z hzm wr (HL.out.below hb (Nat.le_refl _))
      have hft := flat_take (ordN l) ks hz
      have hfl := flat_take_le (ordN l) ks (k + 1)
      have hpos := ordN_length_pos l z
      have hOl : O.length = (ks.flatMap (ordN l)).length + 1 := by rw [HST.out]; rfl
      rw [hft, List.length_append] at hfl
      obtain ⟨m, hm⟩ : ∃ m, (ordN l z).length = m := ⟨_, rfl⟩
      rw [hm] at hrec hfl hpos
      have hbnd : n + m ≤ 1000 := by have := HLN.out; omega
      have HM := Lib.hid hm
      have HPOS : Hid (0 < (ordN l z).length) := Lib.hid (by rw [hm]; exact hpos)
      clear hOl hfl hm
      have hki : (k : Int) < (ks.length : Int) := by omega
      have HO := Lib.hid ho
      have HLS := Lib.hid hls
      have HB := Lib.hid hb
      have HFT := Lib.hid hft
      clear ho hls hb hft hz hzm
      go_wp2_with (first | (at_builtin; go_loud (refine wpList_append_ls _ rfl (.tmp 27) (.tmp 33) rfl (nI (x :: (ks.take k).flatMap (ordN l))) h5 n (by rw [length_nI, HLN.out]; rfl) rfl hb5.size ⟨g5, 0, none⟩ m c5 (nI (ordN l z)) rfl (by rw [length_nI]; exact HM.out.symm) hpos hc5 (by omega) ?_); intro g6 c6 w6 h6 hk6 hw6 hl6; have H6 := Lib.hid h6; have HK6 := Lib.hid hk6; have HW6 := Lib.hid hw6; clear h6 hk6 hw6) | (go_at_call 19; refine hrec.mono ?_; rintro e w5 ⟨A5, c5, rfl, hls5, hb5'⟩; obtain ⟨g5, rfl, _⟩ := hls5.get (j := 0) (x := (ordN l z)[0]'HPOS.out) (by rw [get_nI, List.getElem?_eq_getElem (HPOS.out)]; rfl); have hc5 := ls_cells hls5; have h5 := HO.out.below hb5' (Nat.le_refl _); have hk5 := HLS.out.below hb5' (Nat.le_refl _); have hb5 := HB.out.trans (hb5'.mono HB.out.size); have hz5 := hb5'.size))
      have hlo : g < wr.heap.size := by
        rcases HO.out with ⟨e, _⟩ | ⟨g', e, hr, _⟩
        · cases e
        · obtain rfl : g = g' := by simpa using e
          exact hr.lt
      have hlk : gk < wr.heap.size := by
        rcases HLS.out with ⟨e, _⟩ | ⟨g', e, hr, _⟩
        · cases e
        · obtain rfl : gk = g' := by simpa using e
          exact hr.lt
      have hgk := HNE.out gk rfl
      go_roundw
      case rel =>
        refine ⟨k + 1, g6, c6, n + m, by omega, by go_num, rfl, Lib.hid ?_, ?_, ?_, Lib.hid (fun q eq => ?_), hb5.trans (HK6.out.below hb5.size h5.at_)⟩
        · rw [HFT.out, List.length_append, HLN.out, HM.out]; omega
        · have e1 : nI (x :: (ks.take (k + 1)).flatMap (ordN l)) = nI (x :: (ks.take k).flatMap (ordN l)) ++ nI (ordN l z) := by rw [HFT.out, ← List.cons_append, nI_append]
          rw [e1]; exact H6.out
        · exact hk5.kept HK6.out (fun q eq e2 => by
            have e3 : gk = q := congrArg Addr.block (Option.some.inj eq)
            have e4 : g = q := congrArg Addr.block (Option.some.inj e2)
            omega)
        · have e3 : gk = q := by simpa using eq
          rcases HW6.out with e | e
          · have : g = g6 := by simpa using e
            omega
          · omega
      case measure => simp [intOf]; omega
    · obtain rfl : k = ks.length := by omega
      have HO := Lib.hid ho
      have hO : O = x :: (ks.take ks.length).flatMap (ordN l) := by rw [HST.out, List.take_length]
      have HOO := Lib.hid hO
      have HB := Lib.hid hb
      clear ho hls hb hO
      go_wp2_with fail
      go_ret
      exact ⟨_, c, by rw [HOO.out, List.length_cons, ← HLN.out]; rfl, by rw [HOO.out]; exact HO.out, HB.out⟩

/-! ## Add -/
/-- What Add says to a parent. -/
def addC (l : List Int) (x : Int) : Int := if x ≠ -1 ∧ inK l.length x = false then 17 else if x = -1 ∧ l ≠ [] then 18 else 0
/-- The tasks behind it. -/
def addL (l : List Int) (x : Int) : List Int := if addC l x = 0 then l ++ [x] else l
theorem addC_ok {l : List Int} {x : Int} (h : addC l x = 0) : (l = [] ∧ x = -1) ∨ (0 ≤ x ∧ x < l.length) := by
  unfold addC at h
  split at h
  · omega
  · next h1 =>
    split at h
    · omega
    · next h2 =>
      by_cases hx : x = -1
      · left
        refine ⟨?_, hx⟩
        by_cases hl : l = []
        · exact hl
        · exact absurd ⟨hx, hl⟩ h2
      · right
        cases hi : inK l.length x with
        | true => exact inK_iff.1 hi
        | false => exact absurd ⟨hx, hi⟩ h1
theorem WfP.add {l : List Int} (h : WfP l) (x : Int) : WfP (addL l x) := by
  unfold addL
  split
  · next h0 => exact h.snoc (addC_ok h0)
  · exact h
theorem addL_length (l : List Int) (x : Int) : (addL l x).length ≤ l.length + 1 := by unfold addL; split <;> simp
set_option maxHeartbeats 1000000 in
theorem radd_no (w : World) (x c : Int) (hc : addC l x = c) (h0 : c ≠ 0) :
    Calls Try.prog 31 #[.slice A l.length cap, .int .i64 x] w fun e w' => e = .returned (.tuple #[.slice A l.length cap, .int .i64 0, .int .i64 c]) ∧ w = w' := by
  unfold addC at hc
  split at hc
  · next h1 =>
    obtain ⟨hx, hi⟩ := h1
    subst hc
    have hr := ris_ok (A := A) (cap := cap) l.length w x false hi
    have e1 : (x != -1) = true := by simp [hx]
    go_enter Try.func31, Try.ntmps31
    go_wp2_with (go_at_call 14; refine hr.mono ?_; rintro e w2 ⟨rfl, rfl⟩)
    go_ret3
    exact ⟨rfl, by first | trivial | rfl⟩
  · split at hc
    · next h2 =>
      obtain ⟨rfl, hl⟩ := h2
      subst hc
      have hl0 : 0 < l.length := List.length_pos_iff.2 hl
      have d1 : decide ((0 : Int) < (l.length : Int)) = true := by simp; exact hl0
      go_enter Try.func31, Try.ntmps31
      go_wp2_with fail
      go_ret3
      exact ⟨rfl, by first | trivial | rfl⟩
    · exact absurd hc.symm h0
set_option maxHeartbeats 1000000 in
theorem radd_ok (w : World) (B : Nat) (hB : B ≤ w.heap.size) (hl : Ls w B A cap l) (few : l.length ≤ 1000) (x : Int) (hc : addC l x = 0) :
    Calls Try.prog 31 #[.slice A l.length cap, .int .i64 x] w fun e w' => ∃ g' c', e = .returned (.tuple #[.slice (some ⟨g', 0, none⟩) (l.length + 1) c', .int .i64 l.length, .int .i64 0]) ∧
      Ls w' B (some ⟨g', 0, none⟩) c' (l ++ [x]) ∧ Kept (fun k => A = some ⟨k, 0, none⟩) w w' ∧ (A = some ⟨g', 0, none⟩ ∨ w.heap.size ≤ g') := by
  have h1 := hl.below ((Below.refl w.heap.size w).alloc (Nat.le_refl _) (.cells #[.int .i64 x] 3)) (Nat.le_refl _)
  have k1 : Kept (fun k => A = some ⟨k, 0, none⟩) w (w.alloc (.cells #[.int .i64 x] 3)) := (Kept.refl _ w).alloc _
  have nb := one_cell ((Blk.new w 3 [.int .i64 x]).cell 0)
  have hsz : B ≤ (w.alloc (.cells #[.int .i64 x] 3)).heap.size := by simp; omega
  have H1 := Lib.hid h1
  have K1 := Lib.hid k1
  have NB := Lib.hid nb
  rcases addC_ok hc with ⟨rfl, rfl⟩ | ⟨h0, hlt⟩
  · clear hl h1 k1 nb hc
    simp only [List.length_nil]
    go_enter Try.func31, Try.ntmps31
    go_wp2_with (at_builtin; go_loud (refine wpList_append_ls _ rfl (.tmp 24) (.tmp 26) rfl [] H1.out 0 rfl rfl hsz ⟨w.heap.size, 0, none⟩ 1 1 [(-1 : Int)] rfl rfl (by omega) NB.out (by omega) ?_); intro g2 c2 w2 h2 hk2 hw2 hl2; have H2 := Lib.hid h2; have HK2 := Lib.hid hk2; have HW2 := Lib.hid hw2; clear h2 hk2 hw2)
    go_ret3
    refine ⟨g2, c2, rfl, H2.out, K1.out.trans HK2.out (fun _ _ e => e), HW2.out.imp id (fun e => by simp at e; omega)⟩
  · have hr := ris_ok (A := A) (cap := cap) l.length w x true (inK_iff.2 ⟨h0, hlt⟩)
    have e1 : (x != -1) = true := by simp; omega
    have e2 : (x == -1) = false := by simp; omega
    clear hl h1 k1 nb hc
    go_enter Try.func31, Try.ntmps31
    go_wp2_with (first | (at_builtin; go_loud (refine wpList_append_ls _ rfl (.tmp 24) (.tmp 26) rfl l H1.out l.length rfl rfl hsz ⟨w.heap.size, 0, none⟩ 1 1 [x] rfl rfl (by omega) NB.out (by omega) ?_); intro g2 c2 w2 h2 hk2 hw2 hl2; have H2 := Lib.hid h2; have HK2 := Lib.hid hk2; have HW2 := Lib.hid hw2; clear h2 hk2 hw2) | (go_at_call 14; refine hr.mono ?_; rintro e w2 ⟨rfl, rfl⟩))
    go_ret3
    refine ⟨g2, c2, rfl, H2.out, K1.out.trans HK2.out (fun _ _ e => e), HW2.out.imp id (fun e => by simp at e; omega)⟩
end
end Go.Proofs.Ytogobpnbkmdnfaa
