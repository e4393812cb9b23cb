/-
  WHAT IS PROVED HERE: the walk of pelotonlaw16.KinNil: true, whatever the input. Conditions: none.
-/
import Derived.Test.YtogobpnbkmdnfaaKinS
namespace Go.Proofs.Ytogobpnbkmdnfaa
open Go.RowKit

/-- A list of n numbers of one's own. -/
def LsN (w : World) (A : Option Addr) (c n : Nat) : Prop := ∃ xs, xs.length = n ∧ Ls w 0 A c xs
theorem LsN.kept {w w' : World} {A : Option Addr} {c n : Nat} (h : LsN w A c n) {S : Nat → Prop} (hk : Kept S w w') (hn : ∀ g, A = some ⟨g, 0, none⟩ → ¬ S g) : LsN w' A c n := by
  obtain ⟨xs, hl, h⟩ := h
  exact ⟨xs, hl, h.kept hk hn⟩
theorem LsN.get {w : World} {A : Option Addr} {c n : Nat} (h : LsN w A c n) {j : Nat} (hj : j < n) : ∃ g v, A = some ⟨g, 0, none⟩ ∧ w.cell? ⟨g, j, none⟩ = some (.int .i64 v) ∧ w.frozen? ⟨g, j, none⟩ = false ∧ n ≤ c := by
  obtain ⟨xs, hl, h⟩ := h
  have hr := h.room
  rcases h with ⟨_, _, rfl⟩ | ⟨g, e, h, _⟩
  · simp at hl; omega
  · exact ⟨g, xs[j]'(by omega), e, h.cell (by rw [get_ints]; simp [show j < xs.length by omega]), h.frozen j, by omega⟩
theorem LsN.set {w : World} {g c n : Nat} (h : LsN w (some ⟨g, 0, none⟩) c n) {j : Nat} (hj : j < n) (v : Int) : LsN (w.setCell ⟨g, j, none⟩ (.int .i64 v)) (some ⟨g, 0, none⟩) c n := by
  obtain ⟨xs, hl, h⟩ := h
  rcases h with ⟨e, _⟩ | ⟨g', e, h, _⟩
  · cases e
  · have e2 : g = g' := congrArg Addr.block (Option.some.inj e)
    subst e2
    refine ⟨xs.set j v, by simpa using hl, .inr ⟨g, rfl, ?_, Nat.zero_le _⟩⟩
    have := h.set j (by rw [length_ints]; omega) (.int .i64 v)
    rwa [set_ints] at this
/-- What the three loops keep: the three lists; only blocks of S have turned. -/
structure Tri (S : Nat → Prop) (w0 : World) (A B C : Option Addr) (a b c : Nat) (ca cb cc : Nat) (w : World) : Prop where
  k : Kept S w0 w
  la : LsN w A ca a
  lb : LsN w B cb b
  lc : LsN w C cc c
section
variable {S : Nat → Prop} {w0 w : World} {A B C : Option Addr} {a b c ca cb cc : Nat}
theorem Tri.setA {g : Nat} (h : Tri S w0 (some ⟨g, 0, none⟩) B C a b c ca cb cc w) (hS : S g) (hB : B ≠ some ⟨g, 0, none⟩) (hC : C ≠ some ⟨g, 0, none⟩) {j : Nat} (hj : j < a) (v : Int) : Tri S w0 (some ⟨g, 0, none⟩) B C a b c ca cb cc (w.setCell ⟨g, j, none⟩ (.int .i64 v)) := by
  have hk : Kept (fun k => k = g) w (w.setCell ⟨g, j, none⟩ (.int .i64 v)) := (Kept.refl (fun k => k = g) w).setCell (p := ⟨g, j, none⟩) (.inl rfl) _
  exact ⟨h.k.setCell (p := ⟨g, j, none⟩) (.inl hS) _, h.la.set hj v, h.lb.kept hk (fun q e e2 => hB (e2 ▸ e)), h.lc.kept hk (fun q e e2 => hC (e2 ▸ e))⟩
theorem Tri.rot (h : Tri S w0 A B C a b c ca cb cc w) : Tri S w0 B C A b c a cb cc ca w := ⟨h.k, h.lb, h.lc, h.la⟩
end
theorem GrW.kept {w0 w w' : World} {p : Nat} {own : Nat → Prop} {A : Option Addr} {c : Nat} {l : List Int} {S : Nat → Prop} (h : GrW w0 w p own A c l) (hk : Kept S w w') (h1 : ∀ k, own k → ¬ S k) (h2 : ∀ k, A = some ⟨k, 0, none⟩ → ¬ S k) (h3 : ∀ k, S k → w0.heap.size ≤ k) : GrW w0 w' p own A c l :=
  ⟨h.t.kept hk h1, h.ls.kept hk h2, h.far, h.off, h.bel.trans (hk.below h.bel.size h3)⟩
theorem wrap_small {v : Int} (h : -1000000 ≤ v ∧ v ≤ 1000000) : wrap64 v = v := by unfold wrap64; omega
set_option maxRecDepth 20000 in
set_option maxHeartbeats 8000000 in
theorem kinNil_core (W : World) (A : Option Addr) (n c : Nat) (z : List Int) (hzn : z.length = n) (hnm : n ≤ maxLen) (hz : Sv W A z) (a b : Int) (D : Option Addr) (m d : Nat) :
    Calls Try.prog 8 #[.slice A n c, .agg #[.int .i64 a, .int .i64 b], .slice D m d] W fun e w' => e = .returned (.bool true) ∧ Below W.heap.size W w' := by
  have hbx : Blk (W.alloc (.cells #[.int .i64 a, .int .i64 b] 23)) W.heap.size 23 [.int .i64 a, .int .i64 b] := Blk.new W _ _
  have hb0 : Below W.heap.size W (W.alloc (.cells #[.int .i64 a, .int .i64 b] 23)) := (Below.refl _ W).alloc (Nat.le_refl _) _
  have hz1 := hz.alloc (.cells #[.int .i64 a, .int .i64 b] 23)
  have cb0 := hbx.cell
  have HBX := Lib.hid hbx
  have HZ := Lib.hid hz1
  have HB0 := Lib.hid hb0
  clear hz hz1 hbx hb0
  go_enter Try.func8, Try.ntmps8
  go_upto_region 5 with (first
    | (go_at_call 28; refine (kadd_nil a _).mono ?_; rintro e w2 ⟨rfl, rfl⟩)
    | (go_at_call 13; refine (kpath_nil a _).mono ?_; rintro e w2 ⟨rfl, rfl⟩)
    | (go_at_call 17; refine (kfind_nil D m d _).mono ?_; rintro e w2 ⟨rfl, rfl⟩))
  generalize W.alloc (.cells #[.int .i64 a, .int .i64 b] 23) = W1 at *
  have hbl := HBX.out.lt
  go_upto_region 7 with (first
    | (go_at_call 29; refine (klen_nil W1).mono ?_; rintro e w2 ⟨rfl, rfl⟩)
    | (go_at_call 26; refine (kparent_nil a W1).mono ?_; rintro e w2 ⟨rfl, hb2⟩; have cb2 := (HBX.out.below hb2 hbl).cell; have HB2 := Lib.hid hb2)
    | (go_at_call 25; refine (kkids_nil a w2).mono ?_; rintro e w3 ⟨rfl, hb3⟩; have HB3 := Lib.hid (HB2.out.trans (hb3.mono HB2.out.size)); have cb3 := (HBX.out.below HB3.out hbl).cell)
    | (go_at_call 11; refine (kdesc_nil a a w3).mono ?_; rintro e w4 ⟨rfl, hb4⟩; have HB4 := Lib.hid (HB3.out.trans (hb4.mono HB3.out.size)))
    | (go_at_call 22; refine (korder_nil w4).mono ?_; rintro e w5 ⟨A5, c5, rfl, _, hb5⟩; have HB5 := Lib.hid (HB4.out.trans (hb5.mono HB4.out.size)))
    | (go_at_call 21; refine (all_any none w5).mono ?_; rintro e w6 ⟨rfl, hw6⟩; have hbx6 : Blk w6 w5.heap.size 25 [.pointer none] := (by rw [← hw6]; exact Blk.new w5 _ _); have hb6 : Below w5.heap.size w5 w6 := (by rw [← hw6]; exact (Below.refl _ w5).alloc (Nat.le_refl _) _); have HB6 := Lib.hid (HB5.out.trans (hb6.mono HB5.out.size)); have HX6 := Lib.hid hbx6; clear hbx6 hw6)
    | (go_at_call 20; refine (kpairs_nil w6 9 (by omega) HX6.out).mono ?_; rintro e w7 ⟨g7, c7, rfl, hb7⟩; have HB7 := Lib.hid (HB6.out.trans (hb7.mono HB6.out.size))))
  clear cb0 cb2 cb3 hb2 hb3 hb4 hb5 hb6 hb7 HB2 HB3 HB4 HB5 HB6 HX6
  have hsm := small_ok w7 A c z (HZ.out.below HB7.out (Nat.le_refl _)) (by omega)
  rw [hzn] at hsm
  have HSM := Lib.hid hsm
  clear hsm
  go_upto_region 8 with (first
    | (go_at_call 23; refine HSM.out.mono ?_; rintro e w8 ⟨A2, c2, l, rfl, hls, hwf, hl60, hb8⟩; have hgr := grow_ok w8 A2 c2 l hls.sv (by omega); rw [gl_wf_self hwf] at hgr; have HGR := Lib.hid hgr; clear hgr)
    | (go_at_call 10; refine HGR.out.mono ?_; rintro e w9 ⟨p, own, A1, c1, rfl, hg⟩))
  have HB8 := Lib.hid (HB7.out.trans (hb8.mono HB7.out.size))
  have HG := Lib.hid hg
  have HWF := Lib.hid hwf
  clear hls hwf hb8 hg HGR HSM HB7
  have hb9 : Below W1.heap.size W1 w9 := HB8.out.trans (HG.out.bel.mono HB8.out.size)
  have HB9 := Lib.hid hb9
  clear hb9
  go_upto_region 11 with fail
  by_cases h0 : l.length = 0
  · have e0 : ((l.length : Int) == 0) = true := by simp [h0]
    go_wp2_with (go_at_call 9; refine (awake16 _).mono ?_; rintro e w6 ⟨rfl, hb⟩)
    go_ret
    exact ⟨rfl, HB0.out.trans ((HB9.out.trans (hb.mono HB9.out.size)).mono HB0.out.size)⟩
  · have cb := (HBX.out.below HB9.out hbl).cell
    obtain ⟨N, hN⟩ : ∃ N, l.length = N := ⟨_, rfl⟩
    rw [hN] at hl60 h0 ⊢
    have e0 : ((N : Int) == 0) = false := by simp; omega
    obtain ⟨a0, a1, a2, a3⟩ := brought (x := a) (k := N) (by omega)
    obtain ⟨b0, b1, b2, b3⟩ := brought (x := b) (k := N) (by omega)
    obtain ⟨ra, hra⟩ : ∃ r, a.tmod N = r := ⟨_, rfl⟩
    obtain ⟨rb, hrb⟩ : ∃ r, b.tmod N = r := ⟨_, rfl⟩
    rw [hra] at a0 a1 a2 a3
    rw [hrb] at b0 b1 b2 b3
    obtain ⟨x, hx⟩ : ∃ x : Nat, (ra + N).tmod N = x := ⟨((ra + N).tmod N).toNat, by omega⟩
    obtain ⟨y, hy⟩ : ∃ y : Nat, (rb + N).tmod N = y := ⟨((rb + N).tmod N).toNat, by omega⟩
    rw [hx] at a0 a1
    rw [hy] at b0 b1
    have hnz : ¬ (N : Int) = 0 := by omega
    have hxN : x < N := by omega
    have hyN : y < N := by omega
    have hxl : x < l.length := by omega
    have hyl : y < l.length := by omega
    obtain ⟨Y, hY, hY1⟩ : ∃ Y : Nat, (y : Int) + 1 = Y ∧ Y = y + 1 := ⟨y + 1, rfl, rfl⟩
    have HY := Lib.hid hY
    have HY1 := Lib.hid hY1
    have hYN : Y ≤ N := by omega
    have hY0 : 1 ≤ Y := by omega
    clear hY hY1
    have few : l.length ≤ 1000 := by omega
    have hkl0 : (kidI l x).length ≤ 60 := by have := kidI_length l x; omega
    have hwl0 : (wayN l x).length ≤ 60 := by have := wayN_length HWF.out hxl; omega
    have HN := Lib.hid hN
    have qa : -1000000 ≤ ra + (N : Int) ∧ ra + (N : Int) ≤ 1000000 := by omega
    have qb : -1000000 ≤ rb + (N : Int) ∧ rb + (N : Int) ≤ 1000000 := by omega
    have qy : -1000000 ≤ (y : Int) + 1 ∧ (y : Int) + 1 ≤ 1000000 := by omega
    have wa := wrap_small qa
    have wb := wrap_small qb
    have wy := wrap_small qy
    clear hN qa qb qy
    go_upto_region 15 with fail
    rw [wy, HY.out]
    clear hra hrb hx hy wa wb wy cb a0 a1 a2 a3 b0 b1 b2 b3 hnz e0 HY
    -- the three lists
    obtain ⟨K, hK⟩ : ∃ K, kidI l x = K := ⟨_, rfl⟩
    obtain ⟨nk, hnk⟩ : ∃ nk, K.length = nk := ⟨_, rfl⟩
    have hnk2 : nk ≤ 60 := by rw [← hnk, ← hK]; exact hkl0
    obtain ⟨O, hO⟩ : ∃ O, nI (allN l) = O := ⟨_, rfl⟩
    have hal : (allN l).length = N := by rw [allN_length HWF.out, HN.out]
    have hno : O.length = N := by rw [← hO, length_nI, hal]
    obtain ⟨P, hP⟩ : ∃ P, nI (wayN l x) = P := ⟨_, rfl⟩
    obtain ⟨np, hnp⟩ : ∃ np, P.length = np := ⟨_, rfl⟩
    have hlp : (wayN l x).length = np := by rw [← hnp, ← hP, length_nI]
    have hnp2 : np ≤ 60 := by rw [← hlp]; exact hwl0
    have HK := Lib.hid hK
    have HO := Lib.hid hO
    have HP := Lib.hid hP
    have NK := Lib.hid hnk
    have NO := Lib.hid hno
    have NP := Lib.hid hnp
    have NL := Lib.hid hlp
    have HAL := Lib.hid hal
    clear hK hnk hO hal hno hP hnp hlp
    have hk1 := kkids_ok HG.out.t few x
    rw [HK.out, NK.out] at hk1
    have HK1 := Lib.hid hk1
    clear hk1
    go_upto_region 16 with (go_at_call 25; refine HK1.out.mono ?_; rintro e w10 ⟨A10, c10, rfl, hls10, hb10⟩)
    have HG10 := Lib.hid (HG.out.below hb10)
    have HL10 := Lib.hid hls10
    have hs10 := hb10.size
    have hk1 := korder_ok HG10.out.t few
    rw [HO.out, HAL.out] at hk1
    have HO1 := Lib.hid hk1
    clear hk1 hb10 hls10 HK1
    go_upto_region 17 with (go_at_call 22; refine HO1.out.mono ?_; rintro e w11 ⟨A11, c11, rfl, hls11, hb11⟩)
    have HG11 := Lib.hid (HG10.out.below hb11)
    have HM10 := Lib.hid (HL10.out.below hb11 (Nat.le_refl _))
    have HL11 := Lib.hid hls11
    have hs11 := hb11.size
    have hk1 := kpath_ok HG11.out.t few x hxl
    rw [HP.out, NL.out] at hk1
    have HP1 := Lib.hid hk1
    clear hk1 hb11 hls11 HO1 HG10
    go_upto_region 18 with (go_at_call 13; refine HP1.out.mono ?_; rintro e w12 ⟨A12, c12, rfl, hls12, hb12⟩)
    have HG12 := Lib.hid (HG11.out.below hb12)
    have HN10 := Lib.hid (HM10.out.below hb12 (Nat.le_refl _))
    have HM11 := Lib.hid (HL11.out.below hb12 (Nat.le_refl _))
    have hs12 := hb12.size
    have D1 : Hid (∀ g, A10 = some ⟨g, 0, none⟩ → w9.heap.size ≤ g ∧ g < w10.heap.size) := Lib.hid (fun g e => ⟨HL10.out.at_ g e, HL10.out.lt g e⟩)
    have D2 : Hid (∀ g, A11 = some ⟨g, 0, none⟩ → w10.heap.size ≤ g ∧ g < w11.heap.size) := Lib.hid (fun g e => ⟨HL11.out.at_ g e, HL11.out.lt g e⟩)
    have D3 : Hid (∀ g, A12 = some ⟨g, 0, none⟩ → w11.heap.size ≤ g ∧ g < w12.heap.size) := Lib.hid (fun g e => ⟨hls12.at_ g e, hls12.lt g e⟩)
    have HL12 := Lib.hid hls12
    clear hls12 hb12 HP1 HG11 HM10 HL10 HL11
    -- what was told
    have hE : Ls (w12.alloc (.cells #[] 3)) w12.heap.size (some ⟨w12.heap.size, 0, none⟩) 0 [] := .inr ⟨w12.heap.size, rfl, Rw.of (Blk.new w12 3 []) (Nat.zero_le _), Nat.le_refl _⟩
    have hbe : Below w12.heap.size w12 (w12.alloc (.cells #[] 3)) := (Below.refl _ w12).alloc (Nat.le_refl _) _
    have HE := Lib.hid hE
    have HBE := Lib.hid hbe
    have HA1 := Lib.hid (HN10.out.below hbe (Nat.le_refl _))
    have HA2 := Lib.hid (HM11.out.below hbe (Nat.le_refl _))
    have HA3 := Lib.hid (HL12.out.below hbe (Nat.le_refl _))
    have hse := hbe.size
    clear hE hbe
    clear HA1 HA2 HA3
    go_upto_region 19 with (first
      | (at_builtin; (refine wpList_append_gen _ rfl (.tmp 157) (.tmp 158) rfl [] K HE.out hse (HN10.out.below HBE.out (Nat.le_refl _)) 0 nk rfl NK.out.symm rfl rfl (by omega) ?_); (intro A13 c13 w13 h13 hk13 hw13; have HB13 := Lib.hid (HBE.out.trans (hk13.below hse HE.out.at_)); have H13 := Lib.hid h13; clear h13 hk13 hw13))
      | (at_builtin; (refine wpList_append_gen _ rfl (.tmp 159) (.tmp 160) rfl ([] ++ K) O H13.out HB13.out.size (HM11.out.below HB13.out (Nat.le_refl _)) nk N (by simp [NK.out]) NO.out.symm rfl rfl (by omega) ?_); (intro A14 c14 w14 h14 hk14 hw14; have HB14 := Lib.hid (HB13.out.trans (hk14.below HB13.out.size H13.out.at_)); have H14 := Lib.hid h14; clear h14 hk14 hw14))
      | (at_builtin; (refine wpList_append_gen _ rfl (.tmp 161) (.tmp 162) rfl ([] ++ K ++ O) P H14.out HB14.out.size (HL12.out.below HB14.out (Nat.le_refl _)) (nk + N) np (by simp [NK.out, NO.out]) NP.out.symm rfl rfl (by omega) ?_); (intro A15 c15 w15 h15 hk15 hw15; have HB15 := Lib.hid (HB14.out.trans (hk15.below HB14.out.size H14.out.at_)); have H15 := Lib.hid h15; clear h15 hk15 hw15)))
    obtain ⟨S, hS⟩ : ∃ S : Nat → Prop, S = fun g => w9.heap.size ≤ g ∧ g < w12.heap.size := ⟨_, rfl⟩
    have HS := Lib.hid hS
    have hsz12 : w9.heap.size ≤ w10.heap.size ∧ w10.heap.size ≤ w11.heap.size ∧ w11.heap.size ≤ w12.heap.size := ⟨hs10, hs11, hs12⟩
    have E1 : Hid (∀ g, A10 = some ⟨g, 0, none⟩ → S g ∧ A11 ≠ some ⟨g, 0, none⟩ ∧ A12 ≠ some ⟨g, 0, none⟩) := Lib.hid (fun g e => by
      have h := D1.out g e
      exact ⟨by rw [HS.out]; exact ⟨h.1, by omega⟩, fun e2 => by have := D2.out g e2; omega, fun e2 => by have := D3.out g e2; omega⟩)
    have E2 : Hid (∀ g, A11 = some ⟨g, 0, none⟩ → S g ∧ A12 ≠ some ⟨g, 0, none⟩ ∧ A10 ≠ some ⟨g, 0, none⟩) := Lib.hid (fun g e => by
      have h := D2.out g e
      exact ⟨by rw [HS.out]; exact ⟨by omega, by omega⟩, fun e2 => by have := D3.out g e2; omega, fun e2 => by have := D1.out g e2; omega⟩)
    have E3 : Hid (∀ g, A12 = some ⟨g, 0, none⟩ → S g ∧ A10 ≠ some ⟨g, 0, none⟩ ∧ A11 ≠ some ⟨g, 0, none⟩) := Lib.hid (fun g e => by
      have h := D3.out g e
      exact ⟨by rw [HS.out]; exact ⟨by omega, by omega⟩, fun e2 => by have := D1.out g e2; omega, fun e2 => by have := D2.out g e2; omega⟩)
    have T0 : Hid (Tri S w15 A10 A11 A12 nk N np c10 c11 c12 w15) := Lib.hid ⟨Kept.refl _ _, ⟨K, NK.out, (HN10.out.below HB15.out (Nat.le_refl _)).mono (Nat.zero_le _)⟩, ⟨O, NO.out, (HM11.out.below HB15.out (Nat.le_refl _)).mono (Nat.zero_le _)⟩, ⟨P, NP.out, (HL12.out.below HB15.out (Nat.le_refl _)).mono (Nat.zero_le _)⟩⟩
    clear hS hsz12 D1 D2 D3 HN10 HM11 HL12 H13 H14 HB13 HB14 HE HBE
    -- the lists are overwritten
    have HW15 : Hid (GrW w8 w15 p own A1 c1 l) := Lib.hid (HG12.out.below HB15.out)
    have N1 : Hid (∀ k, own k → ¬ S k) := Lib.hid (fun k e e2 => by rw [HS.out] at e2; have := HG.out.t.lt k e; have := e2.1; omega)
    have N2 : Hid (∀ k, A1 = some ⟨k, 0, none⟩ → ¬ S k) := Lib.hid (fun k e e2 => by rw [HS.out] at e2; have := HG.out.ls.lt k e; have := e2.1; omega)
    have N3 : Hid (∀ k, S k → w8.heap.size ≤ k) := Lib.hid (fun k e => by rw [HS.out] at e; have := HG.out.bel.size; have := e.1; omega)
    have N4 : Hid (∀ k, A15 = some ⟨k, 0, none⟩ → ¬ S k) := Lib.hid (fun k e e2 => by rw [HS.out] at e2; have := H15.out.at_ k e; have := e2.2; omega)
    clear HG HG12 HB15 HS hs10 hs11 hs12 hse
    go_upto_block 0 with fail
    go_cut [24] from 164 to 172 (fun _ wa => Hid (Tri S w15 A10 A11 A12 nk N np c10 c11 c12 wa))
    case first =>
      -- PART L1
      go_wp2_with fail
      go_loopw [24] (fun i wr => ∃ k : Nat, k ≤ nk ∧ i = .int .i64 k ∧ Hid (Tri S w15 A10 A11 A12 nk N np c10 c11 c12 wr)) (fun i _ => nk - (intOf i).toNat)
      case atStart => exact ⟨0, Nat.zero_le _, rfl, T0⟩
      case round =>
        clear T0
        obtain ⟨k, hk, rfl, T⟩ := hrel
        by_cases hlt : k < nk
        · obtain ⟨g, v, rfl, cv, fv, hnc⟩ := T.out.la.get hlt
          obtain ⟨s1, s2, s3⟩ := E1.out g rfl
          have T2 := Lib.hid (T.out.setA s1 s2 s3 hlt (-5))
          have hki : (k : Int) < (nk : Int) := by omega
          clear s1 s2 s3
          go_wp2_with fail
          go_roundw
          case rel => exact ⟨k + 1, by omega, by go_num, T2⟩
          case measure => simp [intOf]; omega
        · obtain rfl : k = nk := by omega
          go_wp2_with fail
          go_meet
          case rel => exact T
      -- END L1
    case rest =>
      clear T0
      have T0 := hcut
      clear hcut
      go_upto_block 2 with fail
      go_cut [25] from 173 to 181 (fun _ wb => Hid (Tri S w15 A10 A11 A12 nk N np c10 c11 c12 wb))
      case first =>
        -- PART L2
        have T1 := Lib.hid T0.out.rot
        go_wp2_with fail
        go_loopw [25] (fun i wr => ∃ k : Nat, k ≤ N ∧ i = .int .i64 k ∧ Hid (Tri S w15 A11 A12 A10 N np nk c11 c12 c10 wr)) (fun i _ => N - (intOf i).toNat)
        case atStart => exact ⟨0, Nat.zero_le _, rfl, T1⟩
        case round =>
          clear T0 T1
          obtain ⟨k, hk, rfl, T⟩ := hrel
          by_cases hlt : k < N
          · obtain ⟨g, v, rfl, cv, fv, hnc⟩ := T.out.la.get hlt
            obtain ⟨s1, s2, s3⟩ := E2.out g rfl
            have T2 := Lib.hid (T.out.setA s1 s2 s3 hlt (-5))
            have hki : (k : Int) < (N : Int) := by omega
            clear s1 s2 s3
            go_wp2_with fail
            go_roundw
            case rel => exact ⟨k + 1, by omega, by go_num, T2⟩
            case measure => simp [intOf]; omega
          · obtain rfl : k = N := by omega
            go_wp2_with fail
            go_meet
            case rel => exact Lib.hid T.out.rot.rot
        -- END L2
      case rest =>
        clear T0
        have T0 := hcut
        clear hcut
        go_upto_block 4 with fail
        go_cut [26] from 182 to 190 (fun _ wd => Hid (Tri S w15 A10 A11 A12 nk N np c10 c11 c12 wd))
        case first =>
          -- PART L3
          have T1 := Lib.hid T0.out.rot.rot
          go_wp2_with fail
          go_loopw [26] (fun i wr => ∃ k : Nat, k ≤ np ∧ i = .int .i64 k ∧ Hid (Tri S w15 A12 A10 A11 np nk N c12 c10 c11 wr)) (fun i _ => np - (intOf i).toNat)
          case atStart => exact ⟨0, Nat.zero_le _, rfl, T1⟩
          case round =>
            clear T0 T1
            obtain ⟨k, hk, rfl, T⟩ := hrel
            by_cases hlt : k < np
            · obtain ⟨g, v, rfl, cv, fv, hnc⟩ := T.out.la.get hlt
              obtain ⟨s1, s2, s3⟩ := E3.out g rfl
              have T2 := Lib.hid (T.out.setA s1 s2 s3 hlt (-5))
              have hki : (k : Int) < (np : Int) := by omega
              clear s1 s2 s3
              go_wp2_with fail
              go_roundw
              case rel => exact ⟨k + 1, by omega, by go_num, T2⟩
              case measure => simp [intOf]; omega
            · obtain rfl : k = np := by omega
              go_wp2_with fail
              go_meet
              case rel => exact Lib.hid T.out.rot
          -- END L3
        case rest =>
          clear T0
          have HG16 := Lib.hid (HW15.out.kept hcut.out.k N1.out N2.out N3.out)
          have HS16 := Lib.hid (H15.out.kept hcut.out.k N4.out)
          clear hcut HW15 H15 N1 N2 N3 N4 E1 E2 E3
          have hk1 := kpath_ok HG16.out.t few x hxl
          rw [HP.out, NL.out] at hk1
          have HP2 := Lib.hid hk1
          clear hk1
          go_upto_region 32 with (go_at_call 13; refine HP2.out.mono ?_; rintro e w17 ⟨A17, c17, rfl, hls17, hb17⟩)
          have HG17 := Lib.hid (HG16.out.below hb17)
          have HS17 := Lib.hid (HS16.out.below hb17 (Nat.le_refl _))
          have HL17 := Lib.hid hls17
          have hE2 : Ls (w17.alloc (.cells #[] 3)) w17.heap.size (some ⟨w17.heap.size, 0, none⟩) 0 [] := .inr ⟨w17.heap.size, rfl, Rw.of (Blk.new w17 3 []) (Nat.zero_le _), Nat.le_refl _⟩
          have hbe2 : Below w17.heap.size w17 (w17.alloc (.cells #[] 3)) := (Below.refl _ w17).alloc (Nat.le_refl _) _
          have HE2 := Lib.hid hE2
          have HBE2 := Lib.hid hbe2
          have hk1 := kkids_ok (HG17.out.below hbe2).t few x
          rw [HK.out, NK.out] at hk1
          have HK2 := Lib.hid hk1
          clear hk1 hls17 hb17 HP2 HG16 HS16 hE2 hbe2
          go_upto_if 217 with (first
            | (go_at_call 25; refine HK2.out.mono ?_; rintro e w18 ⟨A18, c18, rfl, hls18, hb18⟩; have HB18 := Lib.hid (HBE2.out.trans (hb18.mono HBE2.out.size)); have HE18 := Lib.hid (HE2.out.below hb18 (Nat.le_refl _)); have HL18 := Lib.hid hls18; clear hls18 hb18)
            | (at_builtin; (refine wpList_append_gen _ rfl (.tmp 205) (.tmp 208) rfl [] K HE18.out HB18.out.size HL18.out 0 nk rfl NK.out.symm rfl rfl (by omega) ?_); (intro A19 c19 w19 h19 hk19 hw19; have HB19 := Lib.hid (HB18.out.trans (hk19.below HB18.out.size HE18.out.at_)); have H19 := Lib.hid h19; clear h19 hk19 hw19; have hk1 := korder_ok (HG17.out.below HB19.out).t few; rw [HO.out, HAL.out] at hk1; have HO2 := Lib.hid hk1; clear hk1))
            | (go_at_call 22; refine HO2.out.mono ?_; rintro e w20 ⟨A20, c20, rfl, hls20, hb20⟩; have HB20 := Lib.hid (HB19.out.trans (hb20.mono HB19.out.size)); have HE20 := Lib.hid (H19.out.below hb20 (Nat.le_refl _)); have HL20 := Lib.hid hls20; clear hls20 hb20)
            | (at_builtin; (refine wpList_append_gen _ rfl (.tmp 209) (.tmp 211) rfl ([] ++ K) O HE20.out HB20.out.size HL20.out nk N (by simp [NK.out]) NO.out.symm rfl rfl (by omega) ?_); (intro A21 c21 w21 h21 hk21 hw21; have HB21 := Lib.hid (HB20.out.trans (hk21.below HB20.out.size HE20.out.at_)); have H21 := Lib.hid h21; have HL21 := Lib.hid (HL17.out.below HB21.out (Nat.le_refl _)); clear h21 hk21 hw21))
            | (at_builtin; (refine wpList_append_gen _ rfl (.tmp 212) (.tmp 213) rfl ([] ++ K ++ O) P H21.out HB21.out.size HL21.out (nk + N) np (by simp [NK.out, NO.out]) NP.out.symm rfl rfl (by omega) ?_); (intro A22 c22 w22 h22 hk22 hw22; have HB22 := Lib.hid (HB21.out.trans (hk22.below HB21.out.size H21.out.at_)); have H22 := Lib.hid h22; have HS22 := Lib.hid (HS17.out.below HB22.out (Nat.le_refl _)); clear h22 hk22 hw22))
            | (go_at_call 15; refine (same_true HS22.out.sv H22.out.sv (by simp [NK.out, NO.out, NP.out]; unfold maxLen; omega) rfl _ _ (by simp [NK.out, NO.out, NP.out, Nat.add_assoc]) (by simp [NK.out, NO.out, NP.out, Nat.add_assoc])).mono ?_; rintro e w23 ⟨rfl, hb23⟩; have HB23 := Lib.hid (HB22.out.trans (hb23.mono HB22.out.size))))
          have HG23 := Lib.hid (HG17.out.below HB23.out)
          clear HG17 HS17 HL17 HE2 HBE2 HK2 HB18 HE18 HL18 HB19 H19 HO2 HB20 HE20 HL20 HB21 H21 HL21 HB22 H22 HS22 hb23 HB23
          clear HK NK NP NL HP
          -- those that are told
          have hk1 := korder_ok HG23.out.t few
          rw [HO.out, HAL.out] at hk1
          have HO3 := Lib.hid hk1
          clear hk1
          go_upto_region 35 with (go_at_call 22; refine HO3.out.mono ?_; rintro e w24 ⟨A24, c24, rfl, hls24, hb24⟩)
          have HG24 := Lib.hid (HG23.out.below hb24)
          have HL24 := Lib.hid hls24
          clear hls24 hb24 HO3 HG23
          go_wp2_with (go_at_call 21; refine (all_any _ w24).mono ?_; rintro e w25 ⟨rfl, hw25⟩)
          have hb25 : Below w24.heap.size w24 w25 := by rw [← hw25]; exact (Below.refl _ w24).alloc (Nat.le_refl _) _
          have hbx25 : Blk w25 w24.heap.size 25 [.pointer (some ⟨p, 0, none⟩)] := by rw [← hw25]; exact Blk.new w24 _ _
          have HG25 := Lib.hid (HG24.out.below hb25)
          have HL25 := Lib.hid (HL24.out.below hb25 (Nat.le_refl _))
          obtain ⟨TK, hTK⟩ : ∃ TK, (allN l).take Y = TK := ⟨_, rfl⟩
          have hTl : TK.length = Y := by rw [← hTK, List.length_take, HAL.out]; omega
          have hpr := kpairs_ok HG25.out.t few (Y : Int) (by omega) hbx25
          rw [Int.toNat_natCast, hTK, hTl] at hpr
          have HPR := Lib.hid hpr
          have HTK := Lib.hid hTK
          have HTL := Lib.hid hTl
          clear HG24 HL24 hpr hbx25 hb25 hw25 hTK hTl
          go_upto_region 36 with (go_at_call 20; refine HPR.out.mono ?_; rintro e w26 ⟨gp, cp, rfl, hpw, hgp, hb26⟩)
          have HG26 := Lib.hid (HG25.out.below hb26)
          have HL26 := Lib.hid (HL25.out.below hb26 (Nat.le_refl _))
          have HP26 := Lib.hid hpw
          have hroom := HP26.out.room
          have hplen : Y ≤ cp := by
            obtain ⟨rest, _, h⟩ := HP26.out.blk
            omega
          have e3 : ((Y : Int) != (Y : Int)) = false := by simp
          have e4 : ((N : Int) != (N : Int)) = false := by simp
          clear HG25 HL25 HPR hpw hgp hb26
          go_wp2_with fail
          go_loopw [30] (fun i wr => ∃ k : Nat, k ≤ Y ∧ i = .int .i64 k ∧ Hid (Below w26.heap.size w26 wr)) (fun i _ => Y - (intOf i).toNat)
          case atStart => exact ⟨0, Nat.zero_le _, rfl, Lib.hid (Below.refl _ _)⟩
          case round =>
            clear e3 e4
            obtain ⟨k, hk, rfl, HB⟩ := hrel
            by_cases hlt : k < Y
            · have hki : (k : Int) < (Y : Int) := by omega
              have hkn : (k : Int) < (N : Int) := by omega
              obtain ⟨u, hu⟩ : ∃ u, TK[k]? = some u := ⟨TK[k]'(by rw [HTL.out]; exact hlt), by simp [HTL.out, hlt]⟩
              have hua : (allN l)[k]? = some u := by
                rw [← HTK.out, List.getElem?_take_of_lt hlt] at hu
                exact hu
              have hul : u < l.length := by
                have hm := List.mem_of_getElem? hua
                unfold allN at hm
                rw [if_neg (by intro e; rw [e] at hxl; simp at hxl)] at hm
                exact ((ordN_root HWF.out (by omega)).2 u).1 hm
              obtain ⟨q0, q1⟩ := get_pcs l TK hu
              have hpi : parI l (u : Int) = parN l u := by unfold parI; rw [inK_nat hul]; rfl
              obtain ⟨pv, hpv⟩ : ∃ pv, parN l u = pv := ⟨_, rfl⟩
              rw [hpv] at q1 hpi
              obtain ⟨g24, rfl, _⟩ := HL26.out.get (j := k) (x := u) (by rw [← HO.out, get_nI, hua]; rfl)
              have c0 : ∀ pq : BelowOf wr, pq.v.cell? ⟨gp, k * 2, none⟩ = some (.int .i64 u) := fun pq => (HP26.out.below (HB.out.trans (pq.bel.mono HB.out.size)) HP26.out.lt).cell q0
              have c1' : ∀ pq : BelowOf wr, pq.v.cell? ⟨gp, k * 2 + 1, none⟩ = some (.int .i64 pv) := fun pq => (HP26.out.below (HB.out.trans (pq.bel.mono HB.out.size)) HP26.out.lt).cell q1
              have c2' : ∀ pq : BelowOf wr, pq.v.cell? ⟨g24, k, none⟩ = some (.int .i64 u) := fun pq => by
                obtain ⟨g, e, h⟩ := (HL26.out.below (HB.out.trans (pq.bel.mono HB.out.size)) (Nat.le_refl _)).get (j := k) (x := u) (by rw [← HO.out, get_nI, hua]; rfl)
                have e2 : g24 = g := congrArg Addr.block (Option.some.inj e)
                subst e2; exact h
              have QP : Hid (∀ pq : BelowOf wr, Calls Try.prog 26 #[.pointer (some ⟨p, 0, none⟩), .int .i64 u] pq.v fun e w' => e = .returned (.int .i64 pv) ∧ ∃ q2 : BelowOf wr, w' = q2.v) := Lib.hid (fun pq => Calls.below_of pq (by
                have := kparent_ok ((HG26.out.below HB.out).below pq.bel).t (u : Int)
                rw [hpi] at this
                exact this))
              have n1 : ((u : Int) != (u : Int)) = false := by simp
              have n2 : (pv != pv) = false := by simp
              clear hu hua q0 q1 hpi hpv
              go_upto_region 41 with fail
              refine wp_region_quiet_below (by kernel_rfl) (by kernel_rfl) ?_
              repeat (go_big_quiet_step ((go_at_call 26; exact QP.out _)))
              refine wpQuiet_nil ?_
              intro _ hw'
              obtain ⟨pq, hw''⟩ := hw'
              subst hw''
              have HB2 := Lib.hid (HB.out.trans (pq.bel.mono HB.out.size))
              clear QP c0 c1' c2' n1 n2
              generalize pq.v = w27 at *
              clear pq HB
              go_wp2_with fail
              go_roundw
              case rel => exact ⟨k + 1, by omega, by go_num, HB2⟩
              case measure => simp [intOf]; omega
            · obtain rfl : k = Y := by omega
              go_wp2_with (go_at_call 9; refine (awake16 _).mono ?_; rintro e w1 ⟨rfl, hb⟩)
              go_ret
              exact ⟨rfl, HB0.out.trans ((HB8.out.trans (((HG26.out.below HB.out).below hb).bel.mono HB8.out.size)).mono HB0.out.size)⟩
theorem kinNil_walk (W : World) (A : Option Addr) (n c : Nat) (z : List Int) (hmax : n ≤ maxLen) (F : Flat W A n z) (ab : List Int) (hab : ab.length = 2) (_w1 : ∀ x ∈ ab, (Lit.int .i64 x).wf = true) (D : Option Addr) (m d : Nat) (q : List Int) (_hqm : m ≤ maxLen) (_G : Flat W D m q) :
    Calls Try.prog 8 #[.slice A n c, .agg (ab.map (Value.int .i64)).toArray, .slice D m d] W fun e w' => e = .returned (.bool true) ∧ Below W.heap.size W w' := by
  obtain ⟨a, b, rfl⟩ : ∃ a b, ab = [a, b] := by
    match ab, hab with
    | [a, b], _ => exact ⟨a, b, rfl⟩
  exact kinNil_core W A n c z F.1 hmax F.sv a b D m d
end Go.Proofs.Ytogobpnbkmdnfaa
