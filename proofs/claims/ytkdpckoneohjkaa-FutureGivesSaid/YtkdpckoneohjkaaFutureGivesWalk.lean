/-
  WHAT IS PROVED HERE: the walk of the law pelotonlaw15.FutureGives: it returns true, and what was there before the call stays. Conditions: the numbers are 64-bit ones.
-/
import Derived.Test.YtkdpckoneohjkaaFutC
import Derived.Test.YtkdpckoneohjkaaFgPlain
import Derived.Test.YtkdpckoneohjkaaArgs
import Derived.Deep.DeepCutAuto
import Derived.Deep.CutBlock
import Derived.StillTailTactics
import Derived.Outline
namespace Go.Proofs.Ytkdpckoneohjkaa
open Go.RowKit

theorem gpick_four (v : Int) : ∃ r : Nat, r < 4 ∧ (wrap64 (v.tmod 4 + 4)).tmod 4 = (r : Int) := by
  have h1 := Int.tmod_lt_of_pos v (show (0 : Int) < 4 by omega)
  have h2 := Int.lt_tmod_of_pos v (show (0 : Int) < 4 by omega)
  have e : wrap64 (v.tmod 4 + 4) = v.tmod 4 + 4 := by unfold wrap64; omega
  rw [e]
  obtain ⟨u, hu⟩ := Int.eq_ofNat_of_zero_le (show 0 ≤ v.tmod 4 + 4 by omega)
  rw [hu]
  exact ⟨u % 4, Nat.mod_lt _ (by omega), rfl⟩
/-- How a worker would end it. -/
def kdOf (x : Int) : Int := wrap64 (2 + (wrap64 (x.tmod 3 + 3)).tmod 3)
theorem kdOf_range (x : Int) : 2 ≤ kdOf x ∧ kdOf x ≤ 4 := by
  have h1 := Int.tmod_lt_of_pos x (show (0 : Int) < 3 by omega)
  have h2 := Int.lt_tmod_of_pos x (show (0 : Int) < 3 by omega)
  have e : wrap64 (x.tmod 3 + 3) = x.tmod 3 + 3 := by unfold wrap64; omega
  unfold kdOf
  rw [e]
  have h3 := Int.tmod_lt_of_pos (x.tmod 3 + 3) (show (0 : Int) < 3 by omega)
  have h4 := Int.tmod_nonneg 3 (show (0 : Int) ≤ x.tmod 3 + 3 by omega)
  generalize (x.tmod 3 + 3).tmod 3 = t at *
  unfold wrap64; omega
theorem gcell {w : World} {g : Nat} {t : TypeId} {xs : List Int} (h : Blk w g t (ints xs)) {j : Nat} (hj : j < xs.length) {x : Int} (hx : xs.getD j 0 = x) : w.cell? ⟨g, j, none⟩ = some (.int .i64 x) := by
  rw [h.cell, get_ints, ← hx]; simp [List.getD, hj]

structure FgW (W0 w : World) (mb : MB) (vb nb : Nat) (nx : List Int) (k v : Int) : Prop where
  f : FW W0 w mb 5 k v 0
  v : Blk w vb 30 [.int .i64 0]
  n : Blk w nb 23 (ints nx)
  hv : ¬ mb.has vb
  hn : ¬ mb.has nb
  ne : vb ≠ nb
  ge : W0.heap.size ≤ nb
section
variable {W0 w w' : World} {mb : MB} {vb nb : Nat} {nx : List Int} {k v k' v' : Int}
theorem FgW.go (h : FgW W0 w mb vb nb nx k v) (hk : Kept mb.has w w') (hf : FW W0 w' mb 5 k' v' 0) : FgW W0 w' mb vb nb nx k' v' :=
  ⟨hf, h.v.kept hk h.hv, h.n.kept hk h.hn, h.hv, h.hn, h.ne, h.ge⟩
theorem FgW.below (h : FgW W0 w mb vb nb nx k v) (hb : Below w.heap.size w w') : FgW W0 w' mb vb nb nx k v :=
  ⟨h.f.below hb, h.v.below hb h.v.lt, h.n.below hb h.n.lt, h.hv, h.hn, h.ne, h.ge⟩
theorem FgW.drew (h : FgW W0 w mb vb nb nx k v) : FgW W0 w.drew mb vb nb nx k v := h.below (below_drewN' (Below.refl _ w) 1)
theorem FgW.set (h : FgW W0 w mb vb nb nx k v) (j : Nat) (x : Int) : FgW W0 (w.setCell ⟨nb, j, none⟩ (.int .i64 x)) mb vb nb (nx.set j x) k v :=
  ⟨h.f.set nb j _ h.hn h.ge, h.v.setOther (p := ⟨nb, j, none⟩) h.ne _, by rw [show ints (nx.set j x) = (ints nx).set j (.int .i64 x) from (set_ints _ _ _).symm]; exact h.n.set j _, h.hv, h.hn, h.ne, h.ge⟩
end

set_option maxRecDepth 100000 in
set_option maxHeartbeats 4000000 in
theorem fgives_near (W : World) (v0 v1 v2 v3 k0 k1 k2 k3 : Int) (A : Option Addr) (n c : Nat) (z : List Int) (hn : n ≤ 200) (F : Flat W A n z) :
    Calls Try.prog 3 #[.agg #[.int .i64 v0, .int .i64 v1, .int .i64 v2, .int .i64 v3], .agg #[.int .i64 k0, .int .i64 k1, .int .i64 k2, .int .i64 k3], .slice A n c] W fun e w' => e = .returned (.bool true) ∧ Below W.heap.size W w' := by
  have d1 : decide ((200 : Int) < (n : Int)) = false := by simp; omega
  obtain ⟨Wb, hWb⟩ : ∃ Wb, Wb = (W.alloc (.cells #[.int .i64 v0, .int .i64 v1, .int .i64 v2, .int .i64 v3] 22)).alloc (.cells #[.int .i64 k0, .int .i64 k1, .int .i64 k2, .int .i64 k3] 23) := ⟨_, rfl⟩
  have qv : Blk Wb W.heap.size 22 (ints [v0, v1, v2, v3]) := by rw [hWb]; exact (Blk.new W _ _).alloc _
  have qk : Blk Wb (W.heap.size + 1) 23 (ints [k0, k1, k2, k3]) := by
    have := Blk.new (W.alloc (.cells #[.int .i64 v0, .int .i64 v1, .int .i64 v2, .int .i64 v3] 22)) 23 (ints [k0, k1, k2, k3])
    rw [World.size_alloc] at this
    rw [hWb]; exact this
  have belb : Below W.heap.size W Wb := by rw [hWb]; exact ((Below.refl _ W).alloc (Nat.le_refl _) _).alloc (by simp) _
  obtain ⟨vs, hvs⟩ : ∃ vs, [v0, v1, v2, v3] = vs := ⟨_, rfl⟩
  obtain ⟨ks, hks⟩ : ∃ ks, [k0, k1, k2, k3] = ks := ⟨_, rfl⟩
  have lv : vs.length = 4 := by rw [← hvs]; rfl
  have lk : ks.length = 4 := by rw [← hks]; rfl
  rw [hvs] at qv
  rw [hks] at qk
  clear hvs hks
  have LV := Lib.hid lv
  have LK := Lib.hid lk
  have HWb := Lib.hid hWb
  clear hWb lv lk
  go_enter Try.func3, Try.ntmps3
  go_wp2_with fail
  rw [← HWb.out]
  refine (new_ok 3 4 _ (by omega) (by omega) (by omega) (by omega)).mono ?_
  rintro e w1 ⟨p, s, rfl, hm1, hk1, hp, hs⟩
  have hb1 : Below Wb.heap.size Wb w1 := hk1.below (Nat.le_refl _) (fun _ h => h.elim)
  clear hk1
  go_wp2_with fail
  refine (f_start (W0 := Wb) hm1 hb1 hp hs (by omega) (by omega) 4 (by omega) (by omega)).mono ?_
  rintro e w2 ⟨c0, rfl, hF⟩
  have hV : Blk (w2.alloc (.cells #[.int .i64 0] 30)) w2.heap.size 30 [.int .i64 0] := Blk.new w2 _ _
  have hnh := hF.nhas (Nat.le_refl _)
  have hnh' := hF.nhas (Nat.le_succ _)
  have hF3 := hF.below ((Below.refl _ w2).alloc (Nat.le_refl _) (.cells #[.int .i64 0] 30))
  have hW : FgW Wb ((w2.alloc (.cells #[.int .i64 0] 30)).alloc (.cells #[.int .i64 0, .int .i64 0, .int .i64 0, .int .i64 0] 23)) ⟨p, c0, s⟩ w2.heap.size (w2.heap.size + 1) [0, 0, 0, 0] 0 0 := by
    refine ⟨hF3.below ((Below.refl _ _).alloc (Nat.le_refl _) _), hV.alloc _, ?_, hnh, hnh', by omega, by have := hF.bel.size; omega⟩
    have := Blk.new (w2.alloc (.cells #[.int .i64 0] 30)) 23 (ints [0, 0, 0, 0])
    rw [World.size_alloc] at this
    exact this
  clear hm1 hb1 hp hs hF hF3 hV hnh hnh'
  go_wp2_with fail
  go_loopw [12, 13] (fun x i wr => ∃ (k : Nat) (nx : List Int) (fi kd val : Int), k ≤ n ∧ x = .int .i64 fi ∧ i = .int .i64 k ∧ FgW Wb wr ⟨p, c0, s⟩ w2.heap.size (w2.heap.size + 1) nx kd val ∧ FgOk (fun j => vs.getD j 0) (fun j => kdOf (ks.getD j 0)) nx fi kd val) (fun _ i _ => n - (intOf i).toNat)
  case atStart => exact ⟨0, _, _, 0, 0, Nat.zero_le _, rfl, rfl, hW, fg_start⟩
  case round =>
    clear hW
    obtain ⟨k, nx, fi, kd, val, hk, rfl, rfl, hW, hO⟩ := hrel
    generalize w2.heap.size = vb at *
    have lv := LV.out
    have lk := LK.out
    by_cases hlt : k < n
    · obtain ⟨_, _, hcell⟩ := F
      obtain ⟨g, off, rfl, hb, hc⟩ := hcell (by omega)
      obtain ⟨v, hv⟩ : ∃ v, v = z.getD k 0 := ⟨_, rfl⟩
      have hcv : wr.cell? ⟨g, off + k, none⟩ = some (.int .i64 v) := by rw [hv, hW.f.bel.cell (by have := belb.size; show g < Wb.heap.size; omega), belb.cell (by exact hb)]; exact hc k hlt
      clear hv hcell hc
      go_upto_region 13 with fail
      obtain ⟨r, h4, hr⟩ := gpick_four v
      rw [hr]
      clear hr hcv
      have r0 : (0 : Int) ≤ (r : Int) := by omega
      have r4 : (r : Int) < 4 := by omega
      have ck := gcell (qk.below hW.f.bel qk.lt) (j := r) (by omega) rfl
      obtain ⟨kr, hkr⟩ : ∃ kr, ks.getD r 0 = kr := ⟨_, rfl⟩
      rw [hkr] at ck
      have HKR := Lib.hid hkr
      clear hkr
      go_upto_region 14 with fail
      rw [show wrap64 (2 + (wrap64 (kr.tmod 3 + 3)).tmod 3) = kdOf kr from rfl]
      have hkrr := kdOf_range kr
      obtain ⟨Kr, hKr⟩ : ∃ x, kdOf kr = x := ⟨_, rfl⟩
      rw [hKr] at hkrr ⊢
      obtain ⟨hkr2, hkr4⟩ := hkrr
      have HKr := Lib.hid hKr
      clear hKr ck
      obtain ⟨hl, hO⟩ := hO
      rcases hO with ⟨hfi, hkd, hall⟩ | ⟨f, hf, hfi, hFF⟩
      · as_aux_lemma =>
        subst hfi hkd
        have hx := hall r h4
        have cl := gcell hW.n (by omega) hx
        have cv := hW.v.cell
        go_wp2_with fail
        refine (f_claim_hit hW.f r (by omega) (by omega)).mono ?_
        rintro e w5 ⟨rfl, hF5, hk5⟩
        have hW5 := hW.go hk5 hF5
        have cl5 := gcell hW5.n (by omega) hx
        have fz5 := hW5.n.frozen r
        have hss : (nx.set r 3).set r 1 = nx.set r 1 := by simp
        have hN := (hW5.set r 3).set r 1
        rw [hss] at hN
        have HN := Lib.hid hN
        have HO := Lib.hid (fg_first (v := fun j => vs.getD j 0) (kd := fun j => kdOf (ks.getD j 0)) (val := val) hl hall h4)
        clear hW cl cv hW5 hF5 hk5 hx hall hN hss hl
        go_wp2_with fail
        go_roundw
        case rel => exact ⟨k + 1, _, _, _, _, by omega, rfl, by go_num, HN.out, HO.out⟩
        case measure => simp [intOf]; omega
      · subst hfi
        have f0 : (0 : Int) ≤ (f : Int) := by omega
        have f4 : (f : Int) < 4 := by omega
        have hF := hFF
        obtain ⟨hoth, hself⟩ := hFF
        have hk0 : ¬ kd = 0 := by
          rcases hself with ⟨_, h⟩ | ⟨_, h, _⟩ | ⟨_, h, _⟩
          · omega
          · omega
          · have := kdOf_range (ks.getD f 0); simp only at h; omega
        by_cases hrf : r = f
        · subst hrf
          rcases hself with ⟨hx, hk1⟩ | ⟨hx, hk2, hv2⟩ | ⟨hx, hk3, hv3⟩
          · as_aux_lemma =>
            subst hk1
            obtain ⟨vr, hvr⟩ : ∃ x, vs.getD r 0 = x := ⟨_, rfl⟩
            have cl := gcell hW.n (by omega) hx
            have cv : wr.cell? ⟨vb, 0, none⟩ = some (.int .i64 0) := hW.v.cell 0
            have cvr := gcell (qv.below hW.f.bel qv.lt) (j := r) (by omega) hvr
            have HVR := Lib.hid hvr
            have hWd := hW.drew
            clear hvr
            go_wp2_with fail
            go_still_tail 6, (by kernel_rfl)
            change wpList _ _ _ _ _ wr.drew
            go_wp2_with fail
            refine (f_put hWd.f r vr (by omega) (by omega)).mono ?_
            rintro e w5 ⟨rfl, hF5, hk5⟩
            have hW5 := hWd.go hk5 hF5
            have cl5 := gcell hW5.n (by omega) hx
            have fz5 := hW5.n.frozen r
            have HN := Lib.hid (hW5.set r 2)
            have HO := Lib.hid (fg_self hl hf hF 2 1 vr (.inl ⟨rfl, rfl, HVR.out.symm, by omega⟩))
            clear hW hWd cl cv cvr hW5 hF5 hk5 hx hl hF hoth
            go_wp2_with fail
            go_roundw
            case rel => exact ⟨k + 1, _, _, _, _, by omega, rfl, by go_num, HN.out, HO.out⟩
            case measure => simp [intOf]; omega
          · as_aux_lemma =>
            subst hk2
            have cl := gcell hW.n (by omega) hx
            have cv := hW.v.cell
            go_wp2_with fail
            refine (f_end_hit hW.f r Kr (by omega) (by omega) hkr2 hkr4).mono ?_
            rintro e w5 ⟨rfl, hF5, hk5⟩
            have hW5 := hW.go hk5 hF5
            have cl5 := gcell hW5.n (by omega) hx
            have fz5 := hW5.n.frozen r
            have HN := Lib.hid (hW5.set r 3)
            have HO := Lib.hid (fg_self hl hf hF 3 Kr val (.inr ⟨.inl rfl, by show Kr = kdOf (ks.getD r 0); rw [HKR.out, HKr.out], hv2⟩))
            clear hW cl cv hW5 hF5 hk5 hx hl hF hoth hv2
            go_wp2_with fail
            go_roundw
            case rel => exact ⟨k + 1, _, _, _, _, by omega, rfl, by go_num, HN.out, HO.out⟩
            case measure => simp [intOf]; omega
          · rcases hx with hx | hx
            · as_aux_lemma =>
              have hkr := kdOf_range (ks.getD r 0)
              have hk2 : 2 ≤ kd := by simp only at hk3; omega
              have cl := gcell hW.n (by omega) hx
              have cv := hW.v.cell
              go_wp2_with fail
              refine (f_state hW.f r (by omega) (by omega)).mono ?_
              rintro e w5 ⟨rfl, hF5, hk5⟩
              have hW5 := hW.go hk5 hF5
              have cl5 := gcell hW5.n (by omega) hx
              have fz5 := hW5.n.frozen r
              have dk : decide (2 ≤ kd) = true := by simp; omega
              have HN := Lib.hid (hW5.set r 4)
              have HO := Lib.hid (fg_self hl hf hF 4 kd val (.inr ⟨.inr rfl, hk3, hv3⟩))
              clear hW cl cv hW5 hF5 hk5 hx hl hF hoth hk3 hv3 hkr
              go_wp2_with fail
              go_roundw
              case rel => exact ⟨k + 1, _, _, _, _, by omega, rfl, by go_num, HN.out, HO.out⟩
              case measure => simp [intOf]; omega
            · as_aux_lemma =>
              have cl := gcell hW.n (by omega) hx
              have cv := hW.v.cell
              obtain ⟨vf, hvf⟩ : ∃ x, vs.getD r 0 = x := ⟨_, rfl⟩
              obtain ⟨kf, hkf⟩ : ∃ x, ks.getD r 0 = x := ⟨_, rfl⟩
              obtain ⟨K, hK⟩ : ∃ x, kdOf kf = x := ⟨_, rfl⟩
              have hKr := kdOf_range kf
              have hkK : kd = K := by rw [← hK, ← hkf]; exact hk3
              have hvv : val = vf := by rw [← hvf]; exact hv3
              rw [hK] at hKr
              subst hkK hvv
              have hKe : wrap64 (2 + (wrap64 (kf.tmod 3 + 3)).tmod 3) = kd := hK
              have HKE := Lib.hid hKe
              have HVF := Lib.hid hvf
              have HKF := Lib.hid hkf
              clear hKe hvf hkf hK hk3 hv3
              go_wp2_with fail
              refine (f_value hW.f r (by omega) (by omega)).mono ?_
              rintro e w5 ⟨rfl, hF5, hk5⟩
              have hW5 := hW.go hk5 hF5
              have cv5 := hW5.v.cell
              clear hW cv cl hF5 hk5
              go_wp2_with fail
              refine (f_peek hW5.f val (by rw [if_neg (by omega)])).mono ?_
              rintro e w6 ⟨rfl, hF6, hb6⟩
              have hW6 := hW5.below hb6
              have cvf := gcell (qv.below hW6.f.bel qv.lt) (j := r) (by omega) HVF.out
              have ckf := gcell (qk.below hW6.f.bel qk.lt) (j := r) (by omega) HKF.out
              have cl6 := gcell hW6.n (by omega) hx
              have fz6 := hW6.n.frozen r
              have hKe := HKE.out
              have tvv : (val != val) = false := by simp
              have tkk : (kd != kd) = false := by simp
              have HN := Lib.hid (hW6.set r 3)
              have HO := Lib.hid (fg_self hl hf hF 3 kd val (.inr ⟨.inl rfl, by show kd = kdOf (ks.getD r 0); rw [HKF.out]; exact HKE.out.symm, HVF.out.symm⟩))
              clear hW5 cv5 hF6 hb6 hW6 hx hl hF hoth
              go_wp2_with fail
              go_roundw
              case rel => exact ⟨k + 1, _, _, _, _, by omega, rfl, by go_num, HN.out, HO.out⟩
              case measure => simp [intOf]; omega
        · have hfx := gcell hW.n (j := f) (by omega) rfl
          rcases hoth r h4 hrf with hx | hx | ⟨hx, hx3⟩
          · as_aux_lemma =>
            have cl := gcell hW.n (by omega) hx
            have cv := hW.v.cell
            go_wp2_with fail
            refine (f_claim_miss hW.f r (by omega) (by omega) hk0).mono ?_
            rintro e w5 ⟨rfl, hF5, hk5⟩
            have hW5 := hW.go hk5 hF5
            have cl5 := gcell hW5.n (by omega) hx
            have fz5 := hW5.n.frozen r
            have HN := Lib.hid (hW5.set r 3)
            have HO := Lib.hid (fg_other hl hf hF h4 hrf 3 (.inl rfl))
            clear hW cl cv hW5 hF5 hk5 hx hl hF hoth hfx hself
            go_wp2_with fail
            go_roundw
            case rel => exact ⟨k + 1, _, _, _, _, by omega, rfl, by go_num, HN.out, HO.out⟩
            case measure => simp [intOf]; omega
          · have hst : (kd = 1 ∧ nx.getD f 0 ≤ 2) ∨ (2 ≤ kd ∧ 3 ≤ nx.getD f 0) := by
              rcases hself with ⟨h1, h2⟩ | ⟨h1, h2, _⟩ | ⟨h1, h2, _⟩
              · omega
              · omega
              · have := kdOf_range (ks.getD f 0); simp only at h2; omega
            obtain ⟨xf, hxf⟩ : ∃ x, nx.getD f 0 = x := ⟨_, rfl⟩
            rw [hxf] at hst
            rcases hst with ⟨hk1, hx2⟩ | ⟨hk2, hx3⟩
            · as_aux_lemma =>
              subst hk1
              have cl := gcell hW.n (by omega) hx
              have cv := hW.v.cell
              go_wp2_with fail
              refine (f_state hW.f r (by omega) (by omega)).mono ?_
              rintro e w5 ⟨rfl, hF5, hk5⟩
              have hW5 := hW.go hk5 hF5
              have cf5 := gcell hW5.n (j := f) (by omega) hxf
              have dx : decide (2 < xf) = false := by simp; omega
              have HN := Lib.hid hW5
              have HO : Hid (FgOk (fun j => vs.getD j 0) (fun j => kdOf (ks.getD j 0)) nx f 1 val) := Lib.hid ⟨hl, .inr ⟨f, hf, rfl, hF⟩⟩
              clear hW cl cv hW5 hF5 hk5 hx hl hF hoth hfx hself hxf hx2
              go_wp2_with fail
              go_roundw
              case rel => exact ⟨k + 1, _, _, _, _, by omega, rfl, by go_num, HN.out, HO.out⟩
              case measure => simp [intOf]; omega
            · as_aux_lemma =>
              have cl := gcell hW.n (by omega) hx
              have cv := hW.v.cell
              go_wp2_with fail
              refine (f_state hW.f r (by omega) (by omega)).mono ?_
              rintro e w5 ⟨rfl, hF5, hk5⟩
              have hW5 := hW.go hk5 hF5
              have cf5 := gcell hW5.n (j := f) (by omega) hxf
              have cl5 := gcell hW5.n (by omega) hx
              have fz5 := hW5.n.frozen r
              have dx : decide (2 < xf) = true := by simp; omega
              have dk : decide (2 ≤ kd) = true := by simp; omega
              have HN := Lib.hid (hW5.set r 4)
              have HO := Lib.hid (fg_other hl hf hF h4 hrf 4 (.inr ⟨rfl, by omega⟩))
              clear hW cl cv hW5 hF5 hk5 hx hl hF hoth hfx hself hxf hx3 hk2
              go_wp2_with fail
              go_roundw
              case rel => exact ⟨k + 1, _, _, _, _, by omega, rfl, by go_num, HN.out, HO.out⟩
              case measure => simp [intOf]; omega
          · have hself3 : kd = kdOf (ks.getD f 0) ∧ val = vs.getD f 0 := by
              rcases hself with ⟨h1, h2⟩ | ⟨h1, h2, _⟩ | ⟨_, h2, h3⟩
              · omega
              · omega
              · exact ⟨h2, h3⟩
            obtain ⟨hk3, hv3⟩ := hself3
            clear hself hfx
            skip
            as_aux_lemma =>
              have cl := gcell hW.n (by omega) hx
              have cv := hW.v.cell
              obtain ⟨vf, hvf⟩ : ∃ x, vs.getD f 0 = x := ⟨_, rfl⟩
              obtain ⟨kf, hkf⟩ : ∃ x, ks.getD f 0 = x := ⟨_, rfl⟩
              obtain ⟨K, hK⟩ : ∃ x, kdOf kf = x := ⟨_, rfl⟩
              have hKr := kdOf_range kf
              have hkK : kd = K := by rw [← hK, ← hkf]; exact hk3
              have hvv : val = vf := by rw [← hvf]; exact hv3
              rw [hK] at hKr
              subst hkK hvv
              have hKe : wrap64 (2 + (wrap64 (kf.tmod 3 + 3)).tmod 3) = kd := hK
              have HKE := Lib.hid hKe
              have HVF := Lib.hid hvf
              have HKF := Lib.hid hkf
              clear hKe hvf hkf hK hk3 hv3
              go_wp2_with fail
              refine (f_value hW.f r (by omega) (by omega)).mono ?_
              rintro e w5 ⟨rfl, hF5, hk5⟩
              have hW5 := hW.go hk5 hF5
              have cv5 := hW5.v.cell
              clear hW cv cl hF5 hk5
              go_wp2_with fail
              refine (f_peek hW5.f val (by rw [if_neg (by omega)])).mono ?_
              rintro e w6 ⟨rfl, hF6, hb6⟩
              have hW6 := hW5.below hb6
              have cvf := gcell (qv.below hW6.f.bel qv.lt) (j := f) (by omega) HVF.out
              have ckf := gcell (qk.below hW6.f.bel qk.lt) (j := f) (by omega) HKF.out
              have cl6 := gcell hW6.n (by omega) hx
              have fz6 := hW6.n.frozen r
              have hKe := HKE.out
              have tvv : (val != val) = false := by simp
              have tkk : (kd != kd) = false := by simp
              have HN := Lib.hid (hW6.set r 3)
              have HO := Lib.hid (fg_other hl hf hF h4 hrf 3 (.inl rfl))
              clear hW5 cv5 hF6 hb6 hW6 hx hl hF hoth
              go_wp2_with fail
              go_roundw
              case rel => exact ⟨k + 1, _, _, _, _, by omega, rfl, by go_num, HN.out, HO.out⟩
              case measure => simp [intOf]; omega
    · obtain rfl : k = n := by omega
      have bel := belb.trans (hW.f.bel.mono belb.size)
      clear hk hlt
      go_wp2_with (go_at_call 14; refine (awake15_any _).mono ?_; rintro e w3 ⟨rfl, hb3⟩)
      go_ret
      exact ⟨rfl, bel.trans (hb3.mono bel.size)⟩

set_option maxRecDepth 100000 in
set_option maxHeartbeats 1000000 in
theorem fgives_far (W : World) (v0 v1 v2 v3 k0 k1 k2 k3 : Int) (A : Option Addr) (n c : Nat) (hn : ¬ n ≤ 200) :
    Calls Try.prog 3 #[.agg #[.int .i64 v0, .int .i64 v1, .int .i64 v2, .int .i64 v3], .agg #[.int .i64 k0, .int .i64 k1, .int .i64 k2, .int .i64 k3], .slice A n c] W fun e w' => e = .returned (.bool true) ∧ Below W.heap.size W w' := by
  have d1 : decide ((200 : Int) < (n : Int)) = true := by simp; omega
  obtain ⟨Wb, hWb⟩ : ∃ Wb, Wb = (W.alloc (.cells #[.int .i64 v0, .int .i64 v1, .int .i64 v2, .int .i64 v3] 22)).alloc (.cells #[.int .i64 k0, .int .i64 k1, .int .i64 k2, .int .i64 k3] 23) := ⟨_, rfl⟩
  have belb : Below W.heap.size W Wb := by rw [hWb]; exact ((Below.refl _ W).alloc (Nat.le_refl _) _).alloc (by simp) _
  have HWb := Lib.hid hWb
  clear hWb
  go_enter Try.func3, Try.ntmps3
  go_wp2_with fail
  rw [← HWb.out]
  refine (new_ok 3 4 _ (by omega) (by omega) (by omega) (by omega)).mono ?_
  rintro e w1 ⟨p, s, rfl, hm1, hk1, hp, hs⟩
  have hb1 : Below Wb.heap.size Wb w1 := hk1.below (Nat.le_refl _) (fun _ h => h.elim)
  clear hk1
  go_wp2_with fail
  refine (f_start (W0 := Wb) hm1 hb1 hp hs (by omega) (by omega) 4 (by omega) (by omega)).mono ?_
  rintro e w2 ⟨c0, rfl, hF⟩
  have hF3 := hF.below ((Below.refl _ w2).alloc (Nat.le_refl _) (.cells #[.int .i64 0] 30))
  have bel := belb.trans (hF3.bel.mono belb.size)
  clear hm1 hb1 hp hs hF hF3
  go_wp2_with (go_at_call 14; refine (awake15_any _).mono ?_; rintro e w4 ⟨rfl, hb3⟩)
  go_ret
  exact ⟨rfl, bel.trans (hb3.mono bel.size)⟩

theorem garr4 {zs : List Int} (h : zs.length = 4) : ∃ a b c d, zs = [a, b, c, d] := by
  match zs, h with
  | [a, b, c, d], _ => exact ⟨a, b, c, d, rfl⟩
theorem futureGives_walk (W : World) (zs : List Int) (hl : zs.length = 4) (_w0 : ∀ z ∈ zs, (Lit.int .i64 z).wf = true) (ys : List Int) (hl2 : ys.length = 4) (_w1 : ∀ z ∈ ys, (Lit.int .i64 z).wf = true) (A : Option Addr) (n c : Nat) (z : List Int) (_hmax : n ≤ maxLen) (F : Flat W A n z) :
    Calls Try.prog 3 #[.agg (zs.map (Value.int .i64)).toArray, .agg (ys.map (Value.int .i64)).toArray, .slice A n c] W fun e w' => e = .returned (.bool true) ∧ Below W.heap.size W w' := by
  obtain ⟨a, b, c', d, rfl⟩ := garr4 hl
  obtain ⟨a2, b2, c2, d2, rfl⟩ := garr4 hl2
  by_cases hn : n ≤ 200
  · exact fgives_near W a b c' d a2 b2 c2 d2 A n c z hn F
  · exact fgives_far W a b c' d a2 b2 c2 d2 A n c hn
end Go.Proofs.Ytkdpckoneohjkaa
