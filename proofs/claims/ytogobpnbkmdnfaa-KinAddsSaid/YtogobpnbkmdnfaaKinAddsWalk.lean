/-
  WHAT IS PROVED HERE: the walk of pelotonlaw16.KinAdds: true, whatever the input. Conditions: none.
-/
import Derived.Test.YtogobpnbkmdnfaaKinL
import Derived.Test.YtogobpnbkmdnfaaArgs
import Derived.Deep.RegionHeld3
import Derived.Deep.CutBlock
namespace Go.Proofs.Ytogobpnbkmdnfaa
open Go.RowKit

theorem Flat.sv {W : World} {A : Option Addr} {n : Nat} {z : List Int} (F : Flat W A n z) : Sv W A z := fun h0 => by
  obtain ⟨hl, _, hc⟩ := F
  obtain ⟨b, off, e, hlt, hc⟩ := hc (by omega)
  refine ⟨b, off, e, hlt, fun j x hj => ?_⟩
  obtain ⟨hjl, hx⟩ := List.getElem?_eq_some_iff.1 hj
  have := hc j (by omega)
  rw [this]
  simp [hj]
theorem GrW.get {w0 w : World} {p : Nat} {own : Nat → Prop} {A : Option Addr} {c : Nat} {l : List Int} (h : GrW w0 w p own A c l) {j : Nat} (hj : j < l.length) : ∃ g, A = some ⟨g, 0, none⟩ ∧ w.cell? ⟨g, j, none⟩ = some (.int .i64 (parN l j)) := h.ls.get (get_parN hj)
set_option maxRecDepth 20000 in
set_option maxHeartbeats 2000000 in
theorem kinAdds_walk (W : World) (A : Option Addr) (n c : Nat) (z : List Int) (_hmax : n ≤ maxLen) (F : Flat W A n z) (x : Int) (_w1 : (Lit.int .i64 x).wf = true) :
    Calls Try.prog 6 #[.slice A n c, .int .i64 x] W fun e w' => e = .returned (.bool true) ∧ Below W.heap.size W w' := by
  have hzn : z.length = n := F.1
  by_cases h60 : 60 < n
  · have d1 : decide ((60 : Int) < (n : Int)) = true := by simp; omega
    go_enter Try.func6, Try.ntmps6
    go_wp2_with (go_at_call 9; refine (awake16 W).mono ?_; rintro e w1 ⟨rfl, hb⟩)
    go_ret
    exact ⟨rfl, hb⟩
  · have d1 : decide ((60 : Int) < (n : Int)) = false := by simp; omega
    have hgr := grow_ok W A c z F.sv (by omega)
    have hll := gl_length z
    rw [hzn] at hgr hll
    generalize gl z = l at hgr hll
    have HGR := Lib.hid hgr
    clear hgr F
    go_enter Try.func6, Try.ntmps6
    go_upto_region 7 with (go_at_call 10; refine HGR.out.mono ?_; rintro e w1 ⟨p, own, A1, c1, rfl, hg⟩)
    have hwf := hg.wf
    obtain ⟨b, hb⟩ : ∃ b, inK l.length x = b := ⟨_, rfl⟩
    obtain ⟨q, hq⟩ : ∃ q, parI l x = q := ⟨_, rfl⟩
    have hr := ris_ok (A := A1) (cap := c1) l.length w1 x b hb
    have HR := Lib.hid hr
    have HG := Lib.hid hg
    have HQ := Lib.hid hq
    have HB := Lib.hid hb
    clear hg HGR hr hq hb
    go_upto_if 24 with (go_at_call 14; refine HR.out.mono ?_; rintro e w2 ⟨rfl, rfl⟩)
    go_cut [8] from 25 to 28 (fun v wc => v = .int .i64 q ∧ w1 = wc)
    case first =>
      have hq := HQ.out
      have hb := HB.out
      unfold parI at hq
      rw [hb] at hq
      cases b with
      | false =>
        obtain rfl : q = -1 := by simpa using hq.symm
        clear hq hb
        go_wp2_with fail
        go_meet
        case rel => exact ⟨rfl, by first | trivial | rfl⟩
      | true =>
        obtain ⟨k, rfl, hk⟩ := inK_get hb
        obtain ⟨g, rfl, cg⟩ := HG.out.get hk
        have hki : (k : Int) < (l.length : Int) := by omega
        rw [show parN l k = q by simpa using hq] at cg
        clear hq hb
        go_wp2_with fail
        go_meet
        case rel => exact ⟨rfl, by first | trivial | rfl⟩
    case rest =>
      obtain ⟨rfl, rfl⟩ := hcut
      have hkl : (kidI l x).length ≤ maxLen := by
        unfold kidI
        split
        · have := kN_length l x.toNat; rw [length_nI]; unfold maxLen; have h2 := kN_length l x; omega
        · simp
      obtain ⟨K, hK⟩ : ∃ K, kidI l x = K := ⟨_, rfl⟩
      have e1 : (q != q) = false := by simp
      rw [hK] at hkl
      go_upto_region 11 with (first
        | (go_at_call 26; refine (kparent_ok HG.out.t x).mono ?_; rw [HQ.out]; rintro e w2 ⟨rfl, hb2⟩; have HG2 := Lib.hid (HG.out.below hb2))
        | (go_at_call 25; refine (kkids_ok HG2.out.t (by omega) x).mono ?_; rw [hK]; rintro e w3 ⟨A3, c3, rfl, hls3, hb3⟩; have HG3 := Lib.hid (HG2.out.below hb3); have HS3 := Lib.hid hls3.sv; clear hls3)
        | (go_at_call 27; refine (rkids_ok (A := A1) (cap := c1) w3 HG3.out.ls.sv (by omega) x).mono ?_; rw [hK]; rintro e w4 ⟨A4, c4, rfl, hls4, hb4⟩; have HG4 := Lib.hid (HG3.out.below hb4); have HS4 := Lib.hid (HS3.out.below hb4 (Nat.le_refl _)); have HT4 := Lib.hid hls4.sv; clear hls4)
        | (go_at_call 15; refine (same_true HS4.out HT4.out hkl rfl _ _ rfl rfl).mono ?_; rintro e w5 ⟨rfl, hb5⟩; have HG5 := Lib.hid (HG4.out.below hb5)))
      clear hb2 hb3 hb4 hb5 HG HG2 HG3 HG4 HS3 HS4 HT4 hK hkl e1
      go_wp2_with fail
      go_loopw [9] (fun i wr => ∃ k : Nat, k ≤ l.length ∧ i = .int .i64 k ∧ Hid (GrW W wr p own A1 c1 l)) (fun i _ => l.length - (intOf i).toNat)
      case atStart => exact ⟨0, Nat.zero_le _, rfl, HG5⟩
      case round =>
        clear HG5
        obtain ⟨k, hk, rfl, HG⟩ := hrel
        by_cases hlt : k < l.length
        · obtain ⟨g, rfl, cg⟩ := HG.out.get hlt
          have hki : (k : Int) < (l.length : Int) := by omega
          have hp : parI l k = parN l k := by unfold parI; rw [inK_nat hlt]; rfl
          obtain ⟨v, hv⟩ : ∃ v, parN l k = v := ⟨_, rfl⟩
          rw [hv] at cg hp
          obtain ⟨K, hK⟩ : ∃ K, kidI l k = K := ⟨_, rfl⟩
          have hkl : K.length ≤ maxLen := by
            rw [← hK]; unfold kidI
            split
            · have h2 := kN_length l k; rw [length_nI]; unfold maxLen; omega
            · simp
          have e1 : (v != v) = false := by simp
          have cd : wr.drew.cell? ⟨g, k, none⟩ = some (.int .i64 v) := cg
          have HGD := Lib.hid (HG.out.below (w' := wr.drew) (below_drewN' (Below.refl _ wr) 1))
          have HV := Lib.hid hv
          clear hv
          go_upto_region 14 with fail
          go_region_held3 (fun w' => w'.cell? ⟨g, k, none⟩ = some (.int .i64 v)) (first | exact cd | exact c2 | exact c3' | exact c4' | exact c5) (first
            | (go_at_call 26; refine (kparent_ok HGD.out.t k).mono ?_; rw [hp]; rintro e w2 ⟨rfl, hb2⟩; have HG2 := Lib.hid (HGD.out.below hb2); have c2 : w2.cell? ⟨g, k, none⟩ = some (.int .i64 v) := (by obtain ⟨g', e, h⟩ := HG2.out.get hlt; rw [HV.out] at h; have e2 : g = g' := congrArg Addr.block (Option.some.inj e); exact e2 ▸ h))
            | (go_at_call 25; refine (kkids_ok HG2.out.t (by omega) k).mono ?_; rw [hK]; rintro e w3 ⟨A3, c3, rfl, hls3, hb3⟩; have HG3 := Lib.hid (HG2.out.below hb3); have HS3 := Lib.hid hls3.sv; clear hls3; have c3' : w3.cell? ⟨g, k, none⟩ = some (.int .i64 v) := (by obtain ⟨g', e, h⟩ := HG3.out.get hlt; rw [HV.out] at h; have e2 : g = g' := congrArg Addr.block (Option.some.inj e); exact e2 ▸ h))
            | (go_at_call 27; refine (rkids_ok (A := some ⟨g, 0, none⟩) (cap := c1) w3 HG3.out.ls.sv (by omega) k).mono ?_; rw [hK]; rintro e w4 ⟨A4, c4, rfl, hls4, hb4⟩; have HG4 := Lib.hid (HG3.out.below hb4); have HS4 := Lib.hid (HS3.out.below hb4 (Nat.le_refl _)); have HT4 := Lib.hid hls4.sv; clear hls4; have c4' : w4.cell? ⟨g, k, none⟩ = some (.int .i64 v) := (by obtain ⟨g', e, h⟩ := HG4.out.get hlt; rw [HV.out] at h; have e2 : g = g' := congrArg Addr.block (Option.some.inj e); exact e2 ▸ h))
            | (go_at_call 15; refine (same_true HS4.out HT4.out hkl rfl _ _ rfl rfl).mono ?_; rintro e w5 ⟨rfl, hb5⟩; have HG5 := Lib.hid (HG4.out.below hb5); have c5 : w5.cell? ⟨g, k, none⟩ = some (.int .i64 v) := (by obtain ⟨g', e, h⟩ := HG5.out.get hlt; rw [HV.out] at h; have e2 : g = g' := congrArg Addr.block (Option.some.inj e); exact e2 ▸ h)))
          all_goals
            go_wp2_with fail
            go_roundw
            case rel => exact ⟨k + 1, by omega, by go_num, HG5⟩
            case measure => simp [intOf]; omega
        · obtain rfl : k = l.length := by omega
          go_wp2_with (go_at_call 9; refine (awake16 _).mono ?_; rintro e w1 ⟨rfl, hb⟩)
          go_ret
          exact ⟨rfl, (HG.out.below hb).bel⟩
end Go.Proofs.Ytogobpnbkmdnfaa
