/-
  WHAT IS PROVED HERE: the walk of the law pelotonlaw11.EventParked where the cell is one of the array's.
-/
import Derived.Test.YtelphbfdibfmoaaEventParkedA
import Derived.Deep.RegionHeld3
namespace Go.Proofs.Ytelphbfdibfmoaa
open Go.RowKit

set_option maxRecDepth 100000 in
set_option maxHeartbeats 4000000 in
theorem parked_some (W : World) (t : Nat) (ht : t < 4) (seen z0 z1 z2 z3 : Int) :
    Calls Try.prog 13 #[.int .i64 t, .agg #[.int .i64 z0, .int .i64 z1, .int .i64 z2, .int .i64 z3], .int .i64 seen] W fun e w' => e = .returned (.bool true) ∧ Below W.heap.size W w' := by
  have J0 : (0 : Int) ≤ t := by omega
  have J4 : (t : Int) < 4 := by omega
  go_enter Try.func13, Try.ntmps13
  go_wp2_with fail
  refine (new_ok 9 1 _ (by omega) (by omega) (by omega) (by omega)).mono ?_
  rintro e w1 ⟨p, s, rfl, hm1, hk1, hp, hs⟩
  have hb1 : Below (W.heap.size + 1) (W.alloc (.cells #[.int .i64 z0, .int .i64 z1, .int .i64 z2, .int .i64 z3] 90)) w1 := by
    have := hk1.below (Nat.le_refl _) (fun _ h => h.elim)
    simpa using this
  have ql : Blk w1 W.heap.size 90 (ints [z0, z1, z2, z3]) := (Blk.new W 90 (ints [z0, z1, z2, z3])).below hb1 (by omega)
  have bel1 : Below W.heap.size W w1 := ((Below.refl _ W).alloc (Nat.le_refl _) _).trans (hb1.mono (by omega))
  have hp' : W.heap.size + 1 ≤ p := by simpa using hp
  have hs' : W.heap.size + 1 ≤ s := by simpa using hs
  have hz1 : W.heap.size + 1 ≤ w1.heap.size := by simpa using hb1.size
  clear hk1 hb1 hp hs
  go_wp2_with fail
  refine (alloc_okI ⟨p, p, s⟩ (MS.fresh 9 1) 0 4 _ hm1 rfl (by omega) (by decide) (by decide)).mono ?_
  rintro e w2 ⟨rfl, hk2, c, hc, hm2⟩
  have hc' : W.heap.size + 1 ≤ c := Nat.le_trans hz1 hc
  have hb2 : Below (W.heap.size + 1) w1 w2 := hk2.under ⟨hp', hp', hs'⟩ hz1
  have ql2 := ql.below hb2 (by omega)
  have bel2 := bel1.trans (hb2.mono (by omega))
  have hf : (⟨p, c, s⟩ : MB).from_ (W.heap.size + 1) := ⟨hp', hc', hs'⟩
  have hz2 : W.heap.size + 1 ≤ w2.heap.size := Nat.le_trans hz1 hb2.size
  have pre0 : PkPre [z0, z1, z2, z3] 0 (((MS.fresh 9 1).did 0).more 4) := ⟨by simp [MS.fresh, MS.did, MS.more], by simp [MS.fresh, MS.did, MS.more], by simp [MS.stepsOf, MS.fresh, MS.did, MS.more], by omega⟩
  have hm2' : MachP w2 ⟨p, c, s⟩ (((MS.fresh 9 1).did 0).more 4) := hm2
  clear hm1 hk2 hb2 ql bel1 hm2 hz1 hc hc' hp' hs'
  go_wp2_with fail
  go_loopw [11] (fun i wr => ∃ (j : Nat) (st : MS), j ≤ 4 ∧ i = .int .i64 j ∧ MachP wr ⟨p, c, s⟩ st ∧ PkPre [z0, z1, z2, z3] j st ∧ Blk wr W.heap.size 90 (ints [z0, z1, z2, z3]) ∧ Below W.heap.size W wr ∧ W.heap.size + 1 ≤ wr.heap.size) (fun i _ => 4 - (intOf i).toNat)
  case atStart => exact ⟨0, _, by omega, rfl, hm2', pre0, ql2, bel2, hz2⟩
  case round =>
    clear hm2' pre0 ql2 bel2 hz2
    obtain ⟨j, st, hj, rfl, hm, hpre, ql, bel, hz⟩ := hrel
    by_cases hj4 : j < 4
    · have cl : wr.cell? ⟨W.heap.size, j, none⟩ = some (.int .i64 ([z0, z1, z2, z3].getD j 0)) := by rw [ql.cell, get_ints]; simp [List.getD, hj4]
      obtain ⟨u, hu⟩ : ∃ u, u = [z0, z1, z2, z3].getD j 0 := ⟨_, rfl⟩
      rw [← hu] at cl
      have HU := Lib.hid hu
      have hg : st.isGiven j = true := by obtain ⟨_, h2, _⟩ := hpre; simp [MS.isGiven, h2]; omega
      clear hu
      go_wp2_with fail
      refine (store_ok ⟨p, c, s⟩ st 0 j u _ hm (by simp [MS.isCaller, hpre.1]) hg).mono ?_
      rintro e w3 ⟨rfl, hm3, hk3⟩
      have hb3 := hk3.under hf hz
      have ql3 := ql.below hb3 (by omega)
      have bel3 := bel.trans (hb3.mono (by omega))
      have hz3 := Nat.le_trans hz hb3.size
      have pre3 := hpre.store hj4
      rw [← HU.out] at pre3
      clear hm hk3 hb3 ql bel cl hg hz hpre
      go_wp2
      go_roundw
      case rel => exact ⟨j + 1, _, by omega, by go_num, hm3, pre3, ql3, bel3, hz3⟩
      case measure => simp [intOf]; omega
    · obtain rfl : j = 4 := by omega
      rw [show ((4 : Nat) : Int) = 4 from rfl]
      have hst : PkSt [z0, z1, z2, z3] 0 st := hpre
      obtain ⟨wq, rfl⟩ : ∃ wq : World, wq = wr := ⟨_, rfl⟩
      clear hj hj4 hpre
      go_upto_region 11 with fail
      have hc0 : PkC W (wq.alloc (.cells #[.int .i64 t] 62)) ⟨p, c, s⟩ [z0, z1, z2, z3] 0 wq.heap.size t :=
        ⟨⟨st, hm.alloc _, hst⟩, Blk.new wq _ _, ql.alloc _, bel.alloc bel.size _, fun e => by have := hm.lt _ e; omega, hf, by omega⟩
      clear hm hst ql bel hf
      generalize hwv : wq.alloc (.cells #[.int .i64 t] 62) = wv at *
      have HWV := Lib.hid hwv
      clear hwv
      generalize wq.heap.size = vb at *
      go_cut [13] (fun x wc => x = .bool true ∧ wv = wc)
      case first =>
        clear hc0
        go_wp2_with fail
        go_meet
        case rel => exact ⟨rfl, rfl⟩
      case rest =>
        obtain ⟨rfl, rfl⟩ := hcut
        have cv := hc0.ev.cell
        obtain ⟨st0, hm0, hs0⟩ := hc0.st
        have hng := hs0.given (i := (t : Int)) (by omega) (by omega)
        obtain ⟨u, hu⟩ : ∃ u, u = [z0, z1, z2, z3].getD t 0 := ⟨_, rfl⟩
        have hpk : st0.parked t seen = (u == seen) := by unfold MS.parked; rw [hng, hs0.2.2.2 t ht, hu]; simp
        have HPK := Lib.hid hpk
        have HU := Lib.hid hu
        have cl : ∀ w', PkC W w' ⟨p, c, s⟩ [z0, z1, z2, z3] 0 vb t → w'.cell? ⟨W.heap.size, t, none⟩ = some (.int .i64 u) := fun w' h => by
          rw [h.l.cell, get_ints, hu]; simp [List.getD, ht]
        have CL := Lib.hid cl
        have hand := and3 t ht
        have tu : ((u == seen) != (u == seen)) = false := by simp
        clear hpk hu cl
        go_wp2_with fail
        refine (evparked_any ⟨p, c, s⟩ st0 t seen _ hm0).mono ?_
        rw [HPK.out]
        rintro e w3 ⟨rfl, hb3⟩
        have hc3 := hc0.below hb3
        have cv3 := hc3.ev.cell
        have cl3 := CL.out _ hc3
        clear hc0 cv hm0 hs0 hng HPK hb3
        go_wp2_with fail
        refine (evparked_nil t seen _).mono ?_
        rintro e w4 ⟨rfl, hb4⟩
        have hc4 := hc3.below hb4
        have cv4 := hc4.ev.cell
        clear hc3 cv3 hb4
        go_wp2_with fail
        refine (leave_nil _).mono ?_
        rintro e w4' ⟨rfl, rfl⟩
        go_wp2_with fail
        refine (wait_any t _).mono ?_
        rintro e w5 ⟨x, rfl, hw5, hb5, hx5⟩
        have hc5 := hc4.below hb5
        have px : PkX W w5 ⟨p, c, s⟩ vb x t 0 0 := by
          obtain ⟨st4, hm4, _⟩ := hc4.st
          have l1 := hc4.ev.lt
          have l2 := hc4.l.lt
          exact ⟨hw5, fun e => by have := hm4.lt _ e; omega, by omega, by omega, by omega⟩
        have cv5 := hc5.ev.cell
        clear hc4 cv4 hw5 hb5 hx5
        go_wp2_with fail
        refine (evread_nil t 0 _).mono ?_
        rintro e w6 ⟨rfl, hb6⟩
        have hc6 := hc5.below hb6
        have px6 := px.below hb6
        have cv6 := hc6.ev.cell
        clear hc5 cv5 hb6 px
        go_wp2_with fail
        refine (evnew_nil 0 _).mono ?_
        rintro e w7' ⟨rfl, hb7⟩
        have hc7' := hc6.below hb7
        have px7' := px6.below hb7
        have hc7 : PkC W (w7'.alloc (.cells #[.int .i64 0] 62)) ⟨p, c, s⟩ [z0, z1, z2, z3] 0 vb t := hc7'.below ((Below.refl _ w7').alloc (Nat.le_refl _) _)
        have px7 : PkX W (w7'.alloc (.cells #[.int .i64 0] 62)) ⟨p, c, s⟩ vb x t 0 0 := px7'.below ((Below.refl _ w7').alloc (Nat.le_refl _) _)
        have qu : Blk (w7'.alloc (.cells #[.int .i64 0] 62)) w7'.heap.size 62 [.int .i64 0] := Blk.new w7' _ _
        have cv7 := hc7.ev.cell
        clear hc6 cv6 hb7 px6 hc7' px7'
        go_wp2_with fail
        refine (ready_nilx _ 0 _).mono ?_
        rintro e w8 ⟨rfl, rfl⟩
        go_wp2_with fail
        refine (park_nil _).mono ?_
        rintro e w8 ⟨rfl, rfl⟩
        go_wp2_with fail
        refine (wparked_nilx _ _).mono ?_
        rintro e w8 ⟨rfl, hb8⟩
        have hc8 := hc7.below hb8
        have px8 := px7.below hb8
        have qu8 := qu.below hb8 qu.lt
        have cv8 := hc8.ev.cell
        clear hc7 cv7 hb8 px7 qu
        go_wp2_with fail
        refine (ready_nilm x 0 _).mono ?_
        rintro e w8' ⟨rfl, rfl⟩
        go_wp2_with fail
        refine (wparked_nilm x t 0 0 _ px8.wt).mono ?_
        rintro e w9 ⟨rfl, hb9⟩
        have hc9 := hc8.below hb9
        have px9 := px8.below hb9
        have qu9 := qu8.below hb9 qu8.lt
        have cv9 := hc9.ev.cell
        clear hc8 cv8 hb9 px8 qu8
        go_wp2_with fail
        refine (evtell_nil t 0 _).mono ?_
        rintro e w10 ⟨rfl, hb10⟩
        have hc10 := hc9.below hb10
        have px10 := px9.below hb10
        have cu10 := (qu9.below hb10 qu9.lt).cell
        have cv10 := hc10.ev.cell
        clear hc9 cv9 hb10 px9 qu9
        obtain ⟨st10, hm10, hs10⟩ := hc10.st
        go_wp2_with fail
        have hu10 : st10.cellOf t = u := by rw [hs10.2.2.2 t ht, HU.out]
        have HU10 := Lib.hid hu10
        clear hu10
        refine (evread_ok ⟨p, c, s⟩ st10 t 1 u _ hm10 (hs10.caller (by omega) (by omega)) (hs10.given (by omega) (by omega)) HU10.out).mono ?_
        rintro e w11 ⟨rfl, hm11, hk11⟩
        have hs11 := hs10.did1
        rw [show wrap64 (0 + 1) = 1 by unfold wrap64; omega] at hs11
        have hc11 := hc10.kept hk11 hm11 hs11
        have px11 := px10.kept hk11
        have cl11 : w11.cell? ⟨W.heap.size, t, none⟩ = some (.int .i64 u) := by rw [hc11.l.cell, get_ints, HU.out]; simp [List.getD, ht]
        have tn : (u != u) = false := by simp
        clear hc10 cv10 hk11 px10 cu10 hm10 hs10 hm11 hs11 HU10
        obtain ⟨st11, hm11, hs11⟩ := hc11.st
        have hu11 : st11.cellOf t = u := by rw [hs11.2.2.2 t ht, HU.out]
        have HU11 := Lib.hid hu11
        clear hu11
        go_wp2_with fail
        refine (ready_ok ⟨p, c, s⟩ st11 x t 0 0 1 u _ hm11 px11.wt px11.nx (hs11.caller (by omega) (by omega)) (hs11.given (by omega) (by omega)) HU11.out).mono ?_
        rintro e w12 ⟨rfl, hm12, hw12, hk12⟩
        have hs12 := hs11.did1
        rw [show wrap64 (1 + 1) = 2 by unfold wrap64; omega] at hs12
        have hc12 := hc11.keptx px11 hk12 hm12 hs12
        have px12 : PkX W w12 ⟨p, c, s⟩ vb x t 1 u := ⟨hw12, px11.nx, px11.xv, px11.xl, px11.fx⟩
        clear hc11 px11 hm11 hs11 hm12 hs12 hw12 hk12 cl11 HU11
        go_wp2_with fail
        refine (park_ok x t u _ px12.wt).mono ?_
        rintro e w13 ⟨rfl, hw13, hk13⟩
        have hc13 := hc12.waitx px12 hk13
        have px13 : PkX W w13 ⟨p, c, s⟩ vb x t 2 u := ⟨hw13, px12.nx, px12.xv, px12.xl, px12.fx⟩
        clear hc12 px12 hw13 hk13
        obtain ⟨st13, hm13, hs13⟩ := hc13.st
        have hp13 : ((2 : Int) == 2 && st13.parked t u) = true := by
          unfold MS.parked; rw [hs13.given (by omega) (by omega), hs13.2.2.2 t ht, ← HU.out]; simp
        have HP13 := Lib.hid hp13
        clear hp13
        go_wp2_with fail
        refine (wparked_v ⟨p, c, s⟩ st13 x t 2 u true _ hm13 px13.wt HP13.out).mono ?_
        rintro e w14 ⟨rfl, hb14⟩
        have hc14 := hc13.below hb14
        have px14 := px13.below hb14
        clear hc13 px13 hm13 hs13 hb14 HP13
        go_wp2_with fail
        refine (wparked_nilm x t 2 u _ px14.wt).mono ?_
        rintro e w15 ⟨rfl, hb15⟩
        have hc15 := hc14.below hb15
        have px15 := px14.below hb15
        have cv15 := hc15.ev.cell
        have cl15 : w15.cell? ⟨W.heap.size, t, none⟩ = some (.int .i64 u) := by rw [hc15.l.cell, get_ints, HU.out]; simp [List.getD, ht]
        clear hc14 px14 hb15
        go_wp2_with fail
        obtain ⟨st15, hm15, hs15⟩ := hc15.st
        have hcd : PkC W w15.drew ⟨p, c, s⟩ [z0, z1, z2, z3] 2 vb t := hc15.below (below_drewN' (Below.refl _ w15) 1)
        have pxd : PkX W w15.drew ⟨p, c, s⟩ vb x t 2 u := px15.below (below_drewN' (Below.refl _ w15) 1)
        have hmd := hm15.drew
        have hu15 : st15.cellOf t = u := by rw [hs15.2.2.2 t ht, HU.out]
        have HU15 := Lib.hid hu15
        clear hu15
        have g1 : st15.isCaller 1 = true := hs15.caller (by omega) (by omega)
        have g2 : st15.isGiven t = true := hs15.given (by omega) (by omega)
        have g3 : (st15.did 1).isGiven t = true := by simpa [MS.isGiven, MS.did] using g2
        have HP := Lib.hid (show ((2 : Int) == 2 && (((st15.did 1).putAt t (wrap64 (u + 1))).parked t u)) = false by
          unfold MS.parked
          rw [cellOf_put_same _ _ _ g3]
          have : ¬ wrap64 (u + 1) = u := by unfold wrap64; omega
          simp [this])
        have HC := Lib.hid (show (((st15.did 1).putAt t (wrap64 (u + 1))).cellOf t) = wrap64 (u + 1) from cellOf_put_same _ _ _ g3)
        have HS := Lib.hid (show (((st15.did 1).putAt t (wrap64 (u + 1))).stepsOf 1) = 3 by
          show (st15.did 1).stepsOf 1 = 3
          rw [steps_did1 _ g1, hs15.2.2.1]; unfold wrap64; omega)
        have te : (wrap64 (u + 1) == wrap64 (u + 1)) = true := by simp
        clear hc15 px15 cl15 hm15 hs15
        have te2 : (wrap64 (u + 1) == IntKind.i64.wrap (u + 1)) = true := by rw [IntKind.wrap_i64]; simp [wrap64]
        have cvd : w15.drew.cell? ⟨vb, 0, none⟩ = some (.int .i64 t) := by rw [hcd.ev.cell]; rfl
        have cld : w15.drew.cell? ⟨W.heap.size, t, none⟩ = some (.int .i64 u) := by rw [hcd.l.cell, get_ints, HU.out]; simp [List.getD, ht]
        go_region_held3 (fun w' => w'.cell? ⟨vb, 0, none⟩ = some (.int .i64 t) ∧ w'.cell? ⟨W.heap.size, t, none⟩ = some (.int .i64 u)) (first | exact ⟨cvd, cld⟩ | exact ⟨cv16, cl16⟩ | exact ⟨cv17, cl17⟩ | exact ⟨cv20, cl20⟩) (first
          | (go_at_call 37; refine (evtell_ok ⟨p, c, s⟩ st15 t 1 u _ ?_ g1 g2 HU15.out).mono ?_; (exact hmd); rintro e w16 ⟨rfl, hm16, hk16⟩; have px16 := pxd.kept hk16; have ql16 := hcd.l.kept hk16 hcd.nl; have qv16 := hcd.ev.kept hk16 hcd.nv; have cl16 : w16.cell? ⟨W.heap.size, t, none⟩ = some (.int .i64 u) := (by rw [ql16.cell, get_ints, HU.out]; simp [List.getD, ht]); have cv16 : w16.cell? ⟨vb, 0, none⟩ = some (.int .i64 t) := (by rw [qv16.cell]; rfl); have bel16 := hcd.bel.trans (hk16.below hcd.bel.size (fun i hi => Nat.le_trans (Nat.le_succ _) (MB.from_has hcd.fm i hi))))
          | (go_at_call 38; refine (wparked_v ⟨p, c, s⟩ _ x t 2 u false _ ?_ px16.wt HP.out).mono ?_; (exact hm16); rintro e w17 ⟨rfl, hb17⟩; have hm17 := hm16.kept (Kept.of_below (S := fun _ => False) hb17) (fun _ _ f => f); have ql17 := ql16.below hb17 ql16.lt; have qv17 := qv16.below hb17 qv16.lt; have cl17 : w17.cell? ⟨W.heap.size, t, none⟩ = some (.int .i64 u) := (by rw [ql17.cell, get_ints, HU.out]; simp [List.getD, ht]); have cv17 : w17.cell? ⟨vb, 0, none⟩ = some (.int .i64 t) := (by rw [qv17.cell]; rfl); have bel17 := bel16.trans (hb17.mono bel16.size))
          | (go_at_call 17; refine (peek_any ⟨p, c, s⟩ ((st15.did 1).putAt t (wrap64 (u + 1))) t _ ?_).mono ?_; (exact hm17); rintro e w18 ⟨rfl, rfl⟩; rw [HC.out])
          | (go_at_call 23; refine (steps_any ⟨p, c, s⟩ ((st15.did 1).putAt t (wrap64 (u + 1))) 1 _ ?_).mono ?_; (exact hm17); rintro e w19 ⟨rfl, rfl⟩; rw [HS.out])
          | (go_at_call 33; refine (awake11_any _).mono ?_; rintro e w20 ⟨rfl, hb20⟩; have ql20 := ql17.below hb20 ql17.lt; have qv20 := qv17.below hb20 qv17.lt; have cl20 : w20.cell? ⟨W.heap.size, t, none⟩ = some (.int .i64 u) := (by rw [ql20.cell, get_ints, HU.out]; simp [List.getD, ht]); have cv20 : w20.cell? ⟨vb, 0, none⟩ = some (.int .i64 t) := (by rw [qv20.cell]; rfl); have bel20 := bel17.trans (hb20.mono bel17.size)))
        all_goals (go_wp2_with fail; go_ret; exact ⟨rfl, bel20⟩)
end Go.Proofs.Ytelphbfdibfmoaa
