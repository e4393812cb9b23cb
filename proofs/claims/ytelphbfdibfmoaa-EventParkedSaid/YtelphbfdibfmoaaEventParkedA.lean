/-
  WHAT IS PROVED HERE: the walk of the law pelotonlaw11.EventParked: it returns true, and what was there before the call stays. Conditions: the arguments are 64-bit numbers.
-/
import Derived.Test.YtelphbfdibfmoaaEventC
import Derived.Test.YtelphbfdibfmoaaArgs
import Derived.Deep.RegionWith
import Derived.Deep.DeepCutAuto
namespace Go.Proofs.Ytelphbfdibfmoaa
open Go.RowKit

/-- A machine of four cells and two callers, whose caller 1 did k operations. -/
def PkSt (zs : List Int) (k : Int) (st : MS) : Prop := st.steps.length = 2 ∧ st.cells.length = 4 ∧ st.stepsOf 1 = k ∧ (∀ q : Nat, q < 4 → st.cellOf q = zs.getD q 0)
theorem PkSt.caller {zs : List Int} {k : Int} {st : MS} (h : PkSt zs k st) {i : Int} (h0 : 0 ≤ i) (h1 : i ≤ 1) : st.isCaller i = true := by
  obtain ⟨h2, _⟩ := h
  simp [MS.isCaller]; omega
theorem PkSt.given {zs : List Int} {k : Int} {st : MS} (h : PkSt zs k st) {i : Int} (h0 : 0 ≤ i) (h1 : i < 4) : st.isGiven i = true := by
  obtain ⟨_, h2, _⟩ := h
  simp [MS.isGiven]; omega
theorem PkSt.ungiven {zs : List Int} {k : Int} {st : MS} (h : PkSt zs k st) {i : Int} (h0 : ¬ (0 ≤ i ∧ i < 4)) : st.isGiven i = false := by
  obtain ⟨_, h2, _⟩ := h
  simp [MS.isGiven]; omega
theorem steps_did1 (st : MS) (h : st.isCaller 1 = true) : (st.did 1).stepsOf 1 = wrap64 (st.stepsOf 1 + 1) := by
  obtain ⟨h0, h1⟩ := MS.isCaller_lt h
  unfold MS.stepsOf
  rw [if_pos (by simp [MS.did]; omega), if_pos ⟨h0, h1⟩]
  simp [MS.did, show 1 < st.steps.length by omega]
theorem steps_did0 (st : MS) : (st.did 0).stepsOf 1 = st.stepsOf 1 := by
  unfold MS.stepsOf
  have e : (st.did 0).steps.length = st.steps.length := by simp [MS.did]
  rw [e]
  by_cases h : (0 : Int) ≤ 1 ∧ (1 : Int) < st.steps.length
  · rw [if_pos h, if_pos h]; simp [MS.did]
  · rw [if_neg h, if_neg h]
theorem PkSt.did1 {zs : List Int} {k : Int} {st : MS} (h : PkSt zs k st) : PkSt zs (wrap64 (k + 1)) (st.did 1) :=
  ⟨by simp [MS.did, h.1], h.2.1, by rw [steps_did1 _ (h.caller (by omega) (by omega)), h.2.2.1], h.2.2.2⟩

/-- While the cells are filled: the first j are. -/
def PkPre (zs : List Int) (j : Nat) (st : MS) : Prop := st.steps.length = 2 ∧ st.cells.length = 4 ∧ st.stepsOf 1 = 0 ∧ (∀ q : Nat, q < j → st.cellOf q = zs.getD q 0)
theorem PkPre.store {zs : List Int} {j : Nat} {st : MS} (h : PkPre zs j st) (hj : j < 4) : PkPre zs (j + 1) ((st.did 0).putAt j (zs.getD j 0)) := by
  have hg : (st.did 0).isGiven j = true := by obtain ⟨_, h2, _⟩ := h; simp [MS.isGiven, MS.did, h2]; omega
  refine ⟨by simp [MS.putAt, MS.did, h.1], by simp [MS.putAt, MS.did, h.2.1], ?_, ?_⟩
  · show (st.did 0).stepsOf 1 = 0
    rw [steps_did0, h.2.2.1]
  · intro q hq
    by_cases e : q = j
    · subst e; exact cellOf_put_same _ _ _ hg
    · rw [cellOf_put_other _ _ _ _ (by omega) hg]
      exact h.2.2.2 q (by omega)

theorem arr4 {zs : List Int} (h : zs.length = 4) : ∃ a b c d, zs = [a, b, c, d] := by
  match zs, h with
  | [a, b, c, d], _ => exact ⟨a, b, c, d, rfl⟩

theorem and3 (t : Nat) (h : t < 4) : bits BinOp.and IntKind.i64 (t : Int) 3 = (t : Int) := by
  match t, h with
  | 0, _ => decide
  | 1, _ => decide
  | 2, _ => decide
  | 3, _ => decide

/-- What is carried through this law. -/
structure PkC (W w : World) (mb : MB) (zs : List Int) (k : Int) (vb : Nat) (a : Int) : Prop where
  st : ∃ st, MachP w mb st ∧ PkSt zs k st
  ev : Blk w vb 62 [.int .i64 a]
  l : Blk w W.heap.size 90 (ints zs)
  bel : Below W.heap.size W w
  nv : ¬ mb.has vb
  fm : mb.from_ (W.heap.size + 1)
  lv : ¬ vb = W.heap.size
structure PkX (W w : World) (mb : MB) (vb x : Nat) (a how seen : Int) : Prop where
  wt : WaitB w x a how seen
  nx : ¬ mb.has x
  xv : ¬ vb = x
  xl : ¬ W.heap.size = x
  fx : W.heap.size ≤ x

section
variable {W w w' : World} {mb : MB} {zs : List Int} {k a how seen : Int} {vb x : Nat}
theorem PkC.below (h : PkC W w mb zs k vb a) (hb : Below w.heap.size w w') : PkC W w' mb zs k vb a := by
  obtain ⟨st, hm, hs⟩ := h.st
  exact ⟨⟨st, hm.kept (Kept.of_below (S := fun _ => False) hb) (fun _ _ f => f), hs⟩, h.ev.below hb h.ev.lt, h.l.below hb h.l.lt, h.bel.trans (hb.mono h.bel.size), h.nv, h.fm, h.lv⟩
theorem PkX.below (h : PkX W w mb vb x a how seen) (hb : Below w.heap.size w w') : PkX W w' mb vb x a how seen := ⟨Blk.below h.wt hb (Blk.lt h.wt), h.nx, h.xv, h.xl, h.fx⟩
theorem PkX.kept (h : PkX W w mb vb x a how seen) (hk : Kept mb.has w w') : PkX W w' mb vb x a how seen := ⟨Blk.kept h.wt hk h.nx, h.nx, h.xv, h.xl, h.fx⟩
theorem PkC.nl (h : PkC W w mb zs k vb a) : ¬ mb.has W.heap.size := fun e => by have := MB.from_has h.fm _ e; omega
theorem PkC.kept (h : PkC W w mb zs k vb a) {k' : Int} {st' : MS} (hk : Kept mb.has w w') (hm : MachP w' mb st') (hs : PkSt zs k' st') : PkC W w' mb zs k' vb a :=
  ⟨⟨st', hm, hs⟩, h.ev.kept hk h.nv, h.l.kept hk h.nl, h.bel.trans (hk.below h.bel.size (fun i hi => by have := MB.from_has h.fm i hi; omega)), h.nv, h.fm, h.lv⟩
theorem PkC.keptx (h : PkC W w mb zs k vb a) (hx : PkX W w mb vb x a how seen) {k' : Int} {st' : MS} (hk : Kept (fun i => mb.has i ∨ i = x) w w') (hm : MachP w' mb st') (hs : PkSt zs k' st') : PkC W w' mb zs k' vb a :=
  ⟨⟨st', hm, hs⟩, h.ev.kept hk (fun e => e.elim h.nv hx.xv), h.l.kept hk (fun e => e.elim h.nl hx.xl), h.bel.trans (hk.below h.bel.size (fun i hi => hi.elim (fun e => by have := MB.from_has h.fm i e; omega) (fun e => by have := hx.fx; omega))), h.nv, h.fm, h.lv⟩
theorem PkC.waitx (h : PkC W w mb zs k vb a) (hx : PkX W w mb vb x a how seen) (hk : Kept (fun i => i = x) w w') : PkC W w' mb zs k vb a := by
  obtain ⟨st, hm, hs⟩ := h.st
  exact h.keptx hx (hk.mono (fun _ _ e => .inr e)) (hm.kept hk (fun i h1 h2 => hx.nx (h2 ▸ h1))) hs
end

set_option maxRecDepth 100000 in
set_option maxHeartbeats 4000000 in
theorem parked_none (W : World) (a seen z0 z1 z2 z3 : Int) (h : ¬ (0 ≤ a ∧ a < 4)) :
    Calls Try.prog 13 #[.int .i64 a, .agg #[.int .i64 z0, .int .i64 z1, .int .i64 z2, .int .i64 z3], .int .i64 seen] W fun e w' => e = .returned (.bool true) ∧ Below W.heap.size W w' := by
  go_enter Try.func13, Try.ntmps13
  go_wp2_with fail
  refine (new_ok 9 1 _ (by omega) (by omega) (by omega) (by omega)).mono ?_
  rintro e w1 ⟨p, s, rfl, hm1, hk1, hp, hs⟩
  have hb1 : Below (W.heap.size + 1) (W.alloc (.cells #[.int .i64 z0, .int .i64 z1, .int .i64 z2, .int .i64 z3] 90)) w1 := by
    have := hk1.below (Nat.le_refl _) (fun _ h => h.elim)
    simpa using this
  have ql : Blk w1 W.heap.size 90 (ints [z0, z1, z2, z3]) := (Blk.new W 90 (ints [z0, z1, z2, z3])).below hb1 (by omega)
  have bel1 : Below W.heap.size W w1 := ((Below.refl _ W).alloc (Nat.le_refl _) _).trans (hb1.mono (by omega))
  have hp' : W.heap.size + 1 ≤ p := by simpa using hp
  have hs' : W.heap.size + 1 ≤ s := by simpa using hs
  have hz1 : W.heap.size + 1 ≤ w1.heap.size := by simpa using hb1.size
  clear hk1 hb1 hp hs
  go_wp2_with fail
  refine (alloc_okI ⟨p, p, s⟩ (MS.fresh 9 1) 0 4 _ hm1 rfl (by omega) (by decide) (by decide)).mono ?_
  rintro e w2 ⟨rfl, hk2, c, hc, hm2⟩
  have hc' : W.heap.size + 1 ≤ c := Nat.le_trans hz1 hc
  have hb2 : Below (W.heap.size + 1) w1 w2 := hk2.under ⟨hp', hp', hs'⟩ hz1
  have ql2 := ql.below hb2 (by omega)
  have bel2 := bel1.trans (hb2.mono (by omega))
  have hf : (⟨p, c, s⟩ : MB).from_ (W.heap.size + 1) := ⟨hp', hc', hs'⟩
  have hz2 : W.heap.size + 1 ≤ w2.heap.size := Nat.le_trans hz1 hb2.size
  have pre0 : PkPre [z0, z1, z2, z3] 0 (((MS.fresh 9 1).did 0).more 4) := ⟨by simp [MS.fresh, MS.did, MS.more], by simp [MS.fresh, MS.did, MS.more], by simp [MS.stepsOf, MS.fresh, MS.did, MS.more], by omega⟩
  have hm2' : MachP w2 ⟨p, c, s⟩ (((MS.fresh 9 1).did 0).more 4) := hm2
  clear hm1 hk2 hb2 ql bel1 hm2 hz1 hc hc' hp' hs'
  go_wp2_with fail
  go_loopw [11] (fun i wr => ∃ (j : Nat) (st : MS), j ≤ 4 ∧ i = .int .i64 j ∧ MachP wr ⟨p, c, s⟩ st ∧ PkPre [z0, z1, z2, z3] j st ∧ Blk wr W.heap.size 90 (ints [z0, z1, z2, z3]) ∧ Below W.heap.size W wr ∧ W.heap.size + 1 ≤ wr.heap.size) (fun i _ => 4 - (intOf i).toNat)
  case atStart => exact ⟨0, _, by omega, rfl, hm2', pre0, ql2, bel2, hz2⟩
  case round =>
    clear hm2' pre0 ql2 bel2 hz2
    obtain ⟨j, st, hj, rfl, hm, hpre, ql, bel, hz⟩ := hrel
    by_cases hj4 : j < 4
    · have cl : wr.cell? ⟨W.heap.size, j, none⟩ = some (.int .i64 ([z0, z1, z2, z3].getD j 0)) := by rw [ql.cell, get_ints]; simp [List.getD, hj4]
      obtain ⟨u, hu⟩ : ∃ u, u = [z0, z1, z2, z3].getD j 0 := ⟨_, rfl⟩
      rw [← hu] at cl
      have HU := Lib.hid hu
      have hg : st.isGiven j = true := by obtain ⟨_, h2, _⟩ := hpre; simp [MS.isGiven, h2]; omega
      clear hu
      go_wp2_with fail
      refine (store_ok ⟨p, c, s⟩ st 0 j u _ hm (by simp [MS.isCaller, hpre.1]) hg).mono ?_
      rintro e w3 ⟨rfl, hm3, hk3⟩
      have hb3 := hk3.under hf hz
      have ql3 := ql.below hb3 (by omega)
      have bel3 := bel.trans (hb3.mono (by omega))
      have hz3 := Nat.le_trans hz hb3.size
      have pre3 := hpre.store hj4
      rw [← HU.out] at pre3
      clear hm hk3 hb3 ql bel cl hg hz hpre
      go_wp2
      go_roundw
      case rel => exact ⟨j + 1, _, by omega, by go_num, hm3, pre3, ql3, bel3, hz3⟩
      case measure => simp [intOf]; omega
    · obtain rfl : j = 4 := by omega
      rw [show ((4 : Nat) : Int) = 4 from rfl]
      have hst : PkSt [z0, z1, z2, z3] 0 st := hpre
      obtain ⟨wq, rfl⟩ : ∃ wq : World, wq = wr := ⟨_, rfl⟩
      clear hj hj4 hpre
      go_upto_region 11 with fail
      have hc0 : PkC W (wq.alloc (.cells #[.int .i64 a] 62)) ⟨p, c, s⟩ [z0, z1, z2, z3] 0 wq.heap.size a :=
        ⟨⟨st, hm.alloc _, hst⟩, Blk.new wq _ _, ql.alloc _, bel.alloc bel.size _, fun e => by have := hm.lt _ e; omega, hf, by omega⟩
      clear hm hst ql bel hf
      generalize hwv : wq.alloc (.cells #[.int .i64 a] 62) = wv at *
      have HWV := Lib.hid hwv
      clear hwv
      generalize wq.heap.size = vb at *
      go_cut [13] (fun x wc => x = .bool false ∧ wv = wc)
      case first =>
        clear hc0
        by_cases h0 : 0 ≤ a
        · have h4 : ¬ a < 4 := fun h4 => h ⟨h0, h4⟩
          clear h
          go_wp2_with fail
          go_meet
          case rel => exact ⟨rfl, rfl⟩
        · have h0' : decide (0 ≤ a) = false := by simpa using h0
          clear h
          go_wp2_with fail
          go_meet
          case rel => exact ⟨rfl, rfl⟩
      case rest =>
        obtain ⟨rfl, rfl⟩ := hcut
        have cv := hc0.ev.cell
        obtain ⟨st0, hm0, hs0⟩ := hc0.st
        have hng := hs0.ungiven h
        have hpk : st0.parked a seen = false := by unfold MS.parked; rw [hng]; rfl
        have HPK := Lib.hid hpk
        clear hpk
        go_wp2_with fail
        refine (evparked_any ⟨p, c, s⟩ st0 a seen _ hm0).mono ?_
        rw [HPK.out]
        rintro e w3 ⟨rfl, hb3⟩
        have hc3 := hc0.below hb3
        have cv3 := hc3.ev.cell
        clear hc0 cv hm0 hs0 hng HPK hb3
        go_wp2_with fail
        refine (evparked_nil a seen _).mono ?_
        rintro e w4 ⟨rfl, hb4⟩
        have hc4 := hc3.below hb4
        have cv4 := hc4.ev.cell
        clear hc3 cv3 hb4
        go_wp2_with fail
        refine (leave_nil _).mono ?_
        rintro e w4' ⟨rfl, rfl⟩
        go_wp2_with fail
        refine (wait_any a _).mono ?_
        rintro e w5 ⟨x, rfl, hw5, hb5, hx5⟩
        have hc5 := hc4.below hb5
        have px : PkX W w5 ⟨p, c, s⟩ vb x a 0 0 := by
          obtain ⟨st4, hm4, _⟩ := hc4.st
          have l1 := hc4.ev.lt
          have l2 := hc4.l.lt
          exact ⟨hw5, fun e => by have := hm4.lt _ e; omega, by omega, by omega, by omega⟩
        have cv5 := hc5.ev.cell
        clear hc4 cv4 hw5 hb5 hx5
        go_wp2_with fail
        refine (evread_nil a 0 _).mono ?_
        rintro e w6 ⟨rfl, hb6⟩
        have hc6 := hc5.below hb6
        have px6 := px.below hb6
        have cv6 := hc6.ev.cell
        clear hc5 cv5 hb6 px
        go_wp2_with fail
        refine (evnew_nil 0 _).mono ?_
        rintro e w7' ⟨rfl, hb7⟩
        have hc7' := hc6.below hb7
        have px7' := px6.below hb7
        have hc7 : PkC W (w7'.alloc (.cells #[.int .i64 0] 62)) ⟨p, c, s⟩ [z0, z1, z2, z3] 0 vb a := hc7'.below ((Below.refl _ w7').alloc (Nat.le_refl _) _)
        have px7 : PkX W (w7'.alloc (.cells #[.int .i64 0] 62)) ⟨p, c, s⟩ vb x a 0 0 := px7'.below ((Below.refl _ w7').alloc (Nat.le_refl _) _)
        have qu : Blk (w7'.alloc (.cells #[.int .i64 0] 62)) w7'.heap.size 62 [.int .i64 0] := Blk.new w7' _ _
        have cv7 := hc7.ev.cell
        clear hc6 cv6 hb7 px6 hc7' px7'
        go_wp2_with fail
        refine (ready_nilx _ 0 _).mono ?_
        rintro e w8 ⟨rfl, rfl⟩
        go_wp2_with fail
        refine (park_nil _).mono ?_
        rintro e w8 ⟨rfl, rfl⟩
        go_wp2_with fail
        refine (wparked_nilx _ _).mono ?_
        rintro e w8 ⟨rfl, hb8⟩
        have hc8 := hc7.below hb8
        have px8 := px7.below hb8
        have qu8 := qu.below hb8 qu.lt
        have cv8 := hc8.ev.cell
        clear hc7 cv7 hb8 px7 qu
        go_wp2_with fail
        refine (ready_nilm x 0 _).mono ?_
        rintro e w8' ⟨rfl, rfl⟩
        go_wp2_with fail
        refine (wparked_nilm x a 0 0 _ px8.wt).mono ?_
        rintro e w9 ⟨rfl, hb9⟩
        have hc9 := hc8.below hb9
        have px9 := px8.below hb9
        have qu9 := qu8.below hb9 qu8.lt
        have cv9 := hc9.ev.cell
        clear hc8 cv8 hb9 px8 qu8
        go_wp2_with fail
        refine (evtell_nil a 0 _).mono ?_
        rintro e w10 ⟨rfl, hb10⟩
        have hc10 := hc9.below hb10
        have px10 := px9.below hb10
        have cu10 := (qu9.below hb10 qu9.lt).cell
        have cv10 := hc10.ev.cell
        clear hc9 cv9 hb10 px9 qu9
        obtain ⟨st10, hm10, hs10⟩ := hc10.st
        go_wp2_with fail
        refine (evread_no ⟨p, c, s⟩ st10 a 1 _ hm10 (.inr (hs10.ungiven h))).mono ?_
        rintro e w11 ⟨rfl, hb11⟩
        have hc11 := hc10.below hb11
        have px11 := px10.below hb11
        have cv11 := hc11.ev.cell
        clear hc10 cv10 hb11 px10 cu10 hm10 hs10
        obtain ⟨st11, hm11, hs11⟩ := hc11.st
        go_wp2_with fail
        refine (evtell_no ⟨p, c, s⟩ st11 a 1 _ hm11 (.inr (hs11.ungiven h))).mono ?_
        rintro e w12 ⟨rfl, hm12, hk12⟩
        have hc12 := hc11.kept hk12 hm12 hs11
        have px12 := px11.kept hk12
        clear hc11 cv11 hk12 px11 hm11
        go_wp2_with fail
        refine (ready_no ⟨p, c, s⟩ st11 x a 0 0 1 _ hm12 px12.wt (.inr (hs11.ungiven h))).mono ?_
        rintro e w13 ⟨rfl, hb13⟩
        have hc13 := hc12.below hb13
        have px13 := px12.below hb13
        clear hc12 hb13 px12 hm12 hs11
        go_wp2_with fail
        refine (park_no x a 0 0 _ px13.wt (by omega)).mono ?_
        rintro e w13' ⟨rfl, rfl⟩
        obtain ⟨st13, hm13, hs13⟩ := hc13.st
        go_wp2_with fail
        refine (wparked_v ⟨p, c, s⟩ st13 x a 0 0 false _ hm13 px13.wt rfl).mono ?_
        rintro e w14 ⟨rfl, hb14⟩
        have hc14 := hc13.below hb14
        clear hc13 px13 hm13 hs13 hb14
        obtain ⟨st14, hm14, hs14⟩ := hc14.st
        have hst1 := hs14.2.2.1
        have HST1 := Lib.hid hst1
        have bel14 := hc14.bel
        clear hst1 hc14 hs14
        go_wp2_with fail
        refine (steps_any ⟨p, c, s⟩ st14 1 _ hm14).mono ?_
        rw [HST1.out]
        rintro e w15 ⟨rfl, rfl⟩
        go_wp2_with (go_at_call 33; refine (awake11_any _).mono ?_; rintro e w3 ⟨rfl, hb3⟩)
        go_ret
        exact ⟨rfl, bel14.trans (hb3.mono bel14.size)⟩

end Go.Proofs.Ytelphbfdibfmoaa
