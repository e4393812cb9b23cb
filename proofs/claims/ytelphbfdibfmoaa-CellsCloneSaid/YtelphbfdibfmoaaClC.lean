/-
  WHAT IS PROVED HERE: contracts of a machine's Alloc, Add and New. Conditions: the pointer is a machine's ('MachC'); at Alloc a machine of at most 2^20 cells.
-/
import Derived.Test.YtelphbfdibfmoaaClB
import Derived.Test.YtelphbfdibfmoaaApp
import Derived.Deep.DeepCutAuto
import Derived.RegionTactic
import Derived.BigRegion
import Derived.ChangeAlike
namespace Go.Proofs.Ytelphbfdibfmoaa
open Go.RowKit

theorem info_x : (Try.prog.info? 2).map (fun i => (i.zero, i.size, i.bytes)) = some (some (.int .i64 0), 1, 8) := by kernel_rfl
theorem info_i : (Try.prog.info? 3).map (fun i => (i.zero, i.size, i.bytes)) = some (some (.int .i64 0), 1, 8) := by kernel_rfl

def MS.more (st : MS) (n : Nat) : MS := { st with cells := st.cells ++ List.replicate n 0 }

/-- The cells, as an append reads them. -/
theorem MachC.olds {tM tX tI : TypeId} {w : World} {mb : MB} {st : MS} (h : MachC tM tX tI w mb st) : ∀ j v, (ints st.cells)[j]? = some v → w.cell? ((⟨mb.c, 0, none⟩ : Addr).add j) = some v := by
  intro j v hj
  have hl : j < st.cells.length := by have := (List.getElem?_eq_some_iff.1 hj).1; simpa [ints] using this
  have hadd : (⟨mb.c, 0, none⟩ : Addr).add j = ⟨mb.c, j, none⟩ := by unfold Addr.add; split <;> simp_all
  rw [hadd, h.cellAt j hl, ← hj, get_ints]
  simp [hl]

/-- A machine whose cells have moved into a new array. -/
theorem MachC.moved {tM tX tI : TypeId} {w : World} {mb : MB} {st : MS} (h : MachC tM tX tI w mb st) (n cap : Nat) (h1 : st.cells.length + n ≤ cap) (h2 : cap ≤ maxLen) :
    MachC tM tX tI ((w.alloc (.cells (ints st.cells ++ List.replicate n (Value.int .i64 0) ++ List.replicate (cap - (st.cells.length + n)) (Value.int .i64 0)).toArray tX)).setCell ⟨mb.p, 0, none⟩ (.slice (some ⟨w.heap.size, 0, none⟩) (st.cells.length + n) cap))
      ⟨mb.p, w.heap.size, mb.s⟩ (st.more n) := by
  have hp : mb.p < w.heap.size := h.lt _ (.inl rfl)
  have hs : mb.s < w.heap.size := h.lt _ (.inr (.inr rfl))
  have hA : ints st.cells ++ List.replicate n (Value.int .i64 0) = ints (st.cells ++ List.replicate n 0) := by simp [ints]
  have hb : ∃ A l k sc, Blk w mb.p tM [.slice A l k, .int .i64 st.size, .slice (some ⟨mb.s, 0, none⟩) st.steps.length sc] := by
    rcases h.cells with ⟨n, sc, h0, hp, rfl, hc⟩ | ⟨cap, rest, n, sc, cp, cs, hp, hc, h1, h2, rfl⟩
    · exact ⟨_, _, _, _, hp⟩
    · exact ⟨_, _, _, _, hp⟩
  obtain ⟨A, l, k, sc, hb⟩ := hb
  obtain ⟨sr, hsr⟩ := h.steps
  refine ⟨h.ps, ⟨sr, (hsr.alloc _).setOther (Ne.symm h.ps) _⟩, .inr ⟨cap, List.replicate (cap - (st.cells.length + n)) (Value.int .i64 0), st.steps.length, sc, by simp; omega, by simp; omega, ?_, ?_, by simp [MS.more]; omega, h2, rfl⟩⟩
  · have := (hb.alloc (.cells (ints st.cells ++ List.replicate n (Value.int .i64 0) ++ List.replicate (cap - (st.cells.length + n)) (Value.int .i64 0)).toArray tX)).set 0 (.slice (some ⟨w.heap.size, 0, none⟩) (st.cells.length + n) cap)
    simpa [MS.more] using this
  · rw [hA]
    exact (Blk.new w tX _).setOther (by simp; omega) _

set_option maxRecDepth 20000 in
set_option maxHeartbeats 200000 in
theorem alloc_ok (mb : MB) (st : MS) (i : Int) (n : Nat) (w : World) (hm : MachCP w mb st) (g1 : st.isCaller i = true) (g2 : 1 ≤ n) (g3 : (st.cells.length : Int) + n ≤ st.size) (g4 : st.size ≤ 1048576) :
    Calls Try.prog 24 #[.pointer (some ⟨mb.p, 0, none⟩), .int .i64 i, .int .i64 n] w fun e w' =>
      e = .returned (.tuple #[.int .i64 st.cells.length, .int .i64 0]) ∧ Kept mb.has w w' ∧ ∃ c, w.heap.size ≤ c ∧ MachCP w' ⟨mb.p, c, mb.s⟩ ((st.did i).more n) := by
  obtain ⟨i0, hi, hz0, hz1, hz2⟩ := info_parts info_x
  obtain ⟨A, cap, sc, h0, h1, h2, hA, hl, hcap, hn⟩ := hm.fields
  obtain ⟨a1, a2⟩ := MS.isCaller_lt g1
  have hs := hm.stepAt i.toNat (by omega)
  have fs := hm.frozenS i.toNat
  have fp := hm.frozenP 0
  have s1 : ¬ mb.p = mb.s := hm.ps
  have s2 : ¬ mb.s = mb.p := Ne.symm hm.ps
  have l1 : mb.p < w.heap.size := hm.lt _ (.inl rfl)
  have l3 : mb.s < w.heap.size := hm.lt _ (.inr (.inr rfl))
  have holds : ∀ b, A = some b → ∀ j v, (ints st.cells)[j]? = some v → (w.setCell ⟨mb.s, i.toNat, none⟩ (.int .i64 (wrap64 (st.steps[i.toNat]?.getD 0 + 1)))).cell? (b.add j) = some v := by
    intro b hb j v hj
    have hne : st.cells ≠ [] := by intro h; rw [h] at hj; simp [ints] at hj
    have := hA hne
    rw [hb] at this
    obtain rfl : b = ⟨mb.c, 0, none⟩ := by simpa using this
    exact (hm.did i (by omega)).olds j v hj
  have HO := Lib.hid holds
  have HA : Hid (A = none → st.cells.length = 0) := fun h => by rw [(hn h).2]; rfl
  clear hA hn holds
  go_enter Try.func24, Try.ntmps24
  go_wp2_with fail
  refine (looksome_ok mb st i n _ hm g1 (by omega)).mono ?_
  rintro e w' ⟨rfl, rfl⟩
  go_upto_region 10 with fail
  go_wp2_with (at_builtin; go_loud (refine wpList_append_zeros _ rfl (.tmp 48) (.tmp 49) 22 3 rfl 2 i0 .i64 .i64 Try.underlying22 Try.underlying3 hi hz0 hz1 hz2 A st.cells.length st.cells.length (ints st.cells) rfl (length_ints _) ?o1 HA.out n n rfl rfl g2 (by omega) (by omega) ?o2))
  case o1 => simpa [show i.toNat < st.steps.length by omega] using HO.out
  case o2 =>
    intro cap' W c1 c2 HW
    have hW := HW
    unfold Zeroed at hW
    have f0 : W.cell? ⟨mb.p, 0, none⟩ = some (.slice A st.cells.length cap) := by
      rw [hW, World.alloc_drew, World.cell?_drew, World.cell?_alloc_past _ _ _ (by simpa using l1), World.cell?_setCell_other _ _ _ _ (by intro hh; exact s2 (congrArg Addr.block hh))]
      exact h0
    have f1 : W.frozen? ⟨mb.p, 0, none⟩ = false := by
      rw [hW]
      simp [go_sem, l1, fp]
    have HH := Lib.hid hW
    clear hW HW HO HA
    go_wp2
    go_ret2
    have hi2 : i.toNat < st.steps.length := by omega
    refine ⟨rfl, ?_, w.heap.size, Nat.le_refl _, ?_⟩
    · rw [HH.out]
      exact ((kept_s mb w _ _).drew.alloc _).setCell (.inl (.inl rfl)) _
    · rw [HH.out, World.alloc_drew, World.setCell_drew]
      have hk := ((hm.did' i hi2).moved n cap' c1 c2).drew
      rw [World.size_setCell, MS.cells_did] at hk
      rw [length_ints]
      exact hk
theorem alloc_no (mb : MB) (st : MS) (i n : Int) (w : World) (hm : MachCP w mb st) (g : st.isCaller i = false ∨ n < 1) :
    Calls Try.prog 24 #[.pointer (some ⟨mb.p, 0, none⟩), .int .i64 i, .int .i64 n] w fun e w' =>
      e = .returned (.tuple #[.int .i64 0, .int .i64 10]) ∧ w = w' := by
  go_enter Try.func24, Try.ntmps24
  go_wp2_with (go_at_call 47; refine (looksome_no mb st i n _ hm g).mono ?_; rintro e w' ⟨rfl, rfl⟩)
  go_ret2
  exact ⟨rfl, rfl⟩
set_option maxRecDepth 20000 in
set_option maxHeartbeats 400000 in
theorem alloc_full (mb : MB) (st : MS) (i n : Int) (w : World) (hm : MachCP w mb st) (g1 : st.isCaller i = true) (g2 : 1 ≤ n) (g3 : st.size < st.cells.length + n) (g4 : 0 ≤ st.size) (g5 : st.size ≤ 1048576) :
    Calls Try.prog 24 #[.pointer (some ⟨mb.p, 0, none⟩), .int .i64 i, .int .i64 n] w fun e w' =>
      e = .returned (.tuple #[.int .i64 0, .int .i64 21]) ∧ w = w' := by
  obtain ⟨A, cap, sc, h0, h1, h2, hA, hl, hcap, hn⟩ := hm.fields
  have hcap2 : (cap : Int) ≤ 9223372036854775807 := by unfold maxLen at hcap; omega
  clear hA hn hcap
  go_enter Try.func24, Try.ntmps24
  go_wp2_with (go_at_call 47; refine (looksome_ok mb st i n _ hm g1 g2).mono ?_; rintro e w' ⟨rfl, rfl⟩)
  go_ret2
  exact ⟨rfl, rfl⟩

/-! ## Add -/
theorem add_deferred (mb : MB) (st : MS) (at_ by_ : Int) (bm ba bb : Nat) (u : FrameMode) (w : World) (hm : MachCP w mb st) (g2 : st.isGiven at_ = true)
    (c0 : w.cell? ⟨bm, 0, none⟩ = some (.pointer (some ⟨mb.p, 0, none⟩))) (c1 : w.cell? ⟨ba, 0, none⟩ = some (.int .i64 at_)) (c2 : w.cell? ⟨bb, 0, none⟩ = some (.int .i64 by_)) :
    CallsD Try.prog 49 #[.pointer (some ⟨bm, 0, none⟩), .pointer (some ⟨ba, 0, none⟩), .pointer (some ⟨bb, 0, none⟩)] u w fun e u' w' =>
      u' = u ∧ (e = .returned (.tuple #[]) ∧ (w.setCell ⟨mb.c, at_.toNat, none⟩ (.int .i64 (wrap64 (st.cellOf at_ + by_)))).drew = w') := by
  obtain ⟨A, cap, sc, h0, h1, h2, hA, hl, hcap, hn⟩ := hm.fields
  obtain ⟨b1, b2⟩ := MS.isGiven_lt g2
  have hne : st.cells ≠ [] := by intro h; rw [h] at b2; simp at b2; omega
  obtain rfl := hA hne
  have hc := hm.cellAt at_.toNat (by omega)
  rw [← MS.cellOf_of g2] at hc
  have fc := hm.frozenC at_.toNat
  clear hA hn hne
  go_enter_d Try.func49, Try.ntmps49
  go_region
  all_goals go_end0
  exact ⟨rfl, rfl⟩

/-- The three boxes of Add. -/
theorem MachC.boxed {w : World} {mb : MB} {st : MS} (h : MachCP w mb st) (a b c : Obj) : MachCP (((w.alloc a).alloc b).alloc c) mb st := ((h.alloc a).alloc b).alloc c
theorem boxes_at (w : World) (a b c : Value) (ta tb tc : TypeId) :
    Blk (((w.alloc (.cells #[a] ta)).alloc (.cells #[b] tb)).alloc (.cells #[c] tc)) w.heap.size ta [a] ∧ Blk (((w.alloc (.cells #[a] ta)).alloc (.cells #[b] tb)).alloc (.cells #[c] tc)) (w.heap.size + 1) tb [b] ∧
      Blk (((w.alloc (.cells #[a] ta)).alloc (.cells #[b] tb)).alloc (.cells #[c] tc)) (w.heap.size + 1 + 1) tc [c] := by
  have h1 := Blk.new w ta [a]
  have h2 := Blk.new (w.alloc (.cells #[a] ta)) tb [b]
  have h3 := Blk.new ((w.alloc (.cells #[a] ta)).alloc (.cells #[b] tb)) tc [c]
  rw [World.size_alloc] at h2
  rw [World.size_alloc, World.size_alloc] at h3
  exact ⟨(h1.alloc _).alloc _, h2.alloc _, h3⟩

set_option maxHeartbeats 800000 in
theorem add_ok (mb : MB) (st : MS) (i at_ by_ : Int) (w : World) (hm : MachCP w mb st) (g1 : st.isCaller i = true) (g2 : st.isGiven at_ = true) :
    Calls Try.prog 16 #[.pointer (some ⟨mb.p, 0, none⟩), .int .i64 i, .int .i64 at_, .int .i64 by_] w fun e w' =>
      e = .returned (.tuple #[.int .i64 (st.cellOf at_), .int .i64 0]) ∧ MachCP w' mb ((st.did i).putAt at_ (wrap64 (st.cellOf at_ + by_))) ∧ Kept mb.has w w' := by
  have hl1 : mb.p < w.heap.size := hm.lt _ (.inl rfl)
  have hl2 : mb.c < w.heap.size := hm.lt _ (.inr (.inl rfl))
  have hl3 : mb.s < w.heap.size := hm.lt _ (.inr (.inr rfl))
  have hmf : ∀ (fn : Fn) (first cap : Array Value) (w : World), (Instr.makeFunc fn first cap).run Try.prog w = .ok (.func fn first cap) w := fun _ _ _ _ => rfl
  go_enter_defers Try.func16, Try.ntmps16
  go_wp2_with fail
  refine (looks_ok mb st i at_ _ (hm.boxed _ _ _) g1 g2).mono ?_
  rintro e W ⟨rfl, hW⟩
  have hmW : MachCP W mb st := hW ▸ hm.boxed _ _ _
  have hkW : Kept mb.has w W := hW ▸ (((Kept.refl _ w).alloc _).alloc _).alloc _
  obtain ⟨q0, q1, q2⟩ := hW ▸ boxes_at w _ _ _ _ _ _
  obtain ⟨cap, sc, h0, h2, hs, hc, fs, fc, a1, a2, b1, b2, s1, s2, s3, s4, s5, s6, l1, l2, l3⟩ := hmW.opens g1 g2
  have k0 := q0.cell 0
  have k1 := q1.cell 0
  have k2 := q2.cell 0
  simp only [List.getElem?_cons_zero] at k0 k1 k2
  have n0 : ¬ mb.s = w.heap.size := by omega
  have n1 : ¬ mb.s = w.heap.size + 1 := by omega
  have n2 : ¬ mb.s = w.heap.size + 1 + 1 := by omega
  have HW := Lib.hid hW
  clear hW
  go_wp2_with fail
  go_quiet (fail)
  go_wp2_with fail
  have hm1 := hmW.did' i (by omega)
  have hk1 : Kept mb.has w _ := hkW.trans (kept_s mb W i.toNat (.int .i64 (wrap64 (st.steps[i.toNat]'(by omega) + 1)))) (fun _ _ h => h)
  have d0 := ((q0.setOther (p := ⟨mb.s, i.toNat, none⟩) (Ne.symm n0) (.int .i64 (wrap64 (st.steps[i.toNat]'(by omega) + 1)))).drewN nq).cell 0
  have d1 := ((q1.setOther (p := ⟨mb.s, i.toNat, none⟩) (Ne.symm n1) (.int .i64 (wrap64 (st.steps[i.toNat]'(by omega) + 1)))).drewN nq).cell 0
  have d2 := ((q2.setOther (p := ⟨mb.s, i.toNat, none⟩) (Ne.symm n2) (.int .i64 (wrap64 (st.steps[i.toNat]'(by omega) + 1)))).drewN nq).cell 0
  refine leaves_cons (f := 49) (args := #[.pointer (some ⟨w.heap.size, 0, none⟩), .pointer (some ⟨w.heap.size + 1, 0, none⟩), .pointer (some ⟨w.heap.size + 1 + 1, 0, none⟩)]) (by simp) (by simp [go_sem]) ?_
  refine (add_deferred mb (st.did i) at_ by_ _ _ _ .returning _ (hm1.drewN nq) g2 d0 d1 d2).mono ?_
  rintro e u' w'' ⟨rfl, rfl, rfl⟩
  have hv := cell_val (st := st) (i := at_) (by omega) b1
  refine ⟨_, results_tmp2 (t := 8) (u := 9) rfl _ _ _, ret_tup (int_eq hv) rfl, ?_, ?_⟩
  · exact ((hm1.drewN nq).put at_.toNat (by rw [MS.cells_did]; omega) _).drew
  · exact (kept_c (hk1.drewN nq) _ _).drew
theorem add_no (mb : MB) (st : MS) (i at_ by_ : Int) (w : World) (hm : MachCP w mb st) (g : st.isCaller i = false ∨ st.isGiven at_ = false) :
    Calls Try.prog 16 #[.pointer (some ⟨mb.p, 0, none⟩), .int .i64 i, .int .i64 at_, .int .i64 by_] w fun e w' =>
      e = .returned (.tuple #[.int .i64 0, .int .i64 10]) ∧ MachCP w' mb st ∧ Kept mb.has w w' := by
  go_enter_defers Try.func16, Try.ntmps16
  go_wp2_with fail
  refine (looks_no mb st i at_ _ (hm.boxed _ _ _) g).mono ?_
  rintro e W ⟨rfl, hW⟩
  have hmW : MachCP W mb st := hW ▸ hm.boxed _ _ _
  have hkW : Kept mb.has w W := hW ▸ (((Kept.refl _ w).alloc _).alloc _).alloc _
  have HW := Lib.hid hW
  clear hW
  go_wp2_with fail
  exact ⟨_, results_tmp2 (t := 8) (u := 9) rfl _ _ _, rfl, hmW, hkW⟩
end Go.Proofs.Ytelphbfdibfmoaa
