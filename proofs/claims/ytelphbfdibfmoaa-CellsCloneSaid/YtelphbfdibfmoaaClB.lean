/-
  WHAT IS PROVED HERE: contracts of a machine's operations Load, Store, CAS, Add: those that are done, and those that are refused. Conditions: the pointer is a machine's ('MachC').
-/
import Derived.Test.YtelphbfdibfmoaaClA
import Derived.Defers
import Derived.Recover
namespace Go.Proofs.Ytelphbfdibfmoaa
open Go.RowKit

/-- An operation of caller i was done. -/
def MS.did (st : MS) (i : Int) : MS := { st with steps := st.steps.set i.toNat (wrap64 (st.steps[i.toNat]?.getD 0 + 1)) }
def MS.putAt (st : MS) (i : Int) (x : Int) : MS := { st with cells := st.cells.set i.toNat x }
theorem MS.isCaller_lt {st : MS} {i : Int} (h : st.isCaller i = true) : 0 ≤ i ∧ i < st.steps.length := by simpa [MS.isCaller] using h
theorem MS.isGiven_lt {st : MS} {i : Int} (h : st.isGiven i = true) : 0 ≤ i ∧ i < st.cells.length := by simpa [MS.isGiven] using h
theorem MS.cellOf_of {st : MS} {i : Int} (h : st.isGiven i = true) : st.cellOf i = st.cells[i.toNat]?.getD 0 := by unfold MS.cellOf; rw [if_pos (MS.isGiven_lt h)]

theorem MachC.did {tM tX tI : TypeId} {w : World} {mb : MB} {st : MS} (h : MachC tM tX tI w mb st) (i : Int) (hi : i.toNat < st.steps.length) :
    MachC tM tX tI (w.setCell ⟨mb.s, i.toNat, none⟩ (.int .i64 (wrap64 (st.steps[i.toNat]?.getD 0 + 1)))) mb (st.did i) := h.step _ hi _

theorem MachC.sep {tM tX tI : TypeId} {w : World} {mb : MB} {st : MS} (h : MachC tM tX tI w mb st) (hne : st.cells ≠ []) :
    ¬ mb.p = mb.s ∧ ¬ mb.s = mb.p ∧ ¬ mb.p = mb.c ∧ ¬ mb.c = mb.p ∧ ¬ mb.s = mb.c ∧ ¬ mb.c = mb.s := by
  rcases h.cells with ⟨n, sc, h0, hp, hn', hc⟩ | ⟨cap, rest, n, sc, cp, cs, hp, hc, h1, h2, h5⟩
  · exact absurd h0 hne
  · exact ⟨h.ps, Ne.symm h.ps, cp, Ne.symm cp, cs, Ne.symm cs⟩

/-- What an operation on a cell that is given away wants. -/
theorem MachC.opens {w : World} {mb : MB} {st : MS} {i at_ : Int} (hm : MachCP w mb st) (g1 : st.isCaller i = true) (g2 : st.isGiven at_ = true) :
    ∃ cap sc, w.cell? ⟨mb.p, 0, none⟩ = some (.slice (some ⟨mb.c, 0, none⟩) st.cells.length cap) ∧ w.cell? ⟨mb.p, 2, none⟩ = some (.slice (some ⟨mb.s, 0, none⟩) st.steps.length sc) ∧
      w.cell? ⟨mb.s, i.toNat, none⟩ = some (.int .i64 (st.steps[i.toNat]?.getD 0)) ∧ w.cell? ⟨mb.c, at_.toNat, none⟩ = some (.int .i64 (st.cells[at_.toNat]?.getD 0)) ∧
      w.frozen? ⟨mb.s, i.toNat, none⟩ = false ∧ w.frozen? ⟨mb.c, at_.toNat, none⟩ = false ∧ 0 ≤ i ∧ i < st.steps.length ∧ 0 ≤ at_ ∧ at_ < st.cells.length ∧ ¬ mb.p = mb.s ∧ ¬ mb.s = mb.p ∧ ¬ mb.p = mb.c ∧ ¬ mb.c = mb.p ∧ ¬ mb.s = mb.c ∧ ¬ mb.c = mb.s ∧
      mb.p < w.heap.size ∧ mb.c < w.heap.size ∧ mb.s < w.heap.size := by
  obtain ⟨A, cap, sc, h0, h1, h2, hA, hl, hcap, hn⟩ := hm.fields
  obtain ⟨a1, a2⟩ := MS.isCaller_lt g1
  obtain ⟨b1, b2⟩ := MS.isGiven_lt g2
  have hne : st.cells ≠ [] := by intro h; rw [h] at b2; simp at b2; omega
  obtain rfl := hA hne
  obtain ⟨s1, s2, s3, s4, s5, s6⟩ := hm.sep hne
  exact ⟨cap, sc, h0, h2, hm.stepAt i.toNat (by omega), hm.cellAt at_.toNat (by omega), hm.frozenS _, hm.frozenC _, a1, a2, b1, b2, s1, s2, s3, s4, s5, s6, hm.lt _ (.inl rfl), hm.lt _ (.inr (.inl rfl)), hm.lt _ (.inr (.inr rfl))⟩

theorem cell_val {st : MS} {i : Int} (hi : i.toNat < st.cells.length) (h0 : 0 ≤ i) : st.cells[i.toNat]'hi = st.cellOf i := by
  unfold MS.cellOf; rw [if_pos ⟨h0, by omega⟩]; simp [hi]
theorem kept_s (mb : MB) (w : World) (i : Nat) (v : Value) : Kept mb.has w (w.setCell ⟨mb.s, i, none⟩ v) := (Kept.refl _ w).setCell (.inl (.inr (.inr rfl))) v
theorem kept_c {mb : MB} {w w' : World} (h : Kept mb.has w w') (i : Nat) (v : Value) : Kept mb.has w (w'.setCell ⟨mb.c, i, none⟩ v) := h.setCell (.inl (.inr (.inl rfl))) v
theorem ret_tup {x y : Value} {x' y' : Value} (h : x = x') (h' : y = y') : Ending.returned (.tuple #[x, y]) = .returned (.tuple #[x', y']) := by rw [h, h']
theorem int_eq {k : IntKind} {a b : Int} (h : a = b) : Value.int k a = Value.int k b := by rw [h]
theorem MachC.did' {w : World} {mb : MB} {st : MS} (h : MachCP w mb st) (i : Int) (hi : i.toNat < st.steps.length) :
    MachCP (w.setCell ⟨mb.s, i.toNat, none⟩ (.int .i64 (wrap64 (st.steps[i.toNat]'hi + 1)))) mb (st.did i) := by
  have := h.did i hi
  rwa [show st.steps[i.toNat]?.getD 0 = st.steps[i.toNat]'hi by simp [hi]] at this
theorem MS.cells_did (st : MS) (i : Int) : (st.did i).cells = st.cells := rfl
theorem MS.cellOf_did (st : MS) (i j : Int) : (st.did i).cellOf j = st.cellOf j := rfl

set_option maxHeartbeats 400000 in
theorem load_ok (mb : MB) (st : MS) (i at_ : Int) (w : World) (hm : MachCP w mb st) (g1 : st.isCaller i = true) (g2 : st.isGiven at_ = true) :
    Calls Try.prog 18 #[.pointer (some ⟨mb.p, 0, none⟩), .int .i64 i, .int .i64 at_] w fun e w' =>
      e = .returned (.tuple #[.int .i64 (st.cellOf at_), .int .i64 0]) ∧ MachCP w' mb (st.did i) ∧ Kept mb.has w w' := by
  obtain ⟨cap, sc, h0, h2, hs, hc, fs, fc, a1, a2, b1, b2, s1, s2, s3, s4, s5, s6, l1, l2, l3⟩ := hm.opens g1 g2
  go_enter Try.func18, Try.ntmps18
  go_wp2_with (go_at_call 47; refine (looks_ok mb st i at_ _ hm g1 g2).mono ?_; rintro e w' ⟨rfl, rfl⟩)
  go_ret2
  exact ⟨ret_tup (int_eq (cell_val (by omega) b1)) rfl, hm.did' i (by omega), kept_s _ _ _ _⟩

theorem load_no (mb : MB) (st : MS) (i at_ : Int) (w : World) (hm : MachCP w mb st) (g : st.isCaller i = false ∨ st.isGiven at_ = false) :
    Calls Try.prog 18 #[.pointer (some ⟨mb.p, 0, none⟩), .int .i64 i, .int .i64 at_] w fun e w' =>
      e = .returned (.tuple #[.int .i64 0, .int .i64 10]) ∧ w = w' := by
  go_enter Try.func18, Try.ntmps18
  go_wp2_with (go_at_call 47; refine (looks_no mb st i at_ _ hm g).mono ?_; rintro e w' ⟨rfl, rfl⟩)
  go_ret2
  exact ⟨rfl, rfl⟩

set_option maxHeartbeats 400000 in
theorem store_ok (mb : MB) (st : MS) (i at_ x : Int) (w : World) (hm : MachCP w mb st) (g1 : st.isCaller i = true) (g2 : st.isGiven at_ = true) :
    Calls Try.prog 19 #[.pointer (some ⟨mb.p, 0, none⟩), .int .i64 i, .int .i64 at_, .int .i64 x] w fun e w' =>
      e = .returned (.int .i64 0) ∧ MachCP w' mb ((st.did i).putAt at_ x) ∧ Kept mb.has w w' := by
  obtain ⟨cap, sc, h0, h2, hs, hc, fs, fc, a1, a2, b1, b2, s1, s2, s3, s4, s5, s6, l1, l2, l3⟩ := hm.opens g1 g2
  go_enter Try.func19, Try.ntmps19
  go_wp2_with (go_at_call 47; refine (looks_ok mb st i at_ _ hm g1 g2).mono ?_; rintro e w' ⟨rfl, rfl⟩)
  go_ret
  exact ⟨rfl, (hm.did' i (by omega)).put _ (by rw [MS.cells_did]; omega) _, kept_c (kept_s _ _ _ _) _ _⟩

theorem store_no (mb : MB) (st : MS) (i at_ x : Int) (w : World) (hm : MachCP w mb st) (g : st.isCaller i = false ∨ st.isGiven at_ = false) :
    Calls Try.prog 19 #[.pointer (some ⟨mb.p, 0, none⟩), .int .i64 i, .int .i64 at_, .int .i64 x] w fun e w' =>
      e = .returned (.int .i64 10) ∧ w = w' := by
  go_enter Try.func19, Try.ntmps19
  go_wp2_with (go_at_call 47; refine (looks_no mb st i at_ _ hm g).mono ?_; rintro e w' ⟨rfl, rfl⟩)
  go_ret
  exact ⟨rfl, rfl⟩

set_option maxHeartbeats 400000 in
theorem cas_hit (mb : MB) (st : MS) (i at_ old x : Int) (w : World) (hm : MachCP w mb st) (g1 : st.isCaller i = true) (g2 : st.isGiven at_ = true) (hold : st.cellOf at_ = old) :
    Calls Try.prog 26 #[.pointer (some ⟨mb.p, 0, none⟩), .int .i64 i, .int .i64 at_, .int .i64 old, .int .i64 x] w fun e w' =>
      e = .returned (.tuple #[.bool true, .int .i64 0]) ∧ MachCP w' mb ((st.did i).putAt at_ x) ∧ Kept mb.has w w' := by
  obtain ⟨cap, sc, h0, h2, hs, hc, fs, fc, a1, a2, b1, b2, s1, s2, s3, s4, s5, s6, l1, l2, l3⟩ := hm.opens g1 g2
  rw [← MS.cellOf_of g2, hold] at hc
  clear hold
  go_enter Try.func26, Try.ntmps26
  go_wp2_with (go_at_call 47; refine (looks_ok mb st i at_ _ hm g1 g2).mono ?_; rintro e w' ⟨rfl, rfl⟩)
  go_ret2
  exact ⟨rfl, (hm.did' i (by omega)).put _ (by rw [MS.cells_did]; omega) _, kept_c (kept_s _ _ _ _) _ _⟩

set_option maxHeartbeats 400000 in
theorem cas_miss (mb : MB) (st : MS) (i at_ old x : Int) (w : World) (hm : MachCP w mb st) (g1 : st.isCaller i = true) (g2 : st.isGiven at_ = true) (hold : ¬ st.cellOf at_ = old) :
    Calls Try.prog 26 #[.pointer (some ⟨mb.p, 0, none⟩), .int .i64 i, .int .i64 at_, .int .i64 old, .int .i64 x] w fun e w' =>
      e = .returned (.tuple #[.bool false, .int .i64 0]) ∧ MachCP w' mb (st.did i) ∧ Kept mb.has w w' := by
  obtain ⟨cap, sc, h0, h2, hs, hc, fs, fc, a1, a2, b1, b2, s1, s2, s3, s4, s5, s6, l1, l2, l3⟩ := hm.opens g1 g2
  rw [← MS.cellOf_of g2] at hc
  have hne : (st.cellOf at_ == old) = false := by simpa using hold
  have hne' : (st.cellOf at_ != old) = true := by simpa using hold
  clear hold
  go_enter Try.func26, Try.ntmps26
  go_wp2_with (go_at_call 47; refine (looks_ok mb st i at_ _ hm g1 g2).mono ?_; rintro e w' ⟨rfl, rfl⟩)
  go_ret2
  exact ⟨rfl, hm.did' i (by omega), kept_s _ _ _ _⟩

theorem cas_no (mb : MB) (st : MS) (i at_ old x : Int) (w : World) (hm : MachCP w mb st) (g : st.isCaller i = false ∨ st.isGiven at_ = false) :
    Calls Try.prog 26 #[.pointer (some ⟨mb.p, 0, none⟩), .int .i64 i, .int .i64 at_, .int .i64 old, .int .i64 x] w fun e w' =>
      e = .returned (.tuple #[.bool false, .int .i64 10]) ∧ w = w' := by
  go_enter Try.func26, Try.ntmps26
  go_wp2_with (go_at_call 47; refine (looks_no mb st i at_ _ hm g).mono ?_; rintro e w' ⟨rfl, rfl⟩)
  go_ret2
  exact ⟨rfl, rfl⟩
end Go.Proofs.Ytelphbfdibfmoaa
