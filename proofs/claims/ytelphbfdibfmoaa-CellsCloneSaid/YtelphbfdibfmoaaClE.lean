/-
  WHAT IS PROVED HERE: plain laws of a machine's state, and the contracts of Load and Add with the value named. Conditions: as in the contracts.
-/
import Derived.Test.YtelphbfdibfmoaaClD
import Derived.Deep.QuietTactic
import Derived.BigQuiet
namespace Go.Proofs.Ytelphbfdibfmoaa
open Go.RowKit

/-- A block that lies below B stays over what only turns blocks from B on. -/
theorem Blk.under {w w' : World} {g : Nat} {t : TypeId} {cs : List Value} {B : Nat} (h : Blk w g t cs) (hk : Below B w w') (hn : g < B) : Blk w' g t cs := h.below hk hn

theorem arr2 {zs : List Int} (h : zs.length = 2) : ∃ a b, zs = [a, b] := by
  match zs, h with
  | [a, b], _ => exact ⟨a, b, rfl⟩

theorem isCaller_did (st : MS) (j i : Int) : (st.did j).isCaller i = st.isCaller i := by simp [MS.isCaller, MS.did]
theorem isCaller_put (st : MS) (j x i : Int) : (st.putAt j x).isCaller i = st.isCaller i := rfl
theorem isGiven_did (st : MS) (j i : Int) : (st.did j).isGiven i = st.isGiven i := rfl
theorem isGiven_put (st : MS) (j x i : Int) : (st.putAt j x).isGiven i = st.isGiven i := by simp [MS.isGiven, MS.putAt]
theorem cellOf_put_same (st : MS) (j x : Int) (h : st.isGiven j = true) : (st.putAt j x).cellOf j = x := by
  obtain ⟨h0, h1⟩ := MS.isGiven_lt h
  unfold MS.cellOf
  rw [if_pos ⟨h0, by simpa [MS.putAt] using h1⟩]
  simp [MS.putAt, show j.toNat < st.cells.length by omega]
theorem cellOf_put_other (st : MS) (j x i : Int) (h : i ≠ j) (h0 : st.isGiven j = true) : (st.putAt j x).cellOf i = st.cellOf i := by
  obtain ⟨h0, h1⟩ := MS.isGiven_lt h0
  unfold MS.cellOf
  by_cases hi : 0 ≤ i ∧ i < st.cells.length
  · rw [if_pos (by simpa [MS.putAt] using hi), if_pos hi]
    simp [MS.putAt, show ¬ j.toNat = i.toNat by omega]
  · rw [if_neg (by simpa [MS.putAt] using hi), if_neg hi]
theorem load_v (mb : MB) (st : MS) (i at_ v : Int) (w : World) (hm : MachCP w mb st) (g1 : st.isCaller i = true) (g2 : st.isGiven at_ = true) (hv : st.cellOf at_ = v) :
    Calls Try.prog 18 #[.pointer (some ⟨mb.p, 0, none⟩), .int .i64 i, .int .i64 at_] w fun e w' =>
      e = .returned (.tuple #[.int .i64 v, .int .i64 0]) ∧ MachCP w' mb (st.did i) ∧ Kept mb.has w w' := by
  subst hv
  exact load_ok mb st i at_ w hm g1 g2
theorem add_v (mb : MB) (st : MS) (i at_ by_ v : Int) (w : World) (hm : MachCP w mb st) (g1 : st.isCaller i = true) (g2 : st.isGiven at_ = true) (hv : st.cellOf at_ = v) :
    Calls Try.prog 16 #[.pointer (some ⟨mb.p, 0, none⟩), .int .i64 i, .int .i64 at_, .int .i64 by_] w fun e w' =>
      e = .returned (.tuple #[.int .i64 v, .int .i64 0]) ∧ MachCP w' mb ((st.did i).putAt at_ (wrap64 (v + by_))) ∧ Kept mb.has w w' := by
  subst hv
  exact add_ok mb st i at_ by_ w hm g1 g2
theorem peek_quiet (mb : MB) (st : MS) (i v : Int) (w : World) (n : Nat) (hm : MachCP w mb st) (hv : st.cellOf i = v) :
    Calls Try.prog 17 #[.pointer (some ⟨mb.p, 0, none⟩), .int .i64 i] (w.drewN n) fun e w' => e = .returned (.int .i64 v) ∧ ∃ m, w' = w.drewN m := by
  subst hv
  exact Calls.quiet_of_same ((peek_any mb st i _ (hm.drewN n)).mono fun _ _ h => ⟨h.1, h.2.symm⟩)
theorem steps_quiet (mb : MB) (st : MS) (i v : Int) (w : World) (n : Nat) (hm : MachCP w mb st) (hv : st.stepsOf i = v) :
    Calls Try.prog 23 #[.pointer (some ⟨mb.p, 0, none⟩), .int .i64 i] (w.drewN n) fun e w' => e = .returned (.int .i64 v) ∧ ∃ m, w' = w.drewN m := by
  subst hv
  exact Calls.quiet_of_same ((steps_any mb st i _ (hm.drewN n)).mono fun _ _ h => ⟨h.1, h.2.symm⟩)
theorem alloc_okI (mb : MB) (st : MS) (i n : Int) (w : World) (hm : MachCP w mb st) (g1 : st.isCaller i = true) (g2 : 1 ≤ n) (g3 : (st.cells.length : Int) + n ≤ st.size) (g4 : st.size ≤ 1048576) :
    Calls Try.prog 24 #[.pointer (some ⟨mb.p, 0, none⟩), .int .i64 i, .int .i64 n] w fun e w' =>
      e = .returned (.tuple #[.int .i64 st.cells.length, .int .i64 0]) ∧ Kept mb.has w w' ∧ ∃ c, w.heap.size ≤ c ∧ MachCP w' ⟨mb.p, c, mb.s⟩ ((st.did i).more n.toNat) := by
  obtain ⟨k, rfl⟩ := Int.eq_ofNat_of_zero_le (show 0 ≤ n by omega)
  rw [Int.toNat_natCast]
  exact alloc_ok mb st i k w hm g1 (by omega) g3 g4

/-- A machine's blocks all lie from B on. -/
def MB.from_ (mb : MB) (B : Nat) : Prop := B ≤ mb.p ∧ B ≤ mb.c ∧ B ≤ mb.s
theorem MB.from_has {mb : MB} {B : Nat} (h : mb.from_ B) : ∀ k, mb.has k → B ≤ k := by
  obtain ⟨h1, h2, h3⟩ := h
  rintro k (rfl | rfl | rfl) <;> assumption
theorem Kept.under {mb : MB} {B : Nat} {a w : World} (h : Kept mb.has a w) (hf : mb.from_ B) (hB : B ≤ a.heap.size) : Below B a w := h.below hB (MB.from_has hf)

theorem below_drewN' {B : Nat} {a w : World} (h : Below B a w) (n : Nat) : Below B a (w.drewN n) := ⟨h.os, h.tape, h.output, h.size, h.block⟩
end Go.Proofs.Ytelphbfdibfmoaa
