/-
  WHAT IS PROVED HERE: what pelotonlaw16.KinOrders keeps in memory: the tree, the order, an array of places ('OrdW'); make([]int, n). Conditions: none.
-/
import Derived.Test.YtogobpnbkmdnfaaKinS
import Derived.Test.YtogobpnbkmdnfaaKinT
import Derived.Deep.CutBlock
namespace Go.Proofs.Ytogobpnbkmdnfaa
open Go.RowKit

theorem GrW.kept {w0 w w' : World} {p : Nat} {own : Nat → Prop} {A : Option Addr} {c : Nat} {l : List Int} {S : Nat → Prop} (h : GrW w0 w p own A c l) (hk : Kept S w w') (h1 : ∀ k, own k → ¬ S k) (h2 : ∀ k, A = some ⟨k, 0, none⟩ → ¬ S k) (h3 : ∀ k, S k → w0.heap.size ≤ k) : GrW w0 w' p own A c l :=
  ⟨h.t.kept hk h1, h.ls.kept hk h2, h.far, h.off, h.bel.trans (hk.below h.bel.size h3)⟩
theorem wrap_small {v : Int} (h : -1000000 ≤ v ∧ v ≤ 1000000) : wrap64 v = v := by unfold wrap64; omega
theorem kzeros_made (n : Nat) : madeCells (Value.cells (.int .i64 0)) (n * 1) = (ints (List.replicate n 0)).toArray := by
  rw [Nat.mul_one]
  apply Array.ext'
  simp [madeCells, ints, Value.cells]
  induction n with
  | zero => rfl
  | succ n ih => rw [List.range_succ, List.map_append, ih, List.replicate_succ']; simp [Nat.mod_one]
/-- 'make([]int, n)'. -/
theorem kmake_ints (n : Nat) (h1 : n ≤ 1000000) (w : World) :
    (Instr.makeSlice 22 (.int .i64 (n : Int)) (.int .i64 (n : Int))).run Try.prog w = .ok (.slice (some ⟨w.heap.size, 0, none⟩) n n) (w.alloc (.cells (ints (List.replicate n 0)).toArray 3)) := by
  obtain ⟨i0, hi, hz0, hz1, hz2⟩ := info_int
  rw [run_make (P := Try.prog) w 22 3 i0 (.int .i64 0) Try.underlying22 hi hz0 .i64 .i64 n n (by omega) (Int.le_refl _) (by rw [hz2]; omega) (by omega), hz1, Int.toNat_natCast, kzeros_made]

structure OrdW (w0 w : World) (p : Nat) (own : Nat → Prop) (A : Option Addr) (c : Nat) (l : List Int) (gO cO gA N : Nat) (xs : List Int) : Prop where
  g : GrW w0 w p own A c l
  o : Rw w gO cO 3 (ints (nI (allN l)))
  a : Rw w gA N 3 (ints xs)
  nT : ¬ own gA
  nA : A ≠ some ⟨gA, 0, none⟩
  nO : gO ≠ gA
  far : w0.heap.size ≤ gA
section
variable {w0 w w' : World} {p : Nat} {own : Nat → Prop} {A : Option Addr} {c : Nat} {l : List Int} {gO cO gA N : Nat} {xs : List Int}
theorem OrdW.below (h : OrdW w0 w p own A c l gO cO gA N xs) (hb : Below w.heap.size w w') : OrdW w0 w' p own A c l gO cO gA N xs :=
  ⟨h.g.below hb, h.o.below hb h.o.lt, h.a.below hb h.a.lt, h.nT, h.nA, h.nO, h.far⟩
theorem OrdW.set (h : OrdW w0 w p own A c l gO cO gA N xs) {j : Nat} (hj : j < xs.length) (v : Int) : OrdW w0 (w.setCell ⟨gA, j, none⟩ (.int .i64 v)) p own A c l gO cO gA N (xs.set j v) := by
  have hk : Kept (fun k => k = gA) w (w.setCell ⟨gA, j, none⟩ (.int .i64 v)) := (Kept.refl (fun k => k = gA) w).setCell (p := ⟨gA, j, none⟩) (.inl rfl) _
  refine ⟨h.g.kept hk (fun k ho e => h.nT (e ▸ ho)) (fun k e e2 => h.nA (e2 ▸ e)) (fun k e => e ▸ h.far), h.o.kept hk h.nO, ?_, h.nT, h.nA, h.nO, h.far⟩
  have := h.a.set j (by rw [length_ints]; exact hj) (.int .i64 v)
  rwa [set_ints] at this
theorem OrdW.cellA (h : OrdW w0 w p own A c l gO cO gA N xs) {j : Nat} {x : Int} (hj : xs[j]? = some x) : w.cell? ⟨gA, j, none⟩ = some (.int .i64 x) := h.a.cell (by rw [get_ints, hj]; rfl)
theorem OrdW.cellO (h : OrdW w0 w p own A c l gO cO gA N xs) {j x : Nat} (hj : (allN l)[j]? = some x) : w.cell? ⟨gO, j, none⟩ = some (.int .i64 (x : Int)) := h.o.cell (by rw [get_ints, get_nI, hj]; rfl)
end
theorem allN_root {l : List Int} (h0 : 0 < l.length) : allN l = ordN l 0 := by
  unfold allN
  rw [if_neg (by intro e; rw [e] at h0; simp at h0)]
/-- What is told at a place of the order. -/
theorem allN_at {l : List Int} (hw : WfP l) {k : Nat} (hk : k < l.length) : ∃ y, (allN l)[k]? = some y ∧ y < l.length ∧ (ordN l 0)[k]? = some y := by
  have h0 : 0 < l.length := by omega
  have hl := allN_length hw
  obtain ⟨y, hy⟩ : ∃ y, (allN l)[k]? = some y := ⟨(allN l)[k]'(by omega), by simp [hl, hk]⟩
  have hy2 := hy
  rw [allN_root h0] at hy2
  exact ⟨y, hy, ((ordN_root hw h0).2 y).1 (List.mem_of_getElem? hy2), hy2⟩
theorem descI_nat {l : List Int} {x o : Nat} (hx : x < l.length) (ho : o < l.length) : descI l x o = desc l x o := by unfold descI; rw [inK_nat hx, inK_nat ho]; simp
theorem kidI_nat {l : List Int} {x : Nat} (hx : x < l.length) : kidI l x = nI (kN l x) := by unfold kidI; rw [inK_nat hx]; rfl
theorem parI_nat {l : List Int} {x : Nat} (hx : x < l.length) : parI l x = parN l x := by unfold parI; rw [inK_nat hx]; rfl
end Go.Proofs.Ytogobpnbkmdnfaa
