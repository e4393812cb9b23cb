/-
  WHAT IS PROVED HERE: small facts for EventWakes' walk: which of the six a pick falls on; the cells of the arrays; the sum of the writers' places.
-/
import Derived.Test.YtelphbfdibfmoaaWakesB
namespace Go.Proofs.Ytelphbfdibfmoaa
open Go.RowKit

theorem pick_six (v : Int) : ∃ r : Nat, r < 6 ∧ (wrap64 (v.tmod 6 + 6)).tmod 6 = (r : Int) := by
  have h1 := Int.tmod_lt_of_pos v (show (0 : Int) < 6 by omega)
  have h2 := Int.lt_tmod_of_pos v (show (0 : Int) < 6 by omega)
  have e : wrap64 (v.tmod 6 + 6) = v.tmod 6 + 6 := by unfold wrap64; omega
  rw [e]
  obtain ⟨u, hu⟩ := Int.eq_ofNat_of_zero_le (show 0 ≤ v.tmod 6 + 6 by omega)
  rw [hu]
  exact ⟨u % 6, Nat.mod_lt _ (by omega), rfl⟩
theorem set_self (l : List Int) (j : Nat) : l.set j (l.getD j 0) = l := by
  apply List.ext_getElem?
  intro i
  by_cases e : j = i
  · subst e
    by_cases h : j < l.length
    · simp [h, List.getD]
    · simp [h]
  · simp [e]
theorem upd_self (f : Nat → Int) (j : Nat) : upd f j (f j) = f := by
  funext i
  by_cases e : i = j
  · subst e; simp [upd]
  · simp [upd, e]

section
variable {W0 w : World} {mb : MB} {vb nb sb wb : Nat} {l : List Nat} {q : WS}
theorem ints_cell {w : World} {g : Nat} {t : TypeId} {xs : List Int} (h : Blk w g t (ints xs)) {j : Nat} (hj : j < xs.length) {x : Int} (hx : xs.getD j 0 = x) : w.cell? ⟨g, j, none⟩ = some (.int .i64 x) := by
  rw [h.cell, get_ints, ← hx]; simp [List.getD, hj]
theorem WkW.wcell (h : WkW W0 w mb vb nb sb wb l q) (g : WkG W0 mb vb nb sb wb l) {j : Nat} (hj : j < 6) : w.cell? ⟨wb, j, none⟩ = some (.pointer (some ⟨l.getD j 0, 0, none⟩)) := by
  have hl := g.len
  rw [h.wp.cell]; simp [List.getD, ptrv, show j < l.length by omega]
theorem WkW.drew (h : WkW W0 w mb vb nb sb wb l q) : WkW W0 w.drew mb vb nb sb wb l q := h.below (below_drewN' (Below.refl _ w) 1)
end

/-- The sum of the first j places. -/
def nsum (l : List Int) : Nat → Int
  | 0 => 0
  | j + 1 => nsum l j + l.getD j 0
theorem nsum_range {q : WS} {k : Nat} (h : WOk q k) : ∀ j, j ≤ 3 → 0 ≤ nsum q.nx j ∧ nsum q.nx j ≤ j
  | 0, _ => by simp [nsum]
  | j + 1, hj => by
    have := nsum_range h j (by omega)
    have := h.wr j (by omega)
    simp only [nsum]
    omega
theorem WS.d_sum (q : WS) : q.c - nsum q.nx 3 = q.d := by simp [nsum, WS.d]
end Go.Proofs.Ytelphbfdibfmoaa
