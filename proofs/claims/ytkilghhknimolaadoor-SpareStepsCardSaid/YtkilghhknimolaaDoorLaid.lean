/-
  WHAT IS PROVED HERE: the row's condition on the table math/bits.deBruijn64tab gives what the walks ask ('Tab'); the door's own heap meets it. Conditions: the row's.
-/
import Derived.Test.YtkilghhknimolaaDoorRows
import Derived.Test.YtkilghhknimolaaDoorIdleA
import Derived.ProofKit
import Derived.LaidMore
import Derived.OpenShut
import Derived.Stop.Joined
namespace Go.Proofs.YtkilghhknimolaaDoor
open Go.ChangeShapes Go.WideShapes Go.ChangeAt Go.RowKit

def laidL : List (String × DataW Unit) := [("math/bits.deBruijn64tab", Rows.laid_math_bits_deBruijn64tab)]
theorem gTab : Tryd.prog.globalNamed "math/bits.deBruijn64tab" = some 0 := by kernel_rfl
theorem tTab : (Tryd.prog.globals[0]?).map (·.type) = some 98 := by kernel_rfl
theorem door_met (os : Os) (args : Array Value) : laidMetH Tryd.prog laidL ((World.doorLaid Tryd.prog 14 os).forCall (fun _ _ => 0) ⟨#[], args, []⟩).memory :=
  laidMetH_of_parts3 (fuel := 8) (laidMet_of_run' 8 (by kernel_rfl) (by kernel_rfl)) (by kernel_rfl) (by kernel_rfl)
theorem tab_of_laid {W : World} (h : laidMetH Tryd.prog laidL W) : Tab W := by
  rw [MakeChecks.laidMetH_plain _ _ _ (by kernel_rfl)] at h
  obtain ⟨ps, ⟨g0, t0, cs0, f0, p0, q0, hg0, ht0, hv0, hd0, _, _⟩, _, _⟩ := h
  obtain rfl := Option.some.inj (gTab.symm.trans hg0)
  obtain rfl := Option.some.inj (tTab.symm.trans ht0)
  obtain ⟨xs, m1, rfl, hx1, hlen, hn3, hel⟩ := DataW.trod_array Tryd.underlying98 hd0
  have c5 : Tryd.prog.cellsOf 5 = 1 := by kernel_rfl
  have e : (Rows.laid_math_bits_deBruijn64tab : DataW Unit) = DataW.agg (Lib.deBruijn64tab.map fun (n : Nat) => DataW.lit (.int .u8 (n : Int))) := rfl
  have hd := (Prod.mk.injEq _ _ _ _ ▸ hx1).1
  rw [e] at hd
  injection hd with hd
  have hcell : ∀ j, j < Lib.deBruijn64tab.length → W.cell? ⟨0, j, none⟩ = some (.int .u8 (Lib.deBruijn64tab.getD j 0)) := by
    intro j hj
    have hj64 : j < 64 := hj
    obtain ⟨x, hx⟩ : ∃ x, xs[j]? = some x := ⟨xs[j]'(by omega), by simp [hn3, hj64]⟩
    have h := hel j hj64
    rw [c5, Nat.mul_one, hx] at h
    obtain ⟨k, e1, e2, _⟩ := DataW.trod_int Tryd.underlying5 h
    have hv := World.var?_cell hg0 hv0 j
    have hxk : (xs.map fun x => x.fst)[j]? = some x.fst := by rw [List.getElem?_map, hx]; rfl
    rw [← hd, List.getElem?_map] at hxk
    have hkk : Lib.deBruijn64tab[j]? = some (Lib.deBruijn64tab.getD j 0) := by
      rw [List.getD_eq_getElem?_getD, List.getElem?_eq_getElem hj]; rfl
    rw [hkk] at hxk
    rw [e2] at hxk
    simp only [Option.map_some, Option.some.injEq, DataW.lit.injEq, Lit.int.injEq, true_and] at hxk
    rw [hv, hxk]
    have h0 := congrArg (fun l => l[0]?) e1
    simp at h0
    exact h0
  exact ⟨hcell, World.block_lt_of_cell? W _ (hcell 0 (by decide))⟩
end Go.Proofs.YtkilghhknimolaaDoor
