/-
  WHAT IS PROVED HERE: plain laws, over any program, of a region that draws its order, whose operations only read, and whose callees may lay blocks of their own ('BelowOf': the worlds in which all old blocks are as they were). Conditions: as in the contracts.
-/
import Derived.Test.YtkilghhknimolaaDoorSpareQ
import Derived.BigQuiet
namespace Go.Proofs.YtkilghhknimolaaDoor
open Go.RowKit

/-- A world in which all blocks of w are as they were. -/
structure BelowOf (w : World) where
  v : World
  bel : Below w.heap.size w v
instance belowOfInhabited (w : World) : Inhabited (BelowOf w) := ⟨⟨w, Below.refl _ w⟩⟩
theorem wp_region_quiet_below {P : Program} {id : Nat} {Q : Exit → Act → World → Prop} {a : Act} {w : World} {l : List Oper} (hm : P.follows .mixedOrders = true) (hB : Region.lexB .any l.toArray = true)
    (h : wpQuiet P l.toArray (fun w' => ∃ p : BelowOf w, w' = p.v) (fun a' => ∀ w', (∃ p : BelowOf w, w' = p.v) → Q .normal a' w') l a) : (Code.region id l.toArray true).wp P Q a w :=
  wp_region_quiet (C := fun w' => ∃ p : BelowOf w, w' = p.v) hm hB ⟨⟨w.drew, below_drewN' (Below.refl _ w) 1⟩, rfl⟩ (by simpa using h)
theorem Calls.below_of {P : Program} {f : FuncId} {args : Array Value} {w : World} (p : BelowOf w) {v : Value}
    (h : Calls P f args p.v fun e w' => e = .returned v ∧ Below p.v.heap.size p.v w') : Calls P f args p.v fun e w' => e = .returned v ∧ ∃ q : BelowOf w, w' = q.v :=
  h.mono fun _ w' ⟨he, hb⟩ => ⟨he, ⟨w', p.bel.trans (hb.mono p.bel.size)⟩, rfl⟩
end Go.Proofs.YtkilghhknimolaaDoor
