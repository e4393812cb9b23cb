/-
  WHAT IS PROVED HERE: plain laws, over any program, of a region that draws its order, whose operations only read, and whose callees may lay blocks of their own ('BelowOf': the worlds in which all old blocks are as they were); and of the tree's quiet methods in it. Conditions: as in the contracts.
-/
import Derived.Test.YtkdpckoneohjkaaRefU
import Derived.BigQuiet
namespace Go.Proofs.Ytkdpckoneohjkaa
open Go.RowKit

/-- A world in which all blocks of w are as they were. -/
structure BelowOf (w : World) where
  v : World
  bel : Below w.heap.size w v
instance belowOfInhabited (w : World) : Inhabited (BelowOf w) := ⟨⟨w, Below.refl _ w⟩⟩
theorem wp_region_quiet_below {P : Program} {id : Nat} {Q : Exit → Act → World → Prop} {a : Act} {w : World} {l : List Oper} (hm : P.follows .mixedOrders = true) (hB : Region.lexB .any l.toArray = true)
    (h : wpQuiet P l.toArray (fun w' => ∃ p : BelowOf w, w' = p.v) (fun a' => ∀ w', (∃ p : BelowOf w, w' = p.v) → Q .normal a' w') l a) : (Code.region id l.toArray true).wp P Q a w :=
  wp_region_quiet (C := fun w' => ∃ p : BelowOf w, w' = p.v) hm hB ⟨⟨w.drew, below_drewN' (Below.refl _ w) 1⟩, rfl⟩ (by simpa using h)
theorem Calls.below_of {P : Program} {f : FuncId} {args : Array Value} {w : World} (p : BelowOf w) {v : Value}
    (h : Calls P f args p.v fun e w' => e = .returned v ∧ Below p.v.heap.size p.v w') : Calls P f args p.v fun e w' => e = .returned v ∧ ∃ q : BelowOf w, w' = q.v :=
  h.mono fun _ w' ⟨he, hb⟩ => ⟨he, ⟨w', p.bel.trans (hb.mono p.bel.size)⟩, rfl⟩
theorem Calls.below_same {P : Program} {f : FuncId} {args : Array Value} {w : World} (p : BelowOf w) {v : Value}
    (h : Calls P f args p.v fun e w' => e = .returned v ∧ p.v = w') : Calls P f args p.v fun e w' => e = .returned v ∧ ∃ q : BelowOf w, w' = q.v :=
  h.mono fun _ _ ⟨he, hb⟩ => ⟨he, p, hb.symm⟩
section
variable {W w : World} {mb : MB} {t g k : Nat} {size d : Int} {L : List Sc} {R : RB}
theorem q_nest (h : SD W w mb t g size k d L) (s v : Int) (hv : nestOf (scN L) s = v) (p : BelowOf w) :
    Calls Try.prog 31 #[.pointer (some ⟨t, 0, none⟩), .int .i64 s] p.v fun e w' => e = .returned (.int .i64 v) ∧ ∃ q : BelowOf w, w' = q.v := by
  subst hv
  exact Calls.below_of p ((sd_nest (h.below p.bel) s).mono fun _ _ ⟨a, _, b⟩ => ⟨a, b⟩)
theorem q_parent (h : SD W w mb t g size k d L) (s v : Int) (hv : parOf (scN L) s = v) (p : BelowOf w) :
    Calls Try.prog 36 #[.pointer (some ⟨t, 0, none⟩), .int .i64 s] p.v fun e w' => e = .returned (.int .i64 v) ∧ ∃ q : BelowOf w, w' = q.v := by
  subst hv
  exact Calls.below_of p ((sd_parent (h.below p.bel) s).mono fun _ _ ⟨a, _, b⟩ => ⟨a, b⟩)
theorem q_inside (h : SD W w mb t g size k d L) (hw : WfS L) (s o : Int) (v : Bool) (hv : insS L s o = v) (p : BelowOf w) :
    Calls Try.prog 39 #[.pointer (some ⟨t, 0, none⟩), .int .i64 s, .int .i64 o] p.v fun e w' => e = .returned (.bool v) ∧ ∃ q : BelowOf w, w' = q.v := by
  exact Calls.below_of p ((sd_inside (h.below p.bel) hw s o v hv.symm).mono fun _ _ ⟨a, _, b⟩ => ⟨a, b⟩)
theorem q_rnest (h : RT w R L) (hw : WfS L) (s v : Int) (hv : nestOf (scN L) s = v) (p : BelowOf w) :
    Calls Try.prog 38 #[.pointer (some ⟨R.r, 0, none⟩), .int .i64 s] p.v fun e w' => e = .returned (.int .i64 v) ∧ ∃ q : BelowOf w, w' = q.v := by
  subst hv
  exact Calls.below_same p (rnest_any (h.below p.bel) hw s)
theorem q_rins (h : RT w R L) (hw : WfS L) (s o : Int) (v : Bool) (hv : insS L s o = v) (p : BelowOf w) :
    Calls Try.prog 40 #[.pointer (some ⟨R.r, 0, none⟩), .int .i64 s, .int .i64 o] p.v fun e w' => e = .returned (.bool v) ∧ ∃ q : BelowOf w, w' = q.v := by
  subst hv
  exact Calls.below_same p (rins_any (h.below p.bel) hw s o)
end
end Go.Proofs.Ytkdpckoneohjkaa
