/-
  WHAT IS PROVED HERE: more contracts in the words of what a law of layer 16 keeps in memory ('GrW'): Path, of any number; the reference's Order from the first task; pairs over All; and plain laws of a region that draws its order, whose operations only read, and whose callees may lay blocks of their own. Conditions: as in the contracts.
-/
import Derived.Test.YtogobpnbkmdnfaaKinL
import Derived.Test.YtogobpnbkmdnfaaArgs
import Derived.Deep.RegionHeld3
import Derived.Deep.CutBlock
import Derived.ChangeKeysEq
namespace Go.Proofs.Ytogobpnbkmdnfaa
open Go.RowKit

/-- A world in which all blocks of w are as they were. -/
structure BelowOf (w : World) where
  v : World
  bel : Below w.heap.size w v
instance belowOfInhabited (w : World) : Inhabited (BelowOf w) := ⟨⟨w, Below.refl _ w⟩⟩
theorem wp_region_quiet_below {P : Program} {id : Nat} {Q : Exit → Act → World → Prop} {a : Act} {w : World} {l : List Oper} (hm : P.follows .mixedOrders = true) (hB : Region.lexB .any l.toArray = true)
    (h : wpQuiet P l.toArray (fun w' => ∃ p : BelowOf w, w' = p.v) (fun a' => ∀ w', (∃ p : BelowOf w, w' = p.v) → Q .normal a' w') l a) : (Code.region id l.toArray true).wp P Q a w :=
  wp_region_quiet (C := fun w' => ∃ p : BelowOf w, w' = p.v) hm hB ⟨⟨w.drew, below_drewN' (Below.refl _ w) 1⟩, rfl⟩ (by simpa using h)
theorem Calls.below_of {P : Program} {f : FuncId} {args : Array Value} {w : World} (p : BelowOf w) {v : Value}
    (h : Calls P f args p.v fun e w' => e = .returned v ∧ Below p.v.heap.size p.v w') : Calls P f args p.v fun e w' => e = .returned v ∧ ∃ q : BelowOf w, w' = q.v :=
  h.mono fun _ w' ⟨he, hb⟩ => ⟨he, ⟨w', p.bel.trans (hb.mono p.bel.size)⟩, rfl⟩
theorem Calls.below_same {P : Program} {f : FuncId} {args : Array Value} {w : World} (p : BelowOf w) {v : Value}
    (h : Calls P f args p.v fun e w' => e = .returned v ∧ p.v = w') : Calls P f args p.v fun e w' => e = .returned v ∧ ∃ q : BelowOf w, w' = q.v :=
  h.mono fun _ _ ⟨he, hb⟩ => ⟨he, p, hb.symm⟩

theorem Flat.sv {W : World} {A : Option Addr} {n : Nat} {z : List Int} (F : Flat W A n z) : Sv W A z := fun h0 => by
  obtain ⟨hl, _, hc⟩ := F
  obtain ⟨b, off, e, hlt, hc⟩ := hc (by omega)
  refine ⟨b, off, e, hlt, fun j x hj => ?_⟩
  obtain ⟨hjl, hx⟩ := List.getElem?_eq_some_iff.1 hj
  have := hc j (by omega)
  rw [this]
  simp [hj]
theorem GrW.get {w0 w : World} {p : Nat} {own : Nat → Prop} {A : Option Addr} {c : Nat} {l : List Int} (h : GrW w0 w p own A c l) {j : Nat} (hj : j < l.length) : ∃ g, A = some ⟨g, 0, none⟩ ∧ w.cell? ⟨g, j, none⟩ = some (.int .i64 (parN l j)) := h.ls.get (get_parN hj)
theorem kidI_length (l : List Int) (x : Int) : (kidI l x).length ≤ l.length := by
  unfold kidI
  split
  · rw [length_nI]; exact kN_length l x
  · simp
/-- The way to any number; what Path says to it. -/
def wayI (l : List Int) (x : Int) : List Int := if inK l.length x then nI (wayN l x.toNat) else []
def wayC (l : List Int) (x : Int) : Int := if inK l.length x then 0 else 17
theorem wayI_nat {l : List Int} {k : Nat} (h : k < l.length) : wayI l k = nI (wayN l k) ∧ wayC l k = 0 := by
  unfold wayI wayC
  rw [inK_nat h]
  exact ⟨rfl, rfl⟩
section
variable {w : World} {p : Nat} {own : Nat → Prop} {l : List Int}
theorem kpath_any (hT : KT w p own l) (few : l.length ≤ 1000) (x : Int) :
    Calls Try.prog 13 #[.pointer (some ⟨p, 0, none⟩), .int .i64 x] w fun e w' => ∃ A cap, e = .returned (.tuple #[.slice A (wayI l x).length cap, .int .i64 (wayC l x)]) ∧ Ls w' w.heap.size A cap (wayI l x) ∧ Below w.heap.size w w' := by
  cases h : inK l.length x with
  | true =>
    obtain ⟨k, rfl, hk⟩ := inK_get h
    obtain ⟨e1, e2⟩ := wayI_nat hk
    rw [e1, e2, length_nI]
    exact kpath_ok hT few k hk
  | false =>
    have e1 : wayI l x = [] := by unfold wayI; rw [h]; rfl
    have e2 : wayC l x = 17 := by unfold wayC; rw [h]; rfl
    rw [e1, e2]
    refine (kpath_no hT x h).mono ?_
    rintro e w' ⟨rfl, hb⟩
    exact ⟨none, 0, rfl, Ls.nil _ _, hb⟩
theorem rord0_ok {A : Option Addr} {cap : Nat} (hw : WfP l) (few : l.length ≤ 1000) (hL : Sv w A l) :
    Calls Try.prog 19 #[.slice A l.length cap, .int .i64 0] w fun e w' => ∃ A' cap', e = .returned (.slice A' (allN l).length cap') ∧ Ls w' w.heap.size A' cap' (nI (allN l)) ∧ Below w.heap.size w w' := by
  by_cases h0 : l = []
  · have e : allN l = [] := by unfold allN; rw [if_pos h0]
    rw [e]
    exact rord_no w 0 (by rw [h0]; simp [inK])
  · have e : allN l = ordN l 0 := by unfold allN; rw [if_neg h0]
    rw [e]
    exact rord_ok hw few 0 (List.length_pos_iff.2 h0) w hL
/-- pairs(t.All(), most). -/
theorem kpairs_ok (hT : KT w p own l) (few : l.length ≤ 1000) (most : Int) (h1 : 1 ≤ most) {bt : Nat} (hbt : Blk w bt 25 [.pointer (some ⟨p, 0, none⟩)]) :
    Calls Try.prog 20 #[.func (.func 34) #[] #[.pointer (some ⟨bt, 0, none⟩)], .int .i64 most] w fun e w' =>
      ∃ g cap, e = .returned (.slice (some ⟨g, 0, none⟩) ((allN l).take most.toNat).length cap) ∧ Pw w' g cap ((allN l).take most.toNat).length (pcs l ((allN l).take most.toNat)) ∧ w.heap.size ≤ g ∧ Below w.heap.size w w' :=
  kpairs_any w bt l (by rw [allN_length hT.wf]; exact few) most h1 (fun k => k = bt ∨ own k) (fun k e => e.elim (fun e => e ▸ hbt.lt) (hT.lt k)) (fun _ hb => allIt_tree (hT.below hb (Nat.le_refl _)) few (hbt.below hb hbt.lt))
end
/-! ## Pairs are compared -/
theorem eq_pairs (x y u v : Int) (W : World) : Sem.run Try.prog (Op.equal 23 (.agg #[.int .i64 x, .int .i64 y]) (.agg #[.int .i64 u, .int .i64 v])) W = .ok ((x == u) && (y == v)) W := by
  obtain ⟨ii, hii, _⟩ := info_int
  have hc : Try.prog.cellsOf 3 = 1 := by kernel_rfl
  obtain ⟨d, hd⟩ : ∃ d, Op.maxDepth = d + 1 + 1 := ⟨_, rfl⟩
  unfold Op.equal
  rw [hd, run_equalIn_array (P := Try.prog) W (d + 1) _ _ Try.underlying23 hii, hc]
  have hp : ∀ (a b : Int), Sem.run Try.prog (part 3 #[.int .i64 a, .int .i64 b] (0 * 1)) W = .ok (.int .i64 a) W ∧ Sem.run Try.prog (part 3 #[.int .i64 a, .int .i64 b] (1 * 1)) W = .ok (.int .i64 b) W := fun a b => by
    constructor <;> (simp [part]; try rfl)
  have he : ∀ (a b : Int), Sem.run Try.prog (Op.equalIn (d + 1) 3 (.int .i64 a) (.int .i64 b)) W = .ok (a == b) W := fun a b => by
    simp [Op.equalIn, run_underlying Try.underlying3]
  simp only [List.range, List.range.loop, Op.eqItems, Sem.run_bind]
  simp only [hp, he, Result.andThen_ok]
  by_cases h : x = u
  · subst h
    simp [hp, he]
    by_cases h2 : y = v
    · subst h2; simp
    · simp [h2]
  · simp [h]
theorem ne_pairs_same (x y : Int) : ∀ W : World, Sem.run Try.prog (binOp .neq 23 (.agg #[.int .i64 x, .int .i64 y]) (.agg #[.int .i64 x, .int .i64 y])) W = .ok (.bool false) W := fun W => by
  simp [binOp, eq_pairs]
end Go.Proofs.Ytogobpnbkmdnfaa
