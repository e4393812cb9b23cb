/-
  WHAT IS PROVED HERE: the given statement Rows.CellsCloneSaid: for every input the law pelotonlaw01.CellsClone returns true, and its arguments read as before. Conditions: none.
-/
import Derived.Test.YtelphbfdibfmoaaRows
import Derived.Test.YtelphbfdibfmoaaArgs
import Derived.Test.YtelphbfdibfmoaaCellsCloneWalk
namespace Go.Proofs.Ytelphbfdibfmoaa.lawCellsClone
open Go.ChangeShapes Go.WideShapes Go.ChangeAt Go.RowKit Go.Deep Go.Joins Go.Proofs.Ytelphbfdibfmoaa
set_option linter.unusedVariables false

theorem own : ownKnob Try.prog.godebug = none := by kernel_rfl
theorem laidOut : laidOutB Try.prog = true := by kernel_rfl
theorem fields0 : ∃ fs, Try.prog.underlying 47 = some (.struct fs) ∧ fs.size = 5 ∧ oneCellFields Try.prog fs = true ∧ ∀ (j : Nat) (f : Field), fs[j]? = some f → Try.prog.underlying f.type = some (.int .i64) := by
  refine ⟨_, Try.underlying47, rfl, by kernel_rfl, ?_⟩
  intro j f h
  match j, h with
  | 0, h => simp at h; subst h; dsimp only; first | with_reducible exact Try.underlying3 | with_reducible exact Try.underlying2
  | 1, h => simp at h; subst h; dsimp only; first | with_reducible exact Try.underlying3 | with_reducible exact Try.underlying2
  | 2, h => simp at h; subst h; dsimp only; first | with_reducible exact Try.underlying3 | with_reducible exact Try.underlying2
  | 3, h => simp at h; subst h; dsimp only; first | with_reducible exact Try.underlying3 | with_reducible exact Try.underlying2
  | 4, h => simp at h; subst h; dsimp only; first | with_reducible exact Try.underlying3 | with_reducible exact Try.underlying2
  | n + 5, h => simp at h

set_option maxRecDepth 100000 in
theorem lifted (os : Os) (started : os.Started) (H : Type) (enc : TypeId × Value → H) :
    ReturnsInHanded {} Try.checked os 12 .any (Rows.cellsCloneSpec.pre6 enc Try.prog Try.f12 Rows.cellsCloneRow.domain false) (Rows.cellsCloneSpec.post enc Try.prog Try.f12 false true false false) := by
  refine returnsInHanded_of_change (C := Try.checked) own started (by kernel_rfl) Try.func12
    (ChangeSpec.witness6 (enc := enc) (C := Try.checked) false ⟨#[], #[.slice none 0 0, .int .i64 0], []⟩ 8 (by kernel_rfl) (by kernel_rfl) (by kernel_rfl) (by kernel_rfl)) ?_
  intro W base args ds gs before hval0 hW hcnd _
  have hval : ∀ (j : Nat) t v, Try.f12.params[j]? = some t → args[j]? = some v → Value.okWide Try.prog W .any base t v := hval0
  have hW' := hW
  obtain ⟨p, q, hA0, hV, rfl, hfz, hnd⟩ := hW
  have hA : DataW.TrodAll enc Try.prog W 0 (fun _ => true) true Try.f12.params.toList args.toList ds p := hA0
  rw [Try.params12] at hA hval
  obtain ⟨v0, vs0, d0, ds0, p0, q0, hargs, rfl, rfl, h0, r0⟩ := trodAll_cons hA
  obtain ⟨v1, vs1, d1, ds1, p1, q1, rfl, rfl, rfl, h1, r1⟩ := trodAll_cons r0
  obtain ⟨rfl, rfl, rfl⟩ := trodAll_nil r1
  obtain rfl : args = #[v0, v1] := by cases args; simp_all
  obtain ⟨rfl, rfl⟩ := trodVars_none hV
  have k0 := h0
  have lt0 : ∀ x ∈ p0, x.block < W.heap.size := by obtain ⟨m, hm⟩ := k0; exact DataW.trod_lt m _ _ _ hm
  obtain ⟨fs0, fu0, fz0, fi0⟩ := fields0
  obtain ⟨A0, n0, c0, z0, rfl, m0, F0⟩ := open_flatS Try.underlying42 fu0 fi0 (by rw [fz0]; kernel_rfl) (by omega) (hval 0 42 v0 rfl rfl) h0
  rw [fz0] at F0
  have k1 := h1
  have lt1 : ∀ x ∈ p1, x.block < W.heap.size := by obtain ⟨m, hm⟩ := k1; exact DataW.trod_lt m _ _ _ hm
  obtain ⟨a1, rfl, e1, _, w1⟩ := open_int Try.underlying3 (hval 1 3 v1 rfl rfl) h1
  clear hA0 hval0
  refine (cellsClone_walk W A0 n0 c0 z0 m0 F0 a1).mono fun e W' ⟨he, bel⟩ => ?_
  subst he
  exact ⟨_, rfl, _, _, _, [], _, [], hW', trodAll_mk1 (shut_bool Try.underlying4 _), (trodAll_cons_mk (Below.trod laidOut (by kernel_rfl) (of_decide_eq_true (by kernel_rfl)) k0 bel lt0) (trodAll_cons_mk (Below.trod laidOut (by kernel_rfl) (of_decide_eq_true (by kernel_rfl)) k1 bel lt1) trodAll_mk0)), rfl, bel.frame _, fun h => by cases h⟩

theorem over : Rows.cellsCloneRow.holds Try.pinned (OpenSpec.ofChange Rows.cellsCloneSpec) :=
  OpenClaim.holds_of_wide 12 Try.f12 rfl rfl rfl rfl rfl rfl rfl ⟨rfl, rfl, rfl, rfl, rfl⟩ rfl rfl rfl rfl rfl (by kernel_rfl) Try.func12 (by kernel_rfl)
    (of_decide_eq_true (by kernel_rfl)) (by unfold Func.isWrapper; first | (rw [if_pos (by decide +kernel)]; kernel_rfl) | (rw [if_neg (by decide +kernel)]; exact ⟨rfl, rfl⟩))
    (fun os started H enc _ => lifted os started H enc)

theorem proved : Rows.CellsCloneSaid := over
#print axioms proved
end Go.Proofs.Ytelphbfdibfmoaa.lawCellsClone
