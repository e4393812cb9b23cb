/-
  WHAT IS PROVED HERE: the given statement Rows.ScopeStepsSaid: for every input the law pelotonlaw14.ScopeSteps returns true, and its arguments read as before. Conditions: none.
-/
import Derived.Test.YtkdpckoneohjkaaRows
import Derived.Test.YtkdpckoneohjkaaArgs
import Derived.Test.YtkdpckoneohjkaaScopeStepsWalk
namespace Go.Proofs.Ytkdpckoneohjkaa.lawScopeSteps
open Go.ChangeShapes Go.WideShapes Go.ChangeAt Go.RowKit Go.Deep Go.Joins Go.Proofs.Ytkdpckoneohjkaa
set_option linter.unusedVariables false

theorem own : ownKnob Try.prog.godebug = none := by kernel_rfl
theorem laidOut : laidOutB Try.prog = true := by kernel_rfl
theorem fields2 : ∃ fs, Try.prog.underlying 60 = some (.struct fs) ∧ fs.size = 3 ∧ oneCellFields Try.prog fs = true ∧ ∀ (j : Nat) (f : Field), fs[j]? = some f → Try.prog.underlying f.type = some (.int .i64) := by
  refine ⟨_, Try.underlying60, rfl, by kernel_rfl, ?_⟩
  intro j f h
  match j, h with
  | 0, h => simp at h; subst h; dsimp only; first | with_reducible exact Try.underlying3 | with_reducible exact Try.underlying2
  | 1, h => simp at h; subst h; dsimp only; first | with_reducible exact Try.underlying3 | with_reducible exact Try.underlying2
  | 2, h => simp at h; subst h; dsimp only; first | with_reducible exact Try.underlying3 | with_reducible exact Try.underlying2
  | n + 3, h => simp at h

set_option maxRecDepth 100000 in
theorem lifted (os : Os) (started : os.Started) (H : Type) (enc : TypeId × Value → H) :
    ReturnsInHanded {} Try.checked os 8 .any (Rows.scopeStepsSpec.pre6 enc Try.prog Try.f8 Rows.scopeStepsRow.domain false) (Rows.scopeStepsSpec.post enc Try.prog Try.f8 false true false false) := by
  refine returnsInHanded_of_change (C := Try.checked) own started (by kernel_rfl) Try.func8
    (ChangeSpec.witness6 (enc := enc) (C := Try.checked) false ⟨#[], #[.slice none 0 0, .slice none 0 0, .slice none 0 0], []⟩ 8 (by kernel_rfl) (by kernel_rfl) (by kernel_rfl) (by kernel_rfl)) ?_
  intro W base args ds gs before hval0 hW hcnd _
  have hval : ∀ (j : Nat) t v, Try.f8.params[j]? = some t → args[j]? = some v → Value.okWide Try.prog W .any base t v := hval0
  have hW' := hW
  obtain ⟨p, q, hA0, hV, rfl, hfz, hnd⟩ := hW
  have hA : DataW.TrodAll enc Try.prog W 0 (fun _ => true) true Try.f8.params.toList args.toList ds p := hA0
  rw [Try.params8] at hA hval
  obtain ⟨v0, vs0, d0, ds0, p0, q0, hargs, rfl, rfl, h0, r0⟩ := trodAll_cons hA
  obtain ⟨v1, vs1, d1, ds1, p1, q1, rfl, rfl, rfl, h1, r1⟩ := trodAll_cons r0
  obtain ⟨v2, vs2, d2, ds2, p2, q2, rfl, rfl, rfl, h2, r2⟩ := trodAll_cons r1
  obtain ⟨rfl, rfl, rfl⟩ := trodAll_nil r2
  obtain rfl : args = #[v0, v1, v2] := by cases args; simp_all
  obtain ⟨rfl, rfl⟩ := trodVars_none hV
  have k0 := h0
  have lt0 : ∀ x ∈ p0, x.block < W.heap.size := by obtain ⟨m, hm⟩ := k0; exact DataW.trod_lt m _ _ _ hm
  obtain ⟨A0, n0, c0, z0, rfl, m0, F0⟩ := open_flat Try.underlying24 Try.underlying3 (by kernel_rfl) (hval 0 24 v0 rfl rfl) h0
  have k1 := h1
  have lt1 : ∀ x ∈ p1, x.block < W.heap.size := by obtain ⟨m, hm⟩ := k1; exact DataW.trod_lt m _ _ _ hm
  obtain ⟨A1, n1, c1, z1, rfl, m1, F1⟩ := open_flat Try.underlying24 Try.underlying3 (by kernel_rfl) (hval 1 24 v1 rfl rfl) h1
  have k2 := h2
  have lt2 : ∀ x ∈ p2, x.block < W.heap.size := by obtain ⟨m, hm⟩ := k2; exact DataW.trod_lt m _ _ _ hm
  obtain ⟨fs2, fu2, fz2, fi2⟩ := fields2
  obtain ⟨A2, n2, c2, z2, rfl, m2, F2⟩ := open_flatS Try.underlying52 fu2 fi2 (by rw [fz2]; kernel_rfl) (by omega) (hval 2 52 v2 rfl rfl) h2
  rw [fz2] at F2
  clear hA0 hval0
  refine (scopeSteps_walk W A0 n0 c0 z0 m0 F0 A1 n1 c1 z1 m1 F1 A2 n2 c2 z2 m2 F2).mono fun e W' ⟨he, bel⟩ => ?_
  subst he
  exact ⟨_, rfl, _, _, _, [], _, [], hW', trodAll_mk1 (shut_bool Try.underlying4 _), (trodAll_cons_mk (Below.trod laidOut (by kernel_rfl) (of_decide_eq_true (by kernel_rfl)) k0 bel lt0) (trodAll_cons_mk (Below.trod laidOut (by kernel_rfl) (of_decide_eq_true (by kernel_rfl)) k1 bel lt1) (trodAll_cons_mk (Below.trod laidOut (by kernel_rfl) (of_decide_eq_true (by kernel_rfl)) k2 bel lt2) trodAll_mk0))), rfl, bel.frame _, fun h => by cases h⟩

theorem over : Rows.scopeStepsRow.holds Try.pinned (OpenSpec.ofChange Rows.scopeStepsSpec) :=
  OpenClaim.holds_of_wide 8 Try.f8 rfl rfl rfl rfl rfl rfl rfl ⟨rfl, rfl, rfl, rfl, rfl⟩ rfl rfl rfl rfl rfl (by kernel_rfl) Try.func8 (by kernel_rfl)
    (of_decide_eq_true (by kernel_rfl)) (by unfold Func.isWrapper; first | (rw [if_pos (by decide +kernel)]; kernel_rfl) | (rw [if_neg (by decide +kernel)]; exact ⟨rfl, rfl⟩))
    (fun os started H enc _ => lifted os started H enc)

theorem proved : Rows.ScopeStepsSaid := over
#print axioms proved
end Go.Proofs.Ytkdpckoneohjkaa.lawScopeSteps
