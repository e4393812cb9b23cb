/-
  WHAT IS PROVED HERE: an append of a list to a list, either of which may be empty or nil, in a walk, guarded or not; pairs over a nil tree. Conditions: the first list is one's own.
-/
import Derived.Test.YtogobpnbkmdnfaaKinN
import Derived.BigFrame
namespace Go.Proofs.Ytogobpnbkmdnfaa
open Go.RowKit

theorem run_append_none (w : World) (ty : TypeId) (A : Option Addr) (n cap : Nat) (h : n ≤ cap) :
    (Builtin.append_ #[22, 22] ty #[.slice A n cap, .slice none 0 0]).run Try.prog w = .ok (.slice A n cap) w := by
  obtain ⟨i0, hi, hz0, hz1, hz2⟩ := info_int
  have hl : Sem.run Try.prog (Builtin.lenOf (.slice none 0 0)) w = .ok 0 w := rfl
  have hf : Sem.run Try.prog (Builtin.firstCells 1 0 (.slice none 0 0)) w = .ok #[] w := rfl
  have hs : ∀ a : Addr, Sem.run Try.prog (storeCells a []) w = .ok () w := fun _ => rfl
  cases A with
  | none => simp [Builtin.append_, run_underlying Try.underlying22, typeInfo, hi, sizeOf, h, hz1, hl, hf]
  | some a => simp [Builtin.append_, run_underlying Try.underlying22, typeInfo, hi, sizeOf, h, hz1, hl, hf, hs]
/-- An append of a list to a list of one's own, run. -/
theorem run_append_gen (w : World) (ty : TypeId) {B C : Nat} {A D : Option Addr} {cap c : Nat} {xs ys : List Int} (h : Ls w B A cap xs) (hB : B ≤ w.heap.size) (hy : Ls w C D c ys) (few : xs.length + ys.length ≤ 1000000) :
    ∃ A' cap' w', (Builtin.append_ #[22, 22] ty #[.slice A xs.length cap, .slice D ys.length c]).run Try.prog w = .ok (.slice A' (xs.length + ys.length) cap') w' ∧
      Ls w' B A' cap' (xs ++ ys) ∧ Kept (fun k => A = some ⟨k, 0, none⟩) w w' ∧ ∀ k, A' = some ⟨k, 0, none⟩ → A = some ⟨k, 0, none⟩ ∨ k = w.heap.size := by
  rcases hy with ⟨rfl, rfl, rfl⟩ | ⟨g, rfl, hr, hg⟩
  · refine ⟨A, cap, w, ?_, by rw [List.append_nil]; exact h, Kept.refl _ w, fun k e => .inl e⟩
    simpa using run_append_none w ty A xs.length cap h.room.1
  · by_cases h0 : ys.length = 0
    · obtain rfl := List.eq_nil_of_length_eq_zero h0
      obtain ⟨i0, hi, hz0, hz1, hz2⟩ := info_int
      obtain ⟨v', w', hr2, h2, h3, h4, h5⟩ := run_append_own_at (P := Try.prog) w 0 22 ty 3 i0 (.int .i64 0) 1 8 Try.underlying22 hi hz0 hz1 hz2 rfl (by omega) (.slice A xs.length cap) xs.length (ints xs) h.own ⟨g, 0, none⟩ 0 c [] rfl (by simp)
        (by simp) (by unfold maxLen; omega) (by omega) (Nat.zero_le _)
      have hcase : ∃ A' cap', v' = .slice A' xs.length cap' ∧ ((A' = none ∧ cap' = 0 ∧ xs = []) ∨ ∃ g', A' = some ⟨g', 0, none⟩ ∧ Rw w' g' cap' 3 (ints xs)) := by
        rcases h2.2 with ⟨e, e2⟩ | ⟨g', cap', cur, e, hb, hg2, hnc, hcm, hcs, ht⟩
        · refine ⟨none, 0, ?_, .inl ⟨rfl, rfl, ?_⟩⟩
          · rw [e]; have : xs.length = 0 := by simpa using e2
            rw [this]
          · exact List.eq_nil_of_length_eq_zero (by simpa using e2)
        · refine ⟨some ⟨g', 0, none⟩, cap', by simpa using e, .inr ⟨g', rfl, ?_⟩⟩
          rw [e] at h2
          have := (Rw.ofOwn h2).1
          simpa using this
      obtain ⟨A', cap', rfl, hc⟩ := hcase
      have hwhere : ∀ k, A' = some ⟨k, 0, none⟩ → A = some ⟨k, 0, none⟩ ∨ k = w.heap.size := fun k e => by
        subst e
        rcases h5 with e5 | e5
        · left
          rcases h with ⟨rfl, _, _⟩ | ⟨g2, rfl, _, _⟩
          · simp [Value.ownBlock] at e5
          · simp [Value.ownBlock] at e5; rw [e5]
        · right; simpa [Value.ownBlock] using e5
      refine ⟨A', cap', w', by simpa using hr2, ?_, (Kept.refl _ w).grown h3 (fun k ek => .inl ?_), hwhere⟩
      · rw [List.append_nil]
        rcases hc with hc | ⟨g', e, hr3⟩
        · exact .inl hc
        · refine .inr ⟨g', e, hr3, ?_⟩
          rcases hwhere g' e with e2 | e2
          · exact h.at_ g' e2
          · omega
      · rcases h with ⟨rfl, _, _⟩ | ⟨g2, rfl, _, _⟩
        · simp [Value.ownBlock] at ek
        · simp [Value.ownBlock] at ek; rw [ek]
    · obtain ⟨g', cap', w', h1, h2, h3, h4, _⟩ := run_append_ls w ty h hB ⟨g, 0, none⟩ ys.length c ys rfl (by omega) (ls_cells (.inr ⟨g, rfl, hr, hg⟩)) few
      refine ⟨_, cap', w', h1, h2, h3, fun k e => ?_⟩
      have e2 : g' = k := congrArg Addr.block (Option.some.inj e)
      subst e2; exact h4
theorem wpList_append_gen (w : World) {ops : Array Oper} {rest : List Oper} {o : Oper} {a : Act} {Q : Exit → Act → World → Prop} (hgd : Region.wanted o (yielded ops a.tmps) = true) (s x : Operand) (ho : o.op = .call { callee := .builtin .append, args := #[s, x], argTypes := #[22, 22] })
    {B C : Nat} {A D : Option Addr} {cap c : Nat} (xs ys : List Int) (h : Ls w B A cap xs) (hB : B ≤ w.heap.size) (hy : Ls w C D c ys) (n m : Nat) (hn : n = xs.length) (hm : m = ys.length) (hs : a.eval s = .slice A n cap) (hx : a.eval x = .slice D m c) (few : n + m ≤ 1000000)
    (hK : ∀ A' cap' w', Ls w' B A' cap' (xs ++ ys) → Kept (fun k => A = some ⟨k, 0, none⟩) w w' → (∀ k, A' = some ⟨k, 0, none⟩ → A = some ⟨k, 0, none⟩ ∨ k = w.heap.size) → wpList Try.prog ops Q rest (a.put o.dst (.slice A' (n + m) cap')) w') : wpList Try.prog ops Q (o :: rest) a w := by
  subst hn; subst hm
  refine BigFrame.wpList_want hgd fun K hK' => ?_
  obtain ⟨A', cap', w', hr, h1, h2, h3⟩ := run_append_gen w o.type h hB hy few
  unfold Oper.wp execOp
  simp only [ho, resolve, invoke, builtin, Sem.run_bind, Sem.run_pure, Result.andThen_ok, List.map_toArray, List.map_cons, List.map_nil, hs, hx, hr]
  exact hK' _ _ (hK A' cap' w' h1 h2 h3)
theorem kpairs_nil (w : World) (most : Int) (h1 : 1 ≤ most) {bt : Nat} (hbt : Blk w bt 25 [.pointer none]) :
    Calls Try.prog 20 #[.func (.func 34) #[] #[.pointer (some ⟨bt, 0, none⟩)], .int .i64 most] w fun e w' =>
      ∃ g cap, e = .returned (.slice (some ⟨g, 0, none⟩) 0 cap) ∧ Below w.heap.size w w' := by
  refine (kpairs_any w bt [] (by simp [allN]) most h1 (fun k => k = bt) (fun k e => e ▸ hbt.lt) (fun _ hb => allIt_nil (hbt.below hb hbt.lt))).mono ?_
  rintro e w' ⟨g, cap, rfl, _, _, hb⟩
  exact ⟨g, cap, by simp [allN], hb⟩
end Go.Proofs.Ytogobpnbkmdnfaa
