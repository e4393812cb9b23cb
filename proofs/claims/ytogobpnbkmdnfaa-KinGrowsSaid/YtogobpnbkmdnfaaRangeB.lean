/-
  WHAT IS PROVED HERE: the law of Range ('range_own') once more, for an iterator that has something to do yet behind a loop that was left (it holds marks among its own deferred calls). No program in sight. Conditions: as stated.
-/
import Derived.Test.YtogobpnbkmdnfaaRange
namespace Go.Proofs.Ytogobpnbkmdnfaa
open Go.RowKit

section
variable {α : Type}
/-- An iterator's contract: rd: the blocks that it reads, which lay there when it was made; wr: those that it turns. -/
def SeqP (n : Nat) (P : Program) (g : Nat) (lb : Array Value) (encs : α → Array Value) (rd wr : Nat → Prop) (S Sp : List α → Prop) (N : Nat) (w0 : World) : Prop :=
  ∀ (l : Nat) (Pr Wr : World → Nat → Prop) (J Jx : List α → World → Prop) (W : World), Below w0.heap.size w0 W → Stands Pr Wr J →
    (∀ pre A, J pre A → (∀ k, rd k → ¬ Wr A k) ∧ (∀ k, wr k → ¬ Pr A k)) →
    (∀ pre x W1, J pre W1 → pre.length < N → YieldAt Fence.wide (n - 1) P l (encs x) W1 fun e W' =>
      (e = .returned (.bool true) ∧ J (pre ++ [x]) W' ∧ RoundOk Pr Wr W1 W') ∨ (e = .returned (.bool false) ∧ Jx (pre ++ [x]) W' ∧ Kept (Wr W1) W1 W')) →
    (∀ pre A r ob o', W.heap.size ≤ r → A.heap[r]? = some ob → ob.isCells = false → Jx pre A → Jx pre (A.putObj r o')) →
    J [] W →
    CallsIn Fence.wide n P g (#[.func (.yield l) #[] #[]] ++ lb) W fun e W' => (∃ v, e = .returned v) ∧ ((∃ xs, S xs ∧ J xs W') ∨ (∃ pre, Sp pre ∧ Jx pre W'))

variable {P : Program} {n : Nat}
theorem range_own2 {g : Operand} {ps : Array Tmp} {assign body : Code} {Q : Exit → Act → World → Prop} {a : Act} {w : World} {gf : Nat} {lb : Array Value}
    (hg : a.eval g = .func (.func gf) #[] lb) (eg : ∀ args w, (callFunc gf args).run P w = .ok (.enter gf args) w) (h1 : 1 ≤ n)
    {encs : α → Array Value} {rd wr : Nat → Prop} {S Sp : List α → Prop} {N : Nat} (hseq : SeqP (n - 1) P gf lb encs rd wr S Sp N w) (hps : ∀ x, (encs x).size = ps.size)
    (Pr Wr : World → Nat → Prop) (I : List α → World → Prop) (Ix : Code → List α → World → Prop) (hst : Stands Pr Wr I)
    (hown : ∀ pre A, I pre A → (∀ k, rd k → ¬ Wr A k) ∧ (∀ k, wr k → ¬ Pr A k)) (hrdw : ∀ k, rd k ∨ wr k → k < w.heap.size)
    (hIx : ∀ c pre A r ob o, w.heap.size ≤ r → A.heap[r]? = some ob → ob.isCells = false → Ix c pre A → Ix c pre (A.putObj r o))
    (h0 : I [] w) (a₁ : α → Act)
    (hassign : ∀ (l : Nat) (x : α) (W : World) (K : Act → World → Prop), K (a₁ x) W →
      assign.wpIn (Fence.wide.inRound l) (n - 1 - 1) P (Exit.then K (fun _ _ _ => False)) { tmps := (ps.zip (encs x)).foldl (fun t (p, v) => t.setIfInBounds p v) a.tmps, defers := [] } W)
    (hbody : ∀ (l : Nat) (pre : List α) (x : α) (W : World), I pre W → pre.length < N → body.wpIn (Fence.wide.inRound l) (n - 1 - 1) P (postO Pr Wr I Ix (pre ++ [x]) W) (a₁ x) W)
    (hdone : ∀ (D : Nat) (xs : List α) (W : World), w.heap.size ≤ D → S xs → I xs W → W.heap[D]? = some (.deferred (some [])) → Q .normal { a with defers := { target := .collected D, args := #[] } :: a.defers } W)
    (hstop : ∀ (D : Nat) (c : Code) (pre : List α) (W : World), w.heap.size ≤ D → Sp pre → Ix c pre W → W.heap[D]? = some (.deferred (some [])) → c.wpIn Fence.wide n P Q { a with defers := { target := .collected D, args := #[] } :: a.defers } W) :
    (Code.rangeFunc g ps assign body).wpIn Fence.wide n P Q a w := by
  refine wpIn_rangeFunc fun fn hfn => ?_
  have hro : Fence.wide.round = none := rfl
  rw [hro]
  -- the loop's record in each of its states
  obtain ⟨R, hR⟩ : ∃ R : LoopState → Option Code → Obj, R = fun st pe => .loop { state := st, pending := pe, fn, tmps := a.tmps, params := ps, assign, body, defers := w.heap.size } := ⟨_, rfl⟩
  obtain ⟨W1, hW1⟩ : ∃ W1, (w.alloc (.deferred (some []))).alloc (R .ready none) = W1 := ⟨_, rfl⟩
  have hl1 : W1.heap[w.heap.size + 1]? = some (R .ready none) := by
    rw [← hW1]
    have := World.alloc_heap_new (w.alloc (.deferred (some []))) (R .ready none)
    rwa [World.size_alloc] at this
  have hd1 : W1.heap[w.heap.size]? = some (.deferred (some [])) := by
    rw [← hW1]
    exact (Below.heap_alloc _ _ _ (by simp)).trans (World.alloc_heap_new w _)
  have hk1 : Kept (fun k => ¬ Pr w k) w W1 := by rw [← hW1]; exact ((Kept.refl _ w).alloc _).alloc _
  obtain ⟨hI1, hP1, hW1'⟩ := hst.go _ _ _ h0 hk1
  -- the caller's invariant, with the two blocks of book-keeping beside it
  obtain ⟨J, hJ⟩ : ∃ J : List α → World → Prop, J = fun pre W => I pre W ∧ W.heap[w.heap.size + 1]? = some (R .ready none) ∧ W.heap[w.heap.size]? = some (.deferred (some [])) ∧ ¬ Pr W (w.heap.size + 1) ∧ ¬ Pr W w.heap.size := ⟨_, rfl⟩
  obtain ⟨Jx, hJx⟩ : ∃ Jx : List α → World → Prop, Jx = fun pre W => ∃ c, Ix c pre W ∧ W.heap[w.heap.size + 1]? = some (R .done (some c)) ∧ W.heap[w.heap.size]? = some (.deferred (some [])) := ⟨_, rfl⟩
  have hJ1 : J [] W1 := by
    rw [hJ]
    exact ⟨hI1, hl1, hd1, fun h => by have := hst.lt _ _ _ h0 (hP1 _ h); omega, fun h => by have := hst.lt _ _ _ h0 (hP1 _ h); omega⟩
  have hSJ : Stands (fun W k => Pr W k ∨ k = w.heap.size + 1 ∨ k = w.heap.size) (fun W k => Wr W k ∨ k = w.heap.size + 1) J := by
    rw [hJ]
    refine ⟨?_, ?_, ?_⟩
    · rintro s A k ⟨h, hl, hd, _⟩ (hp | rfl | rfl)
      · exact hst.lt _ _ _ h hp
      · exact (Array.getElem?_eq_some_iff.1 hl).1
      · exact (Array.getElem?_eq_some_iff.1 hd).1
    · rintro s A k ⟨h, _⟩ (hw | rfl)
      · exact .inl (hst.sub _ _ _ h hw)
      · exact .inr (.inl rfl)
    · rintro s A B ⟨h, hl, hd, nl, nd⟩ hk
      obtain ⟨h', hp', hw'⟩ := hst.go _ _ _ h (hk.mono (fun i _ e => fun e' => e (.inl e')))
      refine ⟨⟨h', (hk.block _ (Array.getElem?_eq_some_iff.1 hl).1 (fun e => e (.inr (.inl rfl)))).trans hl, (hk.block _ (Array.getElem?_eq_some_iff.1 hd).1 (fun e => e (.inr (.inr rfl)))).trans hd, fun e => nl (hp' _ e), fun e => nd (hp' _ e)⟩, fun k e => e.imp (hp' k) id, fun k e => e.imp (hw' k) id⟩
  refine ⟨w.heap.size + 1, [{ target := .collected w.heap.size, args := #[] }], W1, { target := .fn (.func gf) lb, args := #[.func (.yield (w.heap.size + 1)) #[] #[]] }, W1, gf,
    #[.func (.yield (w.heap.size + 1)) #[] #[]] ++ lb, W1, ?_, ?_, fun _ _ => trivial, ?_, fun _ => h1, ?_⟩
  · rw [← hW1, hR]; exact run_enterLoop_outer _ _ _ _ _
  · simp only [resolve, hg]
    simp [go_sem]
  · simp [invoke, go_sem, eg]
  · have hb1 : Below w.heap.size w W1 := by rw [← hW1]; exact ((Below.refl _ w).alloc (Nat.le_refl _) _).alloc (by simp) _
    refine (hseq (w.heap.size + 1) _ _ J Jx W1 hb1 hSJ ?_ ?_ ?_ hJ1).mono ?_
    · intro pre A hA
      rw [hJ] at hA
      obtain ⟨o1, o2⟩ := hown pre A hA.1
      refine ⟨fun k hk e => ?_, fun k hk e => ?_⟩
      · have := hrdw k (.inl hk)
        rcases e with e | e
        · exact o1 k hk e
        · omega
      · have := hrdw k (.inr hk)
        rcases e with e | e | e
        · exact o2 k hk e
        · omega
        · omega
    · intro pre x W hA hN
      rw [hJ] at hA
      obtain ⟨hi, hl, hd, nl, nd⟩ := hA
      have hlt : w.heap.size + 1 < W.heap.size := (Array.getElem?_eq_some_iff.1 hl).1
      have hl' := hl
      rw [hR] at hl'
      refine ⟨fn, _, assign, body, run_yield (P := P) (args := encs x) hl' (hps x), roundIn_of_wpIn hfn (hassign _ x W _ ⟨_, run_beginRound hl' rfl, ?_⟩)⟩
      -- the record is busy while the body runs
      obtain ⟨W2, hW2⟩ : ∃ W2, W.putObj (w.heap.size + 1) (R .busy none) = W2 := ⟨_, rfl⟩
      have hW2' := hW2
      rw [hR] at hW2'
      simp only at hW2' ⊢
      rw [hW2']
      have kp2 : Kept (fun k => k = w.heap.size + 1) W W2 := by rw [← hW2]; exact Kept.putObj _ _ _
      have hl2 : W2.heap[w.heap.size + 1]? = some (R .busy none) := by rw [← hW2]; exact World.putObj_heap_same hlt
      have hd2 : W2.heap[w.heap.size]? = some (.deferred (some [])) := by rw [← hW2]; exact (World.putObj_heap_other (by omega)).trans hd
      obtain ⟨hi2, hp2, hw2⟩ := hst.go _ _ _ hi (kp2.mono (fun k _ e => by subst e; exact nl))
      have nl2 : ¬ Pr W2 (w.heap.size + 1) := fun e => nl (hp2 _ e)
      have nd2 : ¬ Pr W2 w.heap.size := fun e => nd (hp2 _ e)
      have nwl : ¬ Wr W2 (w.heap.size + 1) := fun e => nl2 (hst.sub _ _ _ hi2 e)
      have nwd : ¬ Wr W2 w.heap.size := fun e => nd2 (hst.sub _ _ _ hi2 e)
      refine wpIn_mono (hbody _ pre x W2 hi2 hN) ?_
      -- the round's end
      have fin : ∀ (jump : Option Code) (W3 : World), Kept (Wr W2) W2 W3 → W3.heap[w.heap.size + 1]? = some (R .busy none) ∧ W3.heap[w.heap.size]? = some (.deferred (some [])) ∧
          (Instr.endRound (w.heap.size + 1) jump).run P W3 = .ok (.bool jump.isNone) (W3.putObj (w.heap.size + 1) (R (if jump.isNone then .ready else .done) jump)) := fun jump W3 hk3 => by
        have h3 := (hk3.block _ (Array.getElem?_eq_some_iff.1 hl2).1 nwl).trans hl2
        refine ⟨h3, (hk3.block _ (Array.getElem?_eq_some_iff.1 hd2).1 nwd).trans hd2, ?_⟩
        rw [hR] at h3 ⊢
        exact run_endRound (P := P) jump h3
      have stopped : ∀ (c : Code) (W3 : World), Kept (Wr W2) W2 W3 → Ix c (pre ++ [x]) W3 → Jx (pre ++ [x]) (W3.putObj (w.heap.size + 1) (R .done (some c))) := fun c W3 hk3 hx3 => by
        obtain ⟨h3, hd3, _⟩ := fin (some c) W3 hk3
        rw [hJx]
        refine ⟨c, hIx _ _ _ _ _ _ (by omega) h3 (by rw [hR]; rfl) hx3, World.putObj_heap_same (Array.getElem?_eq_some_iff.1 h3).1, (World.putObj_heap_other (by omega)).trans hd3⟩
      have kstop : ∀ (o : Obj) (W3 : World), Kept (Wr W2) W2 W3 → Kept (fun k => Wr W k ∨ k = w.heap.size + 1) W (W3.putObj (w.heap.size + 1) o) := fun o W3 hk3 =>
        (((kp2.mono (S' := fun k => Wr W k ∨ k = w.heap.size + 1) (fun k _ e => .inr e)).trans hk3 (fun k _ e => .inl (hw2 k e)))).trans (Kept.putObj W3 (w.heap.size + 1) o) (fun k _ e => .inr e)
      rintro e a3 W3 hp
      cases e with
      | normal =>
        obtain ⟨⟨hk3, hpr3⟩, hi3⟩ := hp
        obtain ⟨h3, hd3, hr⟩ := fin none W3 hk3
        have nl3 : ¬ Pr W3 (w.heap.size + 1) := fun e => nl2 (hpr3 _ (Array.getElem?_eq_some_iff.1 hl2).1 e)
        have nd3 : ¬ Pr W3 w.heap.size := fun e => nd2 (hpr3 _ (Array.getElem?_eq_some_iff.1 hd2).1 e)
        have kp4 : Kept (fun k => k = w.heap.size + 1) W3 (W3.putObj (w.heap.size + 1) (R .ready none)) := Kept.putObj _ _ _
        obtain ⟨hi4, hp4, hw4⟩ := hst.go _ _ _ hi3 (kp4.mono (fun k _ e => by subst e; exact nl3))
        refine ⟨_, _, hr, .inl ⟨rfl, ?_, ?_, ?_⟩⟩
        · rw [hJ]
          exact ⟨hi4, World.putObj_heap_same (Array.getElem?_eq_some_iff.1 h3).1, (World.putObj_heap_other (by omega)).trans hd3, fun e => nl3 (hp4 _ e), fun e => nd3 (hp4 _ e)⟩
        · have t1 : Kept (fun k => Wr W k ∨ k = w.heap.size + 1) W W3 := (kp2.mono (S' := fun k => Wr W k ∨ k = w.heap.size + 1) (fun k _ e => .inr e)).trans hk3 (fun k _ e => .inl (hw2 k e))
          exact t1.trans kp4 (fun k _ e => .inr e)
        · rintro k hk (e | e | e)
          · exact .inl (hp2 _ (hpr3 k (by have := kp2.size; omega) (hp4 k e)))
          · exact .inr (.inl e)
          · exact .inr (.inr e)
      | ret =>
        obtain ⟨hk3, hx3⟩ := hp
        obtain ⟨_, _, hr⟩ := fin (some .ret) W3 hk3
        exact ⟨_, _, hr, .inr ⟨rfl, stopped _ _ hk3 hx3, kstop _ _ hk3⟩⟩
      | exit id =>
        obtain ⟨hk3, hx3⟩ := hp
        obtain ⟨_, _, hr⟩ := fin (some (.exit id)) W3 hk3
        exact ⟨_, _, hr, .inr ⟨rfl, stopped _ _ hk3 hx3, kstop _ _ hk3⟩⟩
      | goto t => exact hp.elim
      | panic ch => exact hp.elim
      | outgrown => exact hp.elim
    · intro pre A r ob o' hr hob hoc hx
      rw [hJx] at hx ⊢
      obtain ⟨c, hx, hl, hd⟩ := hx
      have hs1 : W1.heap.size = w.heap.size + 2 := by rw [← hW1]; simp
      exact ⟨c, hIx _ _ _ _ _ _ (by omega) hob hoc hx, (World.putObj_heap_other (by omega)).trans hl, (World.putObj_heap_other (by omega)).trans hd⟩
    · -- behind the iterator
      rintro e W2 ⟨⟨v, rfl⟩, (⟨xs, hS, hA⟩ | ⟨pre, hSp, hA⟩)⟩
      · rw [hJ] at hA
        obtain ⟨hi, hl, hd, nl, nd⟩ := hA
        have kp : Kept (fun k => k = w.heap.size + 1) W2 (W2.putObj (w.heap.size + 1) (R .exhausted none)) := Kept.putObj _ _ _
        obtain ⟨hi', _, _⟩ := hst.go _ _ _ hi (kp.mono (fun k _ e => by subst e; exact nl))
        refine ⟨none, W2.putObj (w.heap.size + 1) (R .exhausted none), ?_, hdone _ xs _ (Nat.le_refl _) hS hi' ((World.putObj_heap_other (by omega)).trans hd)⟩
        rw [hR] at hl ⊢
        exact run_endLoop (P := P) hl (by simp)
      · rw [hJx] at hA
        obtain ⟨c, hx, hl, hd⟩ := hA
        refine ⟨some c, W2.putObj (w.heap.size + 1) (R .exhausted (some c)), ?_, hstop _ c pre _ (Nat.le_refl _) hSp (hIx _ _ _ _ _ _ (by omega) hl (by rw [hR]; rfl) hx) ((World.putObj_heap_other (by omega)).trans hd)⟩
        rw [hR] at hl ⊢
        exact run_endLoop (P := P) hl (by simp)
end
end Go.Proofs.Ytogobpnbkmdnfaa
