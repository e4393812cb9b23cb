/-
  WHAT IS PROVED HERE: what CellsPlay keeps in memory: a machine and a reference's machine of one state, in different blocks; and its calls in these words. Conditions: as stated.
-/
import Derived.Test.YtelphbfdibfmoaaPlain
import Derived.Test.YtelphbfdibfmoaaCellsLeavePlain
import Derived.Test.YtelphbfdibfmoaaCellsMayWalk
namespace Go.Proofs.Ytelphbfdibfmoaa
open Go.RowKit

structure PlW (W0 w : World) (mb rb : MB) (st rt : MS) (size workers : Int) : Prop where
  m : MachP w mb st
  r : MachR w rb rt
  ro : rb.ord
  dis : ∀ k, mb.has k → ¬ rb.has k
  fm : mb.from_ (W0.heap.size + 1)
  fr : rb.from_ (W0.heap.size + 1)
  bx : Blk w W0.heap.size 54 [.int .i64 size, .int .i64 workers]
  bel : Below W0.heap.size W0 w
  sz : W0.heap.size + 1 ≤ w.heap.size

section
variable {W0 w : World} {mb rb : MB} {st rt : MS} {size workers : Int}
theorem PlW.drew (h : PlW W0 w mb rb st rt size workers) (n : Nat) : PlW W0 (w.drewN n) mb rb st rt size workers :=
  ⟨h.m.drewN n, h.r.drewN n, h.ro, h.dis, h.fm, h.fr, h.bx.drewN n, below_drewN' h.bel n, h.sz⟩
theorem doesR_size (st : MS) (kind i at_ x y : Int) : (doesR st kind i at_ x y).2.2.size = st.size := by
  rcases doesR_cases st kind i at_ x y with e | ⟨e, _⟩ | ⟨_, _, _, e⟩ | ⟨_, _, _, e⟩ | ⟨_, _, _, e⟩ | ⟨_, _, _, e⟩ | ⟨_, _, _, e⟩ | ⟨_, _, _, e⟩ <;> rw [e] <;> rfl
theorem doesR_steps (st : MS) (kind i at_ x y : Int) : (doesR st kind i at_ x y).2.2.steps.length = st.steps.length := by
  rcases doesR_cases st kind i at_ x y with e | ⟨e, _⟩ | ⟨_, _, _, e⟩ | ⟨_, _, _, e⟩ | ⟨_, _, _, e⟩ | ⟨_, _, _, e⟩ | ⟨_, _, _, e⟩ | ⟨_, _, _, e⟩ <;> rw [e] <;> simp [MS.did, MS.putAt, MS.more]
theorem from_move {mb : MB} {B c : Nat} {w : World} (h : mb.from_ B) (hB : B ≤ w.heap.size) (hc : c = mb.c ∨ w.heap.size ≤ c) : (⟨mb.p, c, mb.s⟩ : MB).from_ B :=
  ⟨h.1, by rcases hc with e | e
           · rw [e]; exact h.2.1
           · show B ≤ c; omega, h.2.2⟩
theorem pl_does (h : PlW W0 w mb rb st rt size workers) (kind i at_ x y : Int) (z0 : 0 ≤ st.size) (z1 : st.size ≤ 1048576) :
    Calls Try.prog 25 #[.pointer (some ⟨mb.p, 0, none⟩), .agg #[.int .i64 kind, .int .i64 i, .int .i64 at_, .int .i64 x, .int .i64 y]] w fun e w' =>
      e = .returned (.tuple #[.int .i64 (doesR st kind i at_ x y).1, .int .i64 (doesR st kind i at_ x y).2.1]) ∧ ∃ c, PlW W0 w' ⟨mb.p, c, mb.s⟩ rb (doesR st kind i at_ x y).2.2 rt size workers := by
  refine (does_any mb st kind i at_ x y w h.m z0 z1).mono ?_
  rintro e w' ⟨rfl, hk, c, hm, hc, _⟩
  refine ⟨rfl, c, hm, h.r.kept hk (fun k h1 h2 => h.dis k h2 h1), h.ro, fun k h1 h2 => ?_, from_move h.fm h.sz hc, h.fr, h.bx.kept hk (fun e => by have := MB.from_has h.fm _ e; omega), h.bel.trans (hk.below h.bel.size (fun k e => by have := MB.from_has h.fm k e; omega)), Nat.le_trans h.sz hk.size⟩
  rcases (show k = mb.p ∨ k = c ∨ k = mb.s from h1) with e | e | e
  · exact h.dis k (.inl e) h2
  · rcases hc with hc | hc
    · exact h.dis k (.inr (.inl (e.trans hc))) h2
    · have := h.r.lt k h2
      omega
  · exact h.dis k (.inr (.inr e)) h2
theorem pl_plain (h : PlW W0 w mb rb st rt size workers) (kind i at_ x y : Int) (z0 : 0 ≤ rt.size) (z1 : rt.size ≤ 1048576) :
    Calls Try.prog 29 #[.pointer (some ⟨rb.p, 0, none⟩), .agg #[.int .i64 kind, .int .i64 i, .int .i64 at_, .int .i64 x, .int .i64 y]] w fun e w' =>
      e = .returned (.tuple #[.int .i64 (doesR rt kind i at_ x y).1, .int .i64 (doesR rt kind i at_ x y).2.1]) ∧ ∃ c, PlW W0 w' mb ⟨rb.p, c, rb.s⟩ st (doesR rt kind i at_ x y).2.2 size workers := by
  refine (plain_any rb rt kind i at_ x y w h.r h.ro z0 z1).mono ?_
  rintro e w' ⟨rfl, hk, c, hr, ho, hc⟩
  refine ⟨rfl, c, h.m.kept hk (fun k h1 h2 => h.dis k h1 h2), hr, ho, fun k h1 h2 => ?_, h.fm, from_move h.fr h.sz hc, h.bx.kept hk (fun e => by have := MB.from_has h.fr _ e; omega), h.bel.trans (hk.below h.bel.size (fun k e => by have := MB.from_has h.fr k e; omega)), Nat.le_trans h.sz hk.size⟩
  rcases (show k = rb.p ∨ k = c ∨ k = rb.s from h2) with e | e | e
  · exact h.dis k h1 (.inl e)
  · rcases hc with hc | hc
    · exact h.dis k h1 (.inr (.inl (e.trans hc)))
    · have := h.m.lt k h1
      omega
  · exact h.dis k h1 (.inr (.inr e))
theorem used_q (mb : MB) (st : MS) (w : World) (n : Nat) (hm : MachP w mb st) :
    Calls Try.prog 22 #[.pointer (some ⟨mb.p, 0, none⟩)] (w.drewN n) fun e w' => e = .returned (.int .i64 st.cells.length) ∧ ∃ m, w' = w.drewN m :=
  Calls.quiet_of_same ((used_any mb st _ (hm.drewN n)).mono fun _ _ h => ⟨h.1, h.2.symm⟩)
theorem rof_quiet (mb : MB) (st : MS) (i v : Int) (w : World) (n : Nat) (hm : MachR w mb st) (hv : st.stepsOf i = v) :
    Calls Try.prog 30 #[.pointer (some ⟨mb.p, 0, none⟩), .int .i64 i] (w.drewN n) fun e w' => e = .returned (.int .i64 v) ∧ ∃ m, w' = w.drewN m := by
  subst hv
  exact Calls.quiet_of_same ((rof_any mb st i _ (hm.drewN n)).mono fun _ _ h => ⟨h.1, h.2.symm⟩)
theorem small_any (size workers : Int) (w : World) :
    Calls Try.prog 27 #[.int .i64 size, .int .i64 workers] w fun e w' => e = .returned (.bool (mayB size workers && decide (size ≤ 64))) ∧ w = w' := by
  cases h : mayB size workers with
  | true =>
    go_enter Try.func27, Try.ntmps27
    go_wp2_with (go_at_call 21; refine (may_any size workers _).mono ?_; rw [h]; rintro e w' ⟨rfl, rfl⟩)
    go_ret
    exact ⟨ret_bool (by simp), rfl⟩
  | false =>
    go_enter Try.func27, Try.ntmps27
    go_wp2_with (go_at_call 21; refine (may_any size workers _).mono ?_; rw [h]; rintro e w' ⟨rfl, rfl⟩)
    go_ret
    exact ⟨ret_bool (by simp), rfl⟩
theorem boxS (w : World) (a b : Int) : ∀ j, (w.alloc (.cells #[.int .i64 a, .int .i64 b] 54)).cell? ⟨w.heap.size, j, none⟩ = [Value.int .i64 a, .int .i64 b][j]? := (Blk.new w 54 [.int .i64 a, .int .i64 b]).cell
end
end Go.Proofs.Ytelphbfdibfmoaa
