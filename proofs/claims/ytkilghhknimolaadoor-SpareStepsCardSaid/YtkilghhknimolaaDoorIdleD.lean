/-
  WHAT IS PROVED HERE: the contract of idle's Count. Conditions: the table math/bits.deBruijn64tab lies as its initialiser lays it.
-/
import Derived.Test.YtkilghhknimolaaDoorIdleC
namespace Go.Proofs.YtkilghhknimolaaDoor
open Go.RowKit Go.Shelf
attribute [local go_sem] Oper.semAt_some

theorem below_round' {n₀ : Nat} {w A B : World} {S : Nat → Prop} (h : Below n₀ w A) (hk : Kept S A B) (hs : ∀ k, k < n₀ → ¬ S k) (hn : n₀ ≤ A.heap.size) : Below n₀ w B :=
  h.trans (hk.below hn (fun i hi => Nat.le_of_not_lt (fun e => hs i e hi)))
theorem bitsOf_length (x : Nat) : (bitsOf x).length ≤ 64 := by
  unfold bitsOf
  exact Nat.le_trans (List.length_filter_le _ _) (by simp)
set_option maxRecDepth 20000 in
set_option maxHeartbeats 2000000 in
theorem count_ok (z : Int) (w : World) (hT : Tab w) :
    Calls Tryd.prog 20 #[.int .i64 z] w fun e w' => e = .returned (.int .i64 (membersOf z).length) ∧ Below w.heap.size w w' := by
  have hlt := hT.lt
  refine (callsIn_wide (n := 5)).1 ?_
  refine callsIn_of_wp_marks Tryd.func20 rfl trivial ?_ rfl
  simp only [Tryd.ntmps20, List.size_toArray, List.length_cons, List.length_nil, Nat.reduceAdd, Nat.reduceSub, Array.replicate_succ, Array.replicate_zero, List.push_toArray, List.append_toArray, List.nil_append, List.cons_append]
  have b0 : Blk (w.alloc (.cells #[.int .i64 0] 3)) w.heap.size 3 [.int .i64 0] := Blk.new w _ [.int .i64 0]
  have bb : Below w.heap.size w (w.alloc (.cells #[.int .i64 0] 3)) := (Below.refl _ w).alloc (Nat.le_refl _) _
  have hz : (w.alloc (.cells #[.int .i64 0] 3)).heap.size = w.heap.size + 1 := by simp
  gi_wp2_with fail
  refine ⟨trivial, ?_⟩
  refine (callsIn_wide.2 (members_any z _)).mono ?_
  rintro e w2 ⟨rfl, hw2⟩
  rw [hz]
  have hbs : Blk w2 (w.heap.size + 1) 2 [.int .i64 z] := by
    rw [← hw2]
    have := Blk.new (w.alloc (.cells #[.int .i64 0] 3)) 2 [.int .i64 z]
    rwa [hz] at this
  have hb0 : Blk w2 w.heap.size 3 [.int .i64 0] := by rw [← hw2]; exact b0.alloc _
  have bb2 : Below w.heap.size w w2 := by rw [← hw2]; exact bb.alloc (by simp) _
  have hz2 : w2.heap.size = w.heap.size + 2 := by rw [← hw2]; simp
  have hT2 : Tab w2 := hT.below bb2 hlt
  clear hw2 b0 bb hz hT
  gi_wp2_with fail
  refine range_own (gf := 48) (lb := #[.pointer (some ⟨w.heap.size + 1, 0, none⟩)]) rfl (enters_of Tryd.func48 (by kernel_rfl) rfl) (by omega) (members_seq (5 - 1) (by omega) (w.heap.size + 1) z w2 2 hbs hT2) (fun x => rfl)
    (fun _ k => k < w.heap.size ∨ k = w.heap.size) (fun _ k => k = w.heap.size)
    (fun pre W => Blk W w.heap.size 3 [.int .i64 pre.length] ∧ Below w.heap.size w W)
    (fun _ _ _ => False)
    ⟨?_, ?_, ?_⟩ ?_ ?_ ?_ ⟨hb0, bb2⟩
    (fun x => { tmps := #[.int .i64 z, undef, .int .i64 0, .pointer (some ⟨w.heap.size, 0, none⟩), .int .i64 z, .func (.func 48) #[] #[.pointer (some ⟨w.heap.size + 1, 0, none⟩)], .int .i64 x, undef, undef, undef], defers := [] }) ?assign ?body ?done ?stop
  · rintro pre A k ⟨h1, h3⟩ (h | rfl)
    · have := h3.size; omega
    · exact h1.lt
  · rintro pre A k _ rfl
    exact .inr rfl
  · rintro pre A B ⟨h1, h3⟩ hk
    exact ⟨⟨h1.kept hk (fun e => e (.inr rfl)), below_round' h3 hk (fun k e e' => e' (.inl e)) h3.size⟩, fun k e => e, fun k e => e⟩
  · rintro pre A _
    refine ⟨fun k e e' => ?_, fun k e e' => e⟩
    rcases e with e | e <;> omega
  · rintro k ((h | h) | h)
    · omega
    · omega
    · exact h.elim
  · rintro c pre A r ob hr hq h
    exact h.elim
  case assign =>
    intro lp x W K hK
    gi_wp2
    simpa using hK
  case body =>
    rintro lp pre x W ⟨h1, h3⟩ hlen
    have hN : (membersOf z).length ≤ 64 := by unfold membersOf; rw [List.length_map]; exact bitsOf_length _
    have hw : wrap64 ((pre.length : Int) + 1) = (pre.length : Int) + 1 := by unfold wrap64; omega
    have f1 := h1.frozen 0
    have c1 := h1.cell 0
    simp only [List.getElem?_cons_zero] at c1
    gi_wp2
    refine ⟨⟨(Kept.refl (fun k => k = w.heap.size) W).setCell (p := ⟨w.heap.size, 0, none⟩) (.inl rfl) _, fun k _ e => e⟩, ?_, h3.setCell (p := ⟨w.heap.size, 0, none⟩) (by simp) _⟩
    have := h1.set 0 (.int .i64 ((pre.length : Int) + 1))
    rw [List.length_append, List.length_singleton]
    exact this
  case done =>
    rintro D ys W hD rfl ⟨h1, h3⟩ hK
    have c1 := h1.cell 0
    simp only [List.getElem?_cons_zero] at c1
    gi_wp2
    refine ⟨by simp, .inl ⟨_, _, rfl, run_takeDeferred hK, ?_⟩⟩
    refine ⟨.int .i64 (membersOf z).length, ?_, rfl, below_putObj h3 _ (by omega)⟩
    simp [results, Tryd.f20, go_sem]
  case stop =>
    rintro D c pre W hD ht h hK
    exact h.elim
end Go.Proofs.YtkilghhknimolaaDoor
