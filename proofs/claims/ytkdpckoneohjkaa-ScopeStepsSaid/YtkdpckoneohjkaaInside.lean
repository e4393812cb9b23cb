/-
  WHAT IS PROVED HERE: the contract of scope's Inside: whether a scope is among another one and those around it. Conditions: the pointer is a tree's.
-/
import Derived.Test.YtkdpckoneohjkaaOut
import Derived.Test.YtkdpckoneohjkaaTreeE
import Derived.Test.YtkdpckoneohjkaaChain
namespace Go.Proofs.Ytkdpckoneohjkaa
open Go.RowKit Go.Shelf
attribute [local go_sem] Oper.semAt_some

theorem below_round {n₀ : Nat} {w A B : World} {S : Nat → Prop} (h : Below n₀ w A) (hk : Kept S A B) (hs : ∀ k, k < n₀ → ¬ S k) (hn : n₀ ≤ A.heap.size) : Below n₀ w B :=
  ⟨hk.os.trans h.os, hk.tape.trans h.tape, hk.output.trans h.output, Nat.le_trans h.size hk.size, fun k e => (hk.block k (by omega) (hs k e)).trans (h.block k e)⟩

set_option maxRecDepth 20000 in
set_option maxHeartbeats 2000000 in
theorem inside_in (p g : Nat) (l : List Nd) (s o : Int) (xs : List Int) (w : World) (hT : Tr w p g l) (hs : inT l.length s = true) (ho : inT l.length o = true) (hx : isOut l s xs) :
    Calls Try.prog 39 #[.pointer (some ⟨p, 0, none⟩), .int .i64 s, .int .i64 o] w fun e w' => e = .returned (.bool (decide (o ∈ xs))) ∧ Below w.heap.size w w' := by
  refine (callsIn_wide (n := 3)).1 ?_
  refine callsIn_of_wp_marks Try.func39 rfl trivial ?_ rfl
  simp only [Try.ntmps39, List.size_toArray, List.length_cons, List.length_nil, Nat.reduceAdd, Nat.reduceSub, Array.replicate_succ, Array.replicate_zero, List.push_toArray, List.append_toArray, List.nil_append, List.cons_append]
  have b0 : Blk (w.alloc (.cells #[.int .i64 o] 3)) w.heap.size 3 [.int .i64 o] := Blk.new w _ [.int .i64 o]
  have b1 : Blk ((w.alloc (.cells #[.int .i64 o] 3)).alloc (.cells #[.bool false] 4)) (w.heap.size + 1) 4 [.bool false] := by
    have := Blk.new (w.alloc (.cells #[.int .i64 o] 3)) 4 [.bool false]
    rwa [World.size_alloc] at this
  have b2 : Blk (((w.alloc (.cells #[.int .i64 o] 3)).alloc (.cells #[.bool false] 4)).alloc (.cells #[.int .i64 s, .int .i64 o] 3)) (w.heap.size + 1 + 1) 3 (ints [s, o]) := by
    have := Blk.new ((w.alloc (.cells #[.int .i64 o] 3)).alloc (.cells #[.bool false] 4)) 3 [.int .i64 s, .int .i64 o]
    simp only [World.size_alloc] at this
    exact this
  have b0 := (b0.alloc (.cells #[.bool false] 4)).alloc (.cells #[.int .i64 s, .int .i64 o] 3)
  have b1 := b1.alloc (.cells #[.int .i64 s, .int .i64 o] 3)
  have hT1 := ((hT.alloc (.cells #[.int .i64 o] 3)).alloc (.cells #[.bool false] 4)).alloc (.cells #[.int .i64 s, .int .i64 o] 3)
  have bb : Below w.heap.size w (((w.alloc (.cells #[.int .i64 o] 3)).alloc (.cells #[.bool false] 4)).alloc (.cells #[.int .i64 s, .int .i64 o] 3)) := (((Below.refl _ w).alloc (Nat.le_refl _) _).alloc (by simp) _).alloc (by simp; omega) _
  have hz : (((w.alloc (.cells #[.int .i64 o] 3)).alloc (.cells #[.bool false] 4)).alloc (.cells #[.int .i64 s, .int .i64 o] 3)).heap.size = w.heap.size + 3 := by simp
  have hTw := hT.lt
  gi_wp2_with fail
  generalize (((w.alloc (.cells #[.int .i64 o] 3)).alloc (.cells #[.bool false] 4)).alloc (.cells #[.int .i64 s, .int .i64 o] 3)) = W1 at *
  refine ⟨trivial, ?_⟩
  refine (callsIn_wide.2 (has_any p g l [s, o] (w.heap.size + 1 + 1) 3 _ hT1 b2 (by simp))).mono ?_
  rw [show [s, o].all (inT l.length) = true by simp [hs, ho]]
  rintro e w2 ⟨rfl, rfl⟩
  gi_wp2_with fail
  refine ⟨trivial, ?_⟩
  refine (callsIn_wide.2 (out_any p s _)).mono ?_
  rintro e w2 ⟨rfl, hw2⟩
  rw [hz]
  have hb3 : Blk w2 (w.heap.size + 3) 53 [.pointer (some ⟨p, 0, none⟩)] := by
    rw [← hw2]
    have := (Blk.new W1 53 [.pointer (some ⟨p, 0, none⟩)]).alloc (.cells #[.int .i64 s] 3)
    rwa [hz] at this
  have hb4 : Blk w2 (w.heap.size + 3 + 1) 3 [.int .i64 s] := by
    rw [← hw2]
    have := Blk.new (W1.alloc (.cells #[.pointer (some ⟨p, 0, none⟩)] 53)) 3 [.int .i64 s]
    rwa [World.size_alloc, hz] at this
  have k2 : Kept (fun _ => False) W1 w2 := by rw [← hw2]; exact ((Kept.refl _ W1).alloc _).alloc _
  have hb0 := b0.kept k2 id
  have hb1 := b1.kept k2 id
  have hT2 := hT1.kept k2 id id
  have bb2 : Below w.heap.size w w2 := below_round bb k2 (fun _ _ h => h) bb.size
  have hz2 : w2.heap.size = w.heap.size + 5 := by rw [← hw2]; simp [hz]
  clear hw2 k2 b0 b1 b2 hT1 bb hz hT
  gi_wp2_with fail
  have hseq := out1_seq (3 - 1) (by omega) (w.heap.size + 3 + 1) (w.heap.size + 3) p g l s xs w2 3 53 hb4 hb3 hT2 (by omega) (by omega) (by omega) hx
  refine range_own (gf := 67) (lb := #[.pointer (some ⟨w.heap.size + 3 + 1, 0, none⟩), .pointer (some ⟨w.heap.size + 3, 0, none⟩)]) rfl (enters_of Try.func67 (by kernel_rfl) rfl) (by omega) hseq (fun x => rfl)
    (fun _ k => k < w.heap.size ∨ k = w.heap.size ∨ k = w.heap.size + 1) (fun _ k => k = w.heap.size + 1)
    (fun pre W => o ∉ pre ∧ Blk W w.heap.size 3 [.int .i64 o] ∧ Blk W (w.heap.size + 1) 4 [.bool false] ∧ Below w.heap.size w W)
    (fun c pre W => c = .ret ∧ o ∈ pre ∧ Blk W (w.heap.size + 1) 4 [.bool true] ∧ Below w.heap.size w W)
    ⟨?_, ?_, ?_⟩ ?_ ?_ ?_ ⟨by simp, hb0, hb1, bb2⟩
    (fun x => { tmps := #[.pointer (some ⟨p, 0, none⟩), .int .i64 s, .int .i64 o, undef, undef, .pointer (some ⟨w.heap.size, 0, none⟩), .pointer (some ⟨w.heap.size + 1, 0, none⟩), .int .i64 x, .pointer (some ⟨p, 0, none⟩), .int .i64 s, .int .i64 o,
      .slice (some ⟨w.heap.size + 1 + 1, 0, none⟩) 2 2, .bool true, .bool false, .pointer (some ⟨p, 0, none⟩), .int .i64 s, .func (.func 67) #[] #[.pointer (some ⟨w.heap.size + 3 + 1, 0, none⟩), .pointer (some ⟨w.heap.size + 3, 0, none⟩)], .int .i64 x, undef, undef, undef], defers := [] }) ?assign ?body ?done ?stop
  · rintro pre A k ⟨_, h1, h2, h3⟩ (h | rfl | rfl)
    · have := h3.size; omega
    · exact h1.lt
    · exact h2.lt
  · rintro pre A k _ rfl
    exact .inr (.inr rfl)
  · rintro pre A B ⟨h0, h1, h2, h3⟩ hk
    exact ⟨⟨h0, h1.kept hk (fun e => e (.inr (.inl rfl))), h2.kept hk (fun e => e (.inr (.inr rfl))), below_round h3 hk (fun k e e' => e' (.inl e)) h3.size⟩, fun k e => e, fun k e => e⟩
  · rintro pre A _
    refine ⟨fun k e e' => ?_, fun k e e' => ?_⟩
    · rcases e with e | e | e <;> omega
    · rcases e' with e' | e' | e' <;> omega
  · rintro k ((h | h | h) | h)
    · omega
    · have := hT2.lt.1; omega
    · have := hT2.lt.2; omega
    · omega
  · rintro c pre A r ob hr ⟨q, hq⟩ ⟨h1, h2, h3, h4⟩
    exact ⟨h1, h2, h3.putObj ob hq rfl, below_putObj h4 ob (by omega)⟩
  case assign =>
    intro lp x W K hK
    gi_wp2
    exact hK
  case body =>
    rintro lp pre x W ⟨h0, h1, h2, h3⟩ _
    have c0 := h1.cell 0
    have f1 := h2.frozen 0
    have c1 := h2.cell 0
    simp only [List.getElem?_cons_zero] at c0 c1
    by_cases e : x = o
    · subst e
      have hxx : (x == x) = true := by simp
      gi_wp2
      refine ⟨(Kept.refl (fun k => k = w.heap.size + 1) W).setCell (p := ⟨w.heap.size + 1, 0, none⟩) (.inl rfl) _, rfl, by simp, h2.set 0 (.bool true), h3.setCell (p := ⟨w.heap.size + 1, 0, none⟩) (by simp) _⟩
    · have hxx : (x == o) = false := by simp [e]
      gi_wp2
      exact ⟨⟨Kept.refl _ W, fun k _ e => e⟩, by simp [h0]; exact fun e' => e e'.symm, h1, h2, h3⟩
  case done =>
    rintro D ys W hD rfl ⟨h0, h1, h2, h3⟩ hK
    have f1 := h2.frozen 0
    have c1 := h2.cell 0
    simp only [List.getElem?_cons_zero] at c1
    gi_wp2
    have hK' := (KeepsOthers.setCell W ⟨w.heap.size + 1, 0, none⟩ (.bool false)).same D _ hK rfl
    refine ⟨by simp, .inl ⟨_, _, rfl, run_takeDeferred hK', ?_⟩⟩
    have hc5 := cell_kept (World.cell?_setCell_same' W ⟨w.heap.size + 1, 0, none⟩ (.bool false) (by rw [c1]; rfl)) (grownBy_putObj' _ D (.deferred none)) (fun r e => by cases e; exact ⟨_, hK', rfl⟩)
    refine ⟨.bool false, ?_, by rw [decide_eq_false h0], below_putObj (h3.setCell (p := ⟨w.heap.size + 1, 0, none⟩) (by simp) _) _ (by omega)⟩
    simp [results, Try.f39, go_sem, hc5]
  case stop =>
    rintro D c pre W hD ⟨t, ht⟩ ⟨rfl, h0, h2, h3⟩ hK
    have f1 := h2.frozen 0
    have c1 := h2.cell 0
    simp only [List.getElem?_cons_zero] at c1
    gi_wp2
    refine ⟨by simp, .inl ⟨_, _, rfl, run_takeDeferred hK, ?_⟩⟩
    have hc5 := cell_kept c1 (grownBy_putObj' _ D (.deferred none)) (fun r e => by cases e; exact ⟨_, hK, rfl⟩)
    have hin : o ∈ xs := by rw [← ht]; exact List.mem_append_left _ h0
    refine ⟨.bool true, ?_, by rw [decide_eq_true hin], below_putObj h3 _ (by omega)⟩
    simp [results, Try.f39, go_sem, hc5]

set_option maxRecDepth 20000 in
set_option maxHeartbeats 2000000 in
/-- One of the two is no scope, or there is no tree. -/
theorem inside_stop (pv : Option Addr) (s o : Int) (w : World)
    (hhas : ∀ (b : Nat) (W : World), Below w.heap.size w W → Blk W b 3 (ints [s, o]) → Calls Try.prog 61 #[.pointer pv, .slice (some ⟨b, 0, none⟩) 2 2] W fun e w' => e = .returned (.bool false) ∧ W = w') :
    Calls Try.prog 39 #[.pointer pv, .int .i64 s, .int .i64 o] w fun e w' => e = .returned (.bool false) ∧ Below w.heap.size w w' := by
  refine (callsIn_wide (n := 3)).1 ?_
  refine callsIn_of_wp_marks Try.func39 rfl trivial ?_ rfl
  simp only [Try.ntmps39, List.size_toArray, List.length_cons, List.length_nil, Nat.reduceAdd, Nat.reduceSub, Array.replicate_succ, Array.replicate_zero, List.push_toArray, List.append_toArray, List.nil_append, List.cons_append]
  have b1 : Blk ((w.alloc (.cells #[.int .i64 o] 3)).alloc (.cells #[.bool false] 4)) (w.heap.size + 1) 4 [.bool false] := by
    have := Blk.new (w.alloc (.cells #[.int .i64 o] 3)) 4 [.bool false]
    rwa [World.size_alloc] at this
  have b2 : Blk (((w.alloc (.cells #[.int .i64 o] 3)).alloc (.cells #[.bool false] 4)).alloc (.cells #[.int .i64 s, .int .i64 o] 3)) (w.heap.size + 1 + 1) 3 (ints [s, o]) := by
    have := Blk.new ((w.alloc (.cells #[.int .i64 o] 3)).alloc (.cells #[.bool false] 4)) 3 [.int .i64 s, .int .i64 o]
    simp only [World.size_alloc] at this
    exact this
  have b1 := b1.alloc (.cells #[.int .i64 s, .int .i64 o] 3)
  have bb : Below w.heap.size w (((w.alloc (.cells #[.int .i64 o] 3)).alloc (.cells #[.bool false] 4)).alloc (.cells #[.int .i64 s, .int .i64 o] 3)) := (((Below.refl _ w).alloc (Nat.le_refl _) _).alloc (by simp) _).alloc (by simp; omega) _
  have HA := Lib.hid hhas
  clear hhas
  gi_wp2_with fail
  generalize (((w.alloc (.cells #[.int .i64 o] 3)).alloc (.cells #[.bool false] 4)).alloc (.cells #[.int .i64 s, .int .i64 o] 3)) = W1 at *
  refine ⟨trivial, ?_⟩
  refine (callsIn_wide.2 (HA.out (w.heap.size + 1 + 1) W1 bb b2)).mono ?_
  rintro e w2 ⟨rfl, rfl⟩
  have f1 := b1.frozen 0
  have c1 := b1.cell 0
  simp only [List.getElem?_cons_zero] at c1
  gi_wp2
  have hc5 := World.cell?_setCell_same' W1 ⟨w.heap.size + 1, 0, none⟩ (.bool false) (by rw [c1]; rfl)
  refine ⟨.bool false, ?_, rfl, bb.setCell (p := ⟨w.heap.size + 1, 0, none⟩) (by simp) _⟩
  simp [results, Try.f39, go_sem, hc5]

theorem below_of_eq {n : Nat} {w w' : World} (e : w = w') : Below n w w' := by subst e; exact Below.refl _ _
/-- Whether a scope is another one or within it, of any numbers. -/
def insS (l : List Sc) (s o : Int) : Bool := inT l.length s && (inT l.length o && decide (o ∈ outs l s))
section
variable {W0 w : World} {mb : MB} {p g : Nat} {size : Int} {steps : List Int} {l : List Sc}
theorem inT_get {s : Int} (h : inT l.length s = true) : ∃ (k : Nat) (n : Sc), s = k ∧ l[k]? = some n := by
  have h' : 0 ≤ s ∧ s < l.length := by simpa [inT] using h
  obtain ⟨k, rfl⟩ := Int.eq_ofNat_of_zero_le h'.1
  have hk : k < l.length := by omega
  exact ⟨k, l[k], rfl, by simp [hk]⟩
theorem sw_inside (h : SW W0 w mb p g size steps l) (hw : WfS l) (s o : Int) :
    Calls Try.prog 39 #[.pointer (some ⟨p, 0, none⟩), .int .i64 s, .int .i64 o] w fun e w' => e = .returned (.bool (insS l s o)) ∧ Below w.heap.size w w' := by
  have hl : (scN l).length = l.length := length_scN l
  cases hs : inT l.length s with
  | false =>
    rw [show insS l s o = false by simp [insS, hs]]
    refine inside_stop _ s o w (fun b W hb hB => ?_)
    have := has_any p g (scN l) [s, o] b _ W (h.below hb).t hB (by simp)
    rwa [show [s, o].all (inT (scN l).length) = false by simp [hl, hs]] at this
  | true =>
    cases ho : inT l.length o with
    | false =>
      rw [show insS l s o = false by simp [insS, ho]]
      refine inside_stop _ s o w (fun b W hb hB => ?_)
      have := has_any p g (scN l) [s, o] b _ W (h.below hb).t hB (by simp)
      rwa [show [s, o].all (inT (scN l).length) = false by simp [hl, ho]] at this
    | true =>
      rw [show insS l s o = decide (o ∈ outs l s) by simp [insS, hs, ho]]
      obtain ⟨k, n, rfl, hn⟩ := inT_get hs
      exact inside_in p g (scN l) k o (outs l k) w h.t (by rw [hl]; exact hs) (by rw [hl]; exact ho) (hw.out hn)
end
theorem inside_nil (s o : Int) (w : World) :
    Calls Try.prog 39 #[.pointer none, .int .i64 s, .int .i64 o] w fun e w' => e = .returned (.bool false) ∧ Below w.heap.size w w' := by
  refine inside_stop _ s o w (fun b W hb hB => ?_)
  exact has_nil [s, o] b _ W hB (by simp)
end Go.Proofs.Ytkdpckoneohjkaa
