/-
  WHAT IS PROVED HERE: a machine with one future (cells 0, 1 and 2): New, Peek, and all calls in the words of its three numbers; the contract of 'awake' of pelotonlaw15. Conditions: the caller may call.
-/
import Derived.Test.YtkdpckoneohjkaaFut
namespace Go.Proofs.Ytkdpckoneohjkaa
open Go.RowKit

/-- A machine of so many callers, whose first three cells (and no others are given away) are a future's. -/
def FSt (nw : Nat) (k v b : Int) (st : MS) : Prop := st.steps.length = nw ∧ st.cells.length = 3 ∧ st.cellOf 0 = k ∧ st.cellOf 1 = v ∧ st.cellOf 2 = b
section
variable {nw : Nat} {k v b : Int} {st : MS}
theorem FSt.caller (h : FSt nw k v b st) {i : Int} (h0 : 0 ≤ i) (h1 : i < nw) : st.isCaller i = true := by
  obtain ⟨h2, _⟩ := h
  simp [MS.isCaller]; omega
theorem FSt.given (h : FSt nw k v b st) {i : Int} (h0 : 0 ≤ i) (h1 : i ≤ 2) : st.isGiven i = true := by
  obtain ⟨_, h2, _⟩ := h
  simp [MS.isGiven]; omega
theorem FSt.did (h : FSt nw k v b st) (i : Int) : FSt nw k v b (st.did i) := ⟨by simp [MS.did, h.1], h.2.1, h.2.2.1, h.2.2.2.1, h.2.2.2.2⟩
theorem FSt.put0 (h : FSt nw k v b st) (x : Int) : FSt nw x v b (st.putAt 0 x) := by
  have g := h.given (i := 0) (by omega) (by omega)
  obtain ⟨h1, h2, h3, h4, h5⟩ := h
  refine ⟨h1, by simp [MS.putAt, h2], cellOf_put_same _ _ _ g, ?_, ?_⟩
  · rw [cellOf_put_other _ _ _ _ (by omega) g]; exact h4
  · rw [cellOf_put_other _ _ _ _ (by omega) g]; exact h5
theorem FSt.put1 (h : FSt nw k v b st) (x : Int) : FSt nw k x b (st.putAt 1 x) := by
  have g := h.given (i := 1) (by omega) (by omega)
  obtain ⟨h1, h2, h3, h4, h5⟩ := h
  refine ⟨h1, by simp [MS.putAt, h2], ?_, cellOf_put_same _ _ _ g, ?_⟩
  · rw [cellOf_put_other _ _ _ _ (by omega) g]; exact h3
  · rw [cellOf_put_other _ _ _ _ (by omega) g]; exact h5
theorem FSt.put2 (h : FSt nw k v b st) (x : Int) : FSt nw k v x (st.putAt 2 x) := by
  have g := h.given (i := 2) (by omega) (by omega)
  obtain ⟨h1, h2, h3, h4, h5⟩ := h
  refine ⟨h1, by simp [MS.putAt, h2], ?_, ?_, cellOf_put_same _ _ _ g⟩
  · rw [cellOf_put_other _ _ _ _ (by omega) g]; exact h3
  · rw [cellOf_put_other _ _ _ _ (by omega) g]; exact h4
end

structure FW (W0 w : World) (mb : MB) (nw : Nat) (k v b : Int) : Prop where
  st : ∃ st, MachP w mb st ∧ FSt nw k v b st
  bel : Below W0.heap.size W0 w
  fm : mb.from_ W0.heap.size

section
variable {W0 w w' : World} {mb : MB} {nw : Nat} {k v b : Int}
theorem FW.below (h : FW W0 w mb nw k v b) (hb : Below w.heap.size w w') : FW W0 w' mb nw k v b := by
  obtain ⟨st, hm, hs⟩ := h.st
  exact ⟨⟨st, hm.kept (Kept.of_below (S := fun _ => False) hb) (fun _ _ f => f), hs⟩, h.bel.trans (hb.mono h.bel.size), h.fm⟩
theorem FW.other (h : FW W0 w mb nw k v b) {S : Nat → Prop} (hk : Kept S w w') (hS : ∀ q, S q → ¬ mb.has q ∧ W0.heap.size ≤ q) : FW W0 w' mb nw k v b := by
  obtain ⟨st, hm, hs⟩ := h.st
  exact ⟨⟨st, hm.kept hk (fun q h1 h2 => (hS q h2).1 h1), hs⟩, h.bel.trans (hk.below h.bel.size (fun q e => (hS q e).2)), h.fm⟩
theorem FW.set (h : FW W0 w mb nw k v b) (g j : Nat) (x : Value) (hg : ¬ mb.has g) (hb : W0.heap.size ≤ g) : FW W0 (w.setCell ⟨g, j, none⟩ x) mb nw k v b :=
  h.other ((Kept.refl (fun q => q = g) w).setCell (p := ⟨g, j, none⟩) (.inl rfl) x) (fun q e => by subst e; exact ⟨hg, hb⟩)
theorem FW.go (h : FW W0 w mb nw k v b) (hk : Kept mb.has w w') {st : MS} {k' v' b' : Int} (hm : MachP w' mb st) (hs : FSt nw k' v' b' st) : FW W0 w' mb nw k' v' b' :=
  ⟨⟨st, hm, hs⟩, h.bel.trans (hk.under h.fm h.bel.size), h.fm⟩
theorem FW.nhas (h : FW W0 w mb nw k v b) {q : Nat} (hq : w.heap.size ≤ q) : ¬ mb.has q := fun e => by
  obtain ⟨st, hm, _⟩ := h.st
  have := hm.lt q e
  omega
end

section
variable {W0 w : World} {mb : MB} {nw : Nat} {k v b : Int}
theorem f_state (h : FW W0 w mb nw k v b) (i : Int) (h0 : 0 ≤ i) (h1 : i < nw) :
    Calls Try.prog 18 #[.agg #[.int .i64 0], .pointer (some ⟨mb.p, 0, none⟩), .int .i64 i] w fun e w' =>
      e = .returned (.tuple #[.int .i64 k, .int .i64 0]) ∧ FW W0 w' mb nw k v b ∧ Kept mb.has w w' := by
  obtain ⟨st, hm, hs⟩ := h.st
  refine (fut_state mb st i k w hm (hs.caller h0 h1) (hs.given (by omega) (by omega)) hs.2.2.1).mono ?_
  rintro e w' ⟨rfl, hm', hk⟩
  exact ⟨rfl, h.go hk hm' (hs.did i), hk⟩
theorem f_value (h : FW W0 w mb nw k v b) (i : Int) (h0 : 0 ≤ i) (h1 : i < nw) :
    Calls Try.prog 19 #[.agg #[.int .i64 0], .pointer (some ⟨mb.p, 0, none⟩), .int .i64 i] w fun e w' =>
      e = .returned (.tuple #[.int .i64 v, .int .i64 0]) ∧ FW W0 w' mb nw k v b ∧ Kept mb.has w w' := by
  obtain ⟨st, hm, hs⟩ := h.st
  refine (fut_value mb st i v w hm (hs.caller h0 h1) (hs.given (by omega) (by omega)) hs.2.2.2.1).mono ?_
  rintro e w' ⟨rfl, hm', hk⟩
  exact ⟨rfl, h.go hk hm' (hs.did i), hk⟩
theorem f_waiters (h : FW W0 w mb nw k v b) (i : Int) (h0 : 0 ≤ i) (h1 : i < nw) :
    Calls Try.prog 21 #[.agg #[.int .i64 0], .pointer (some ⟨mb.p, 0, none⟩), .int .i64 i] w fun e w' =>
      e = .returned (.tuple #[.int .i64 b, .int .i64 0]) ∧ FW W0 w' mb nw k v b ∧ Kept mb.has w w' := by
  obtain ⟨st, hm, hs⟩ := h.st
  refine (fut_waiters mb st i b w hm (hs.caller h0 h1) (hs.given (by omega) (by omega)) hs.2.2.2.2).mono ?_
  rintro e w' ⟨rfl, hm', hk⟩
  exact ⟨rfl, h.go hk hm' (hs.did i), hk⟩
theorem f_put (h : FW W0 w mb nw k v b) (i x : Int) (h0 : 0 ≤ i) (h1 : i < nw) :
    Calls Try.prog 16 #[.agg #[.int .i64 0], .pointer (some ⟨mb.p, 0, none⟩), .int .i64 i, .int .i64 x] w fun e w' =>
      e = .returned (.int .i64 0) ∧ FW W0 w' mb nw k x b ∧ Kept mb.has w w' := by
  obtain ⟨st, hm, hs⟩ := h.st
  refine (fut_put mb st i x w hm (hs.caller h0 h1) (hs.given (by omega) (by omega))).mono ?_
  rintro e w' ⟨rfl, hm', hk⟩
  exact ⟨rfl, h.go hk hm' ((hs.did i).put1 x), hk⟩
theorem f_claim_hit (h : FW W0 w mb nw 0 v b) (i : Int) (h0 : 0 ≤ i) (h1 : i < nw) :
    Calls Try.prog 15 #[.agg #[.int .i64 0], .pointer (some ⟨mb.p, 0, none⟩), .int .i64 i] w fun e w' =>
      e = .returned (.tuple #[.bool true, .int .i64 0]) ∧ FW W0 w' mb nw 1 v b ∧ Kept mb.has w w' := by
  obtain ⟨st, hm, hs⟩ := h.st
  refine (fut_claim_hit mb st i w hm (hs.caller h0 h1) (hs.given (by omega) (by omega)) hs.2.2.1).mono ?_
  rintro e w' ⟨rfl, hm', hk⟩
  exact ⟨rfl, h.go hk hm' ((hs.did i).put0 1), hk⟩
theorem f_claim_miss (h : FW W0 w mb nw k v b) (i : Int) (h0 : 0 ≤ i) (h1 : i < nw) (hk0 : ¬ k = 0) :
    Calls Try.prog 15 #[.agg #[.int .i64 0], .pointer (some ⟨mb.p, 0, none⟩), .int .i64 i] w fun e w' =>
      e = .returned (.tuple #[.bool false, .int .i64 0]) ∧ FW W0 w' mb nw k v b ∧ Kept mb.has w w' := by
  obtain ⟨st, hm, hs⟩ := h.st
  refine (fut_claim_miss mb st i w hm (hs.caller h0 h1) (hs.given (by omega) (by omega)) (fun e => hk0 (hs.2.2.1.symm.trans e))).mono ?_
  rintro e w' ⟨rfl, hm', hk⟩
  exact ⟨rfl, h.go hk hm' (hs.did i), hk⟩
theorem f_end_hit (h : FW W0 w mb nw 1 v b) (i x : Int) (h0 : 0 ≤ i) (h1 : i < nw) (x2 : 2 ≤ x) (x4 : x ≤ 4) :
    Calls Try.prog 17 #[.agg #[.int .i64 0], .pointer (some ⟨mb.p, 0, none⟩), .int .i64 i, .int .i64 x] w fun e w' =>
      e = .returned (.tuple #[.bool true, .int .i64 0]) ∧ FW W0 w' mb nw x v b ∧ Kept mb.has w w' := by
  obtain ⟨st, hm, hs⟩ := h.st
  refine (fut_end_hit mb st i x w hm (hs.caller h0 h1) (hs.given (by omega) (by omega)) hs.2.2.1 x2 x4).mono ?_
  rintro e w' ⟨rfl, hm', hk⟩
  exact ⟨rfl, h.go hk hm' ((hs.did i).put0 x), hk⟩
theorem f_end_miss (h : FW W0 w mb nw k v b) (i x : Int) (h0 : 0 ≤ i) (h1 : i < nw) (x2 : 2 ≤ x) (x4 : x ≤ 4) (hk1 : ¬ k = 1) :
    Calls Try.prog 17 #[.agg #[.int .i64 0], .pointer (some ⟨mb.p, 0, none⟩), .int .i64 i, .int .i64 x] w fun e w' =>
      e = .returned (.tuple #[.bool false, .int .i64 0]) ∧ FW W0 w' mb nw k v b ∧ Kept mb.has w w' := by
  obtain ⟨st, hm, hs⟩ := h.st
  refine (fut_end_miss mb st i x w hm (hs.caller h0 h1) (hs.given (by omega) (by omega)) (fun e => hk1 (hs.2.2.1.symm.trans e)) x2 x4).mono ?_
  rintro e w' ⟨rfl, hm', hk⟩
  exact ⟨rfl, h.go hk hm' (hs.did i), hk⟩
theorem f_wait (h : FW W0 w mb nw k v b) (i b' : Int) (h0 : 0 ≤ i) (h1 : i < nw) (h4 : nw ≤ 5) (hb : wrap64 (b + 2 ^ i.toNat) = b') :
    Calls Try.prog 22 #[.agg #[.int .i64 0], .pointer (some ⟨mb.p, 0, none⟩), .int .i64 i] w fun e w' =>
      e = .returned (.int .i64 0) ∧ FW W0 w' mb nw k v b' ∧ Kept mb.has w w' := by
  obtain ⟨st, hm, hs⟩ := h.st
  refine (fut_wait mb st i b w hm (hs.caller h0 h1) (hs.given (by omega) (by omega)) hs.2.2.2.2 h0 (by omega)).mono ?_
  rintro e w' ⟨rfl, hm', hk⟩
  rw [hb] at hm'
  exact ⟨rfl, h.go hk hm' ((hs.did i).put2 b'), hk⟩
theorem f_leave (h : FW W0 w mb nw k v b) (i b' : Int) (h0 : 0 ≤ i) (h1 : i < nw) (h4 : nw ≤ 5) (hb : wrap64 (b + -2 ^ i.toNat) = b') :
    Calls Try.prog 23 #[.agg #[.int .i64 0], .pointer (some ⟨mb.p, 0, none⟩), .int .i64 i] w fun e w' =>
      e = .returned (.int .i64 0) ∧ FW W0 w' mb nw k v b' ∧ Kept mb.has w w' := by
  obtain ⟨st, hm, hs⟩ := h.st
  refine (fut_leave mb st i b w hm (hs.caller h0 h1) (hs.given (by omega) (by omega)) hs.2.2.2.2 h0 (by omega)).mono ?_
  rintro e w' ⟨rfl, hm', hk⟩
  rw [hb] at hm'
  exact ⟨rfl, h.go hk hm' ((hs.did i).put2 b'), hk⟩
end
end Go.Proofs.Ytkdpckoneohjkaa
