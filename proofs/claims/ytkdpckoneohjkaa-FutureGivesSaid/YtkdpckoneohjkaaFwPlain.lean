/-
  WHAT IS PROVED HERE: the law of FutureWakes without the program: what is true of the four workers' places, of the kind, of the waiters' bits and of the bits that were seen, kept by each of the rounds' kinds. No program in sight.
-/
import Derived.RowKit
namespace Go.Proofs.Ytkdpckoneohjkaa
open Go.RowKit

theorem fgetD_set {l : List Int} {j : Nat} {v : Int} (h : j < l.length) (i : Nat) : (l.set j v).getD i 0 = if i = j then v else l.getD i 0 := by
  by_cases e : i = j
  · subst e; simp [List.getD, h]
  · simp [List.getD, e, Ne.symm e]

def fbit (nx : List Int) (j : Nat) : Int := if nx.getD j 0 = 0 then 0 else 1
def fbits (nx : List Int) : Int := 2 * fbit nx 1 + 4 * fbit nx 2 + 8 * fbit nx 3
theorem fbit_range (nx : List Int) (j : Nat) : 0 ≤ fbit nx j ∧ fbit nx j ≤ 1 := by unfold fbit; split <;> omega
theorem fbits_range (nx : List Int) : 0 ≤ fbits nx ∧ fbits nx ≤ 14 := by
  unfold fbits
  have := fbit_range nx 1; have := fbit_range nx 2; have := fbit_range nx 3
  omega

structure FwOk (nx : List Int) (k b sn : Int) : Prop where
  len : nx.length = 4
  n0 : (nx.getD 0 0 = 0 ∧ k = 1) ∨ (nx.getD 0 0 = 1 ∧ k = 2) ∨ (nx.getD 0 0 = 2 ∧ k = 2)
  nj : ∀ j, 1 ≤ j → j < 4 → nx.getD j 0 = 0 ∨ nx.getD j 0 = 1 ∨ nx.getD j 0 = 2 ∨ nx.getD j 0 = 3
  hb : b = fbits nx
  sn : nx.getD 0 0 = 2 → ∃ s1 s2 s3 : Int, sn = 2 * s1 + 4 * s2 + 8 * s3 ∧ (s1 = 0 ∨ s1 = 1) ∧ (s2 = 0 ∨ s2 = 1) ∧ (s3 = 0 ∨ s3 = 1) ∧ (nx.getD 1 0 = 2 → s1 = 1) ∧ (nx.getD 2 0 = 2 → s2 = 1) ∧ (nx.getD 3 0 = 2 → s3 = 1)

theorem FwOk.start : FwOk [0, 0, 0, 0] 1 0 0 := by
  refine ⟨rfl, .inl ⟨rfl, rfl⟩, fun j h1 h4 => ?_, rfl, fun h => absurd h (by simp)⟩
  have : j = 1 ∨ j = 2 ∨ j = 3 := by omega
  rcases this with rfl | rfl | rfl <;> simp

section
variable {nx : List Int} {k b sn : Int}
theorem fbit_set0 (hl : nx.length = 4) (v : Int) (j : Nat) (hj : 1 ≤ j) : fbit (nx.set 0 v) j = fbit nx j := by
  have e : (nx.set 0 v).getD j 0 = nx.getD j 0 := by rw [fgetD_set (by omega), if_neg (by omega)]
  unfold fbit; rw [e]
theorem fbits_set0 (hl : nx.length = 4) (v : Int) : fbits (nx.set 0 v) = fbits nx := by
  unfold fbits; rw [fbit_set0 hl _ _ (by omega), fbit_set0 hl _ _ (by omega), fbit_set0 hl _ _ (by omega)]
/-- It is ended. -/
theorem FwOk.ended (h : FwOk nx k b sn) : FwOk (nx.set 0 1) 2 b sn := by
  obtain ⟨hl, h0, hj, hb, hs⟩ := h
  refine ⟨by simpa using hl, .inr (.inl ⟨by rw [fgetD_set (by omega), if_pos rfl], rfl⟩), fun j h1 h4 => ?_, by rw [fbits_set0 hl]; exact hb, fun e => ?_⟩
  · rw [fgetD_set (by omega), if_neg (by omega)]; exact hj j h1 h4
  · rw [fgetD_set (by omega), if_pos rfl] at e; omega
/-- The waiters are read. -/
theorem FwOk.readw (h : FwOk nx k b sn) (h1 : nx.getD 0 0 = 1) : FwOk (nx.set 0 2) k b b := by
  obtain ⟨hl, h0, hj, hb, hs⟩ := h
  have hk : k = 2 := by
    rcases h0 with ⟨a, _⟩ | ⟨_, a⟩ | ⟨_, a⟩
    · rw [h1] at a; exact absurd a (by decide)
    · exact a
    · exact a
  have g : ∀ j, 1 ≤ j → (nx.set 0 2).getD j 0 = nx.getD j 0 := fun j h => by rw [fgetD_set (by omega), if_neg (by omega)]
  refine ⟨by simpa using hl, .inr (.inr ⟨by rw [fgetD_set (by omega), if_pos rfl], hk⟩), fun j h1 h4 => by rw [g j h1]; exact hj j h1 h4, by rw [fbits_set0 hl]; exact hb, fun _ => ⟨fbit nx 1, fbit nx 2, fbit nx 3, hb, ?_, ?_, ?_, ?_, ?_, ?_⟩⟩
  · have := fbit_range nx 1; omega
  · have := fbit_range nx 2; omega
  · have := fbit_range nx 3; omega
  · rw [g 1 (by omega)]; intro e; unfold fbit; rw [e]; rfl
  · rw [g 2 (by omega)]; intro e; unfold fbit; rw [e]; rfl
  · rw [g 3 (by omega)]; intro e; unfold fbit; rw [e]; rfl
/-- A waiter's place changes. -/
theorem FwOk.place (h : FwOk nx k b sn) {j : Nat} (h1 : 1 ≤ j) (h4 : j < 4) (n b' : Int) (hn : n = 0 ∨ n = 1 ∨ n = 2 ∨ n = 3) (h2 : n = 2 → nx.getD 0 0 ≠ 2)
    (hb' : b' = b + 2 ^ j * ((if n = 0 then 0 else 1) - fbit nx j)) : FwOk (nx.set j n) k b' sn := by
  obtain ⟨hl, h0, hj, hb, hs⟩ := h
  have g : ∀ i, (nx.set j n).getD i 0 = if i = j then n else nx.getD i 0 := fun i => fgetD_set (by omega) i
  have g0 : (nx.set j n).getD 0 0 = nx.getD 0 0 := by rw [g, if_neg (by omega)]
  refine ⟨by simpa using hl, by rw [g0]; exact h0, fun i i1 i4 => ?_, ?_, fun e => ?_⟩
  · rw [g]
    by_cases e : i = j
    · rw [if_pos e]; exact hn
    · rw [if_neg e]; exact hj i i1 i4
  · have fb : ∀ i, fbit (nx.set j n) i = if i = j then (if n = 0 then 0 else 1) else fbit nx i := fun i => by
      unfold fbit; rw [g]
      by_cases e : i = j
      · rw [if_pos e, if_pos e]
      · rw [if_neg e, if_neg e]
    unfold fbits at hb ⊢
    rw [fb 1, fb 2, fb 3, hb', hb]
    have : j = 1 ∨ j = 2 ∨ j = 3 := by omega
    rcases this with rfl | rfl | rfl <;> simp <;> split <;> omega
  · rw [g0] at e
    obtain ⟨s1, s2, s3, hsn, r1, r2, r3, e1, e2, e3⟩ := hs e
    have hn2 : n ≠ 2 := fun x => h2 x e
    refine ⟨s1, s2, s3, hsn, r1, r2, r3, ?_, ?_, ?_⟩
    · rw [g]; intro x; split at x
      · exact absurd x hn2
      · exact e1 x
    · rw [g]; intro x; split at x
      · exact absurd x hn2
      · exact e2 x
    · rw [g]; intro x; split at x
      · exact absurd x hn2
      · exact e3 x
theorem FwOk.k_range (h : FwOk nx k b sn) : k = 1 ∨ k = 2 := by have := h.n0; omega
theorem FwOk.b_range (h : FwOk nx k b sn) : 0 ≤ b ∧ b ≤ 14 := by rw [h.hb]; exact fbits_range nx
theorem fbit0 {j : Nat} (e : nx.getD j 0 = 0) : fbit nx j = 0 := by unfold fbit; rw [if_pos e]
theorem fbit1 {j : Nat} (e : ¬ nx.getD j 0 = 0) : fbit nx j = 1 := by unfold fbit; rw [if_neg e]
end
end Go.Proofs.Ytkdpckoneohjkaa
