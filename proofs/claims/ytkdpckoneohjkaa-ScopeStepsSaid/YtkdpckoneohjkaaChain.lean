/-
  WHAT IS PROVED HERE: plain facts of lists of scopes that are a tree ('WfS'): the scopes around a scope ('outs'), what stays as scopes are opened. Conditions: none beyond what each theorem names.
-/
import Derived.Test.YtkdpckoneohjkaaOut
import Derived.Test.YtkdpckoneohjkaaTreeG
namespace Go.Proofs.Ytkdpckoneohjkaa
open Go.RowKit

/-- The scope, and those around it. -/
def outs (l : List Sc) (s : Int) : List Int :=
  if _h : 0 ≤ s then
    match l[s.toNat]? with
    | some n => if _h' : n.par < s then s :: outs l n.par else []
    | none => []
  else []
  termination_by (s + 1).toNat
  decreasing_by omega

/-- Scopes that are a tree. -/
structure WfS (l : List Sc) : Prop where
  pos : 0 < l.length
  zero : ∀ n, l[0]? = some n → n.par = -1 ∧ n.nest = 0
  up : ∀ (s : Nat) n, l[s]? = some n → 0 < s → ∃ (q : Nat) (m : Sc), n.par = (q : Int) ∧ q < s ∧ l[q]? = some m ∧ n.nest = m.nest + 1
  deep : ∀ (s : Nat) n, l[s]? = some n → 0 ≤ n.nest ∧ n.nest ≤ 32

section
variable {l : List Sc} {s : Nat} {n : Sc}
theorem WfS.par_lt (h : WfS l) (hn : l[s]? = some n) : n.par < s := by
  by_cases e : s = 0
  · subst e; have := (h.zero n hn).1; omega
  · obtain ⟨q, m, h1, h2, _⟩ := h.up s n hn (by omega)
    omega
theorem WfS.par_ge (h : WfS l) (hn : l[s]? = some n) : -1 ≤ n.par := by
  by_cases e : s = 0
  · subst e; have := (h.zero n hn).1; omega
  · obtain ⟨q, m, h1, h2, _⟩ := h.up s n hn (by omega)
    omega
theorem WfS.par0 (h : WfS l) (hn : l[s]? = some n) : s ≠ 0 ↔ 0 ≤ n.par := by
  by_cases e : s = 0
  · subst e; have := (h.zero n hn).1; omega
  · obtain ⟨q, m, h1, h2, _⟩ := h.up s n hn (by omega)
    omega
theorem outs_neg {s : Int} (hs : s < 0) : outs l s = [] := by
  unfold outs; rw [dif_neg (by omega)]
theorem WfS.outs_eq (h : WfS l) (hn : l[s]? = some n) : outs l s = (s : Int) :: outs l n.par := by
  have hp := h.par_lt hn
  rw [outs, dif_pos (by omega)]
  simp only [Int.toNat_natCast, hn]
  rw [dif_pos hp]
theorem WfS.outs_zero (h : WfS l) : outs l 0 = [0] := by
  have h0 := h.pos
  obtain ⟨n, hn⟩ : ∃ n, l[0]? = some n := ⟨l[0], by simp [h0]⟩
  have := h.outs_eq hn
  rw [(h.zero n hn).1, outs_neg (show (-1 : Int) < 0 by omega)] at this
  exact this
theorem get_scN' (hn : l[s]? = some n) : (scN l)[s]? = some ⟨n.par, n.nest, 2 * (s : Int)⟩ := by
  simp [scN, hn]
theorem WfS.isOut (h : WfS l) : ∀ (k s : Nat) (n : Sc), s < k → l[s]? = some n → isOut (scN l) s (outs l s) := by
  intro k
  induction k with
  | zero => intro s n hs; omega
  | succ k ih =>
    intro s n hs hn
    rw [h.outs_eq hn]
    refine ⟨by omega, rfl, _, by rw [Int.toNat_natCast]; exact get_scN' hn, h.par_lt hn, ?_⟩
    show Go.Proofs.Ytkdpckoneohjkaa.isOut (scN l) n.par _
    by_cases e : s = 0
    · subst e
      rw [(h.zero n hn).1, outs_neg (by omega)]
      show (-1 : Int) < 0
      omega
    · obtain ⟨q, m, h1, h2, h3, _⟩ := h.up s n hn (by omega)
      rw [h1]
      exact ih q m (by omega) h3
theorem WfS.out (h : WfS l) (hn : l[s]? = some n) : Go.Proofs.Ytkdpckoneohjkaa.isOut (scN l) s (outs l s) := h.isOut (s + 1) s n (by omega) hn
theorem WfS.outs_length (h : WfS l) : ∀ (k s : Nat) (n : Sc), s < k → l[s]? = some n → ((outs l s).length : Int) = n.nest + 1 := by
  intro k
  induction k with
  | zero => intro s n hs; omega
  | succ k ih =>
    intro s n hs hn
    rw [h.outs_eq hn, List.length_cons]
    by_cases e : s = 0
    · subst e
      rw [(h.zero n hn).1, (h.zero n hn).2, outs_neg (by omega)]
      rfl
    · obtain ⟨q, m, h1, h2, h3, h4⟩ := h.up s n hn (by omega)
      have := ih q m (by omega) h3
      rw [h1, h4]
      omega
theorem WfS.outs_mem (h : WfS l) : ∀ (k s : Nat) (n : Sc), s < k → l[s]? = some n → ∀ x ∈ outs l s, 0 ≤ x ∧ x ≤ s := by
  intro k
  induction k with
  | zero => intro s n hs; omega
  | succ k ih =>
    intro s n hs hn x hx
    rw [h.outs_eq hn, List.mem_cons] at hx
    rcases hx with rfl | hx
    · omega
    · by_cases e : s = 0
      · subst e
        rw [(h.zero n hn).1, outs_neg (by omega)] at hx
        simp at hx
      · obtain ⟨q, m, h1, h2, h3, h4⟩ := h.up s n hn (by omega)
        rw [h1] at hx
        have := ih q m (by omega) h3 x hx
        omega
theorem WfS.outs_0 (h : WfS l) : ∀ (k s : Nat) (n : Sc), s < k → l[s]? = some n → 0 ∈ outs l s := by
  intro k
  induction k with
  | zero => intro s n hs; omega
  | succ k ih =>
    intro s n hs hn
    rw [h.outs_eq hn, List.mem_cons]
    by_cases e : s = 0
    · left; omega
    · obtain ⟨q, m, h1, h2, h3, h4⟩ := h.up s n hn (by omega)
      right
      rw [h1]
      exact ih q m (by omega) h3
/-- A scope that is another one in numbers that do not tell of nests. -/
theorem WfS.set (h : WfS l) (hn : l[s]? = some n) (n' : Sc) (h1 : n'.par = n.par) (h2 : n'.nest = n.nest) : WfS (l.set s n') := by
  have hs := sc_lt hn
  have key : ∀ (q : Nat) m, (l.set s n')[q]? = some m → ∃ m', l[q]? = some m' ∧ m.par = m'.par ∧ m.nest = m'.nest := by
    intro q m hm
    by_cases e : s = q
    · subst e
      rw [List.getElem?_set_self hs] at hm
      obtain rfl := Option.some.inj hm
      exact ⟨n, hn, h1, h2⟩
    · rw [List.getElem?_set_ne e] at hm
      exact ⟨m, hm, rfl, rfl⟩
  have key2 : ∀ (q : Nat) m, l[q]? = some m → ∃ m', (l.set s n')[q]? = some m' ∧ m'.nest = m.nest := by
    intro q m hm
    by_cases e : s = q
    · subst e
      rw [hn] at hm
      obtain rfl := Option.some.inj hm
      exact ⟨n', by rw [List.getElem?_set_self hs], h2⟩
    · exact ⟨m, by rw [List.getElem?_set_ne e]; exact hm, rfl⟩
  refine ⟨by rw [List.length_set]; exact h.pos, ?_, ?_, ?_⟩
  · intro m hm
    obtain ⟨m', e1, e2, e3⟩ := key 0 m hm
    rw [e2, e3]
    exact h.zero m' e1
  · intro q m hm h0
    obtain ⟨m', e1, e2, e3⟩ := key q m hm
    obtain ⟨q', m2, a, b, c, d⟩ := h.up q m' e1 h0
    obtain ⟨m3, f1, f2⟩ := key2 q' m2 c
    exact ⟨q', m3, by rw [e2, a], b, f1, by rw [e3, d, f2]⟩
  · intro q m hm
    obtain ⟨m', e1, e2, e3⟩ := key q m hm
    rw [e3]
    exact h.deep q m' e1
theorem WfS.one : WfS [⟨-1, 0, 0, 0⟩] := by
  refine ⟨by simp, ?_, ?_, ?_⟩
  · intro n hn; simp at hn; subst hn; exact ⟨rfl, rfl⟩
  · intro s n hn h0
    have := sc_lt hn
    simp at this
    omega
  · intro s n hn
    have := sc_lt hn
    simp at this
    subst this
    simp at hn; subst hn; simp
theorem WfS.add (h : WfS l) (hn : l[s]? = some n) (hd : n.nest < 32) (a b : Int) : WfS (l ++ [⟨s, n.nest + 1, a, b⟩]) := by
  have hs := sc_lt hn
  have key : ∀ (q : Nat) m, (l ++ [⟨s, n.nest + 1, a, b⟩])[q]? = some m → l[q]? = some m ∨ (q = l.length ∧ m = ⟨s, n.nest + 1, a, b⟩) := by
    intro q m hm
    have := sc_lt hm
    rw [List.length_append, List.length_singleton] at this
    by_cases e : q < l.length
    · rw [List.getElem?_append_left e] at hm; exact .inl hm
    · have e' : q = l.length := by omega
      subst e'
      simp at hm
      exact .inr ⟨rfl, hm.symm⟩
  have key2 : ∀ (q : Nat) m, l[q]? = some m → (l ++ [⟨s, n.nest + 1, a, b⟩])[q]? = some m := by
    intro q m hm
    rw [List.getElem?_append_left (sc_lt hm)]; exact hm
  refine ⟨by simp, ?_, ?_, ?_⟩
  · intro m hm
    rcases key 0 m hm with e | ⟨e, _⟩
    · exact h.zero m e
    · have := h.pos; omega
  · intro q m hm h0
    rcases key q m hm with e | ⟨rfl, rfl⟩
    · obtain ⟨q', m2, a', b', c', d'⟩ := h.up q m e h0
      exact ⟨q', m2, a', b', key2 _ _ c', d'⟩
    · exact ⟨s, n, rfl, hs, key2 _ _ hn, rfl⟩
  · intro q m hm
    rcases key q m hm with e | ⟨rfl, rfl⟩
    · exact h.deep q m e
    · have := h.deep s n hn
      exact ⟨by show 0 ≤ n.nest + 1; omega, by show n.nest + 1 ≤ 32; omega⟩
theorem outs_set (h : WfS l) (hn : l[s]? = some n) (n' : Sc) (h1 : n'.par = n.par) (h2 : n'.nest = n.nest) : ∀ (k q : Nat) (m : Sc), q < k → l[q]? = some m → outs (l.set s n') q = outs l q := by
  have hw := h.set hn n' h1 h2
  intro k
  induction k with
  | zero => intro q m hq; omega
  | succ k ih =>
    intro q m hq hm
    have hs := sc_lt hn
    obtain ⟨m', e1, e2⟩ : ∃ m', (l.set s n')[q]? = some m' ∧ m'.par = m.par := by
      by_cases e : s = q
      · subst e
        rw [hn] at hm
        obtain rfl := Option.some.inj hm
        exact ⟨n', by rw [List.getElem?_set_self hs], h1⟩
      · exact ⟨m, by rw [List.getElem?_set_ne e]; exact hm, rfl⟩
    rw [hw.outs_eq e1, h.outs_eq hm, e2]
    by_cases e : q = 0
    · subst e
      rw [(h.zero m hm).1, outs_neg (by omega), outs_neg (by omega)]
    · obtain ⟨q', m2, a, b, c, d⟩ := h.up q m hm (by omega)
      rw [a, ih q' m2 (by omega) c]
end
end Go.Proofs.Ytkdpckoneohjkaa
