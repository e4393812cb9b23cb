/-
  WHAT IS PROVED HERE: what pelotonlaw16.KinGrows keeps in memory: a list of ways, each a list of its own ('WyW'); the tree behind an Add. Conditions: none.
-/
import Derived.Test.YtogobpnbkmdnfaaKinU
namespace Go.Proofs.Ytogobpnbkmdnfaa
open Go.RowKit

theorem info_ints : ∃ i0, Try.prog.info? 22 = some i0 ∧ i0.zero = some (.slice none 0 0) ∧ i0.size = 1 ∧ i0.bytes = 24 := by
  have h : (Try.prog.info? 22).map (fun i => (i.zero, i.size, i.bytes)) = some (some (.slice none 0 0), 1, 24) := by kernel_rfl
  cases hc : Try.prog.info? 22 with
  | none => rw [hc] at h; simp at h
  | some i =>
    rw [hc] at h
    simp at h
    exact ⟨i, rfl, h.1, h.2.1, h.2.2⟩
/-- The first k ways, each in an array of its own; all lie at or above B. -/
structure WyW (w : World) (B : Nat) (l : List Int) (g cap k : Nat) (vs : List Value) : Prop where
  len : vs.length = k
  row : Rw w g cap 22 vs
  at_ : ∀ i, i < k → ∃ A c, vs[i]? = some (.slice A (wayN l i).length c) ∧ Ls w B A c (nI (wayN l i)) ∧ A ≠ some ⟨g, 0, none⟩
  gB : B ≤ g
section
variable {w w' : World} {B : Nat} {l : List Int} {g cap k : Nat} {vs : List Value}
theorem WyW.kept {S : Nat → Prop} (h : WyW w B l g cap k vs) (hk : Kept S w w') (hS : ∀ q, S q → q < B) : WyW w' B l g cap k vs := by
  refine ⟨h.len, h.row.kept hk (fun e => by have := hS _ e; have := h.gB; omega), fun i hi => ?_, h.gB⟩
  obtain ⟨A, c, h1, h2, h3⟩ := h.at_ i hi
  exact ⟨A, c, h1, h2.kept hk (fun q e e2 => by have := hS _ e2; have := h2.at_ q e; omega), h3⟩
theorem WyW.below (h : WyW w B l g cap k vs) (hb : Below w.heap.size w w') : WyW w' B l g cap k vs := by
  refine ⟨h.len, h.row.below hb h.row.lt, fun i hi => ?_, h.gB⟩
  obtain ⟨A, c, h1, h2, h3⟩ := h.at_ i hi
  exact ⟨A, c, h1, h2.below hb (Nat.le_refl _), h3⟩
theorem WyW.nil (w : World) (l : List Int) : WyW (w.alloc (.cells #[] 22)) w.heap.size l w.heap.size 0 0 [] :=
  ⟨rfl, Rw.of (Blk.new w 22 []) (Nat.zero_le _), fun i hi => by omega, Nat.le_refl _⟩
/-- A way more. -/
theorem WyW.next {A : Option Addr} {c g' cap' : Nat} (h : WyW w B l g cap k vs) (hA : Ls w B A c (nI (wayN l k))) (hAg : A ≠ some ⟨g, 0, none⟩) (hr : Rw w' g' cap' 22 (vs ++ [.slice A (wayN l k).length c])) (hk : Kept (fun q => q = g) w w') (hw : g' = g ∨ w.heap.size ≤ g') (hB : B ≤ w.heap.size) :
    WyW w' B l g' cap' (k + 1) (vs ++ [.slice A (wayN l k).length c]) := by
  have hn : ∀ {D : Option Addr} {d : Nat} {xs : List Int}, Ls w B D d xs → D ≠ some ⟨g, 0, none⟩ → Ls w' B D d xs ∧ D ≠ some ⟨g', 0, none⟩ := fun {D d xs} hD hDg => by
    refine ⟨hD.kept hk (fun q e e2 => hDg (e2 ▸ e)), fun e => ?_⟩
    rcases hw with e2 | e2
    · exact hDg (e2 ▸ e)
    · have := hD.lt _ e; omega
  refine ⟨by rw [List.length_append, h.len]; rfl, hr, fun i hi => ?_, ?_⟩
  · by_cases e : i < k
    · obtain ⟨D, d, h1, h2, h3⟩ := h.at_ i e
      exact ⟨D, d, by rw [List.getElem?_append_left (by rw [h.len]; exact e)]; exact h1, hn h2 h3⟩
    · obtain rfl : i = k := by omega
      exact ⟨A, c, by rw [List.getElem?_append_right (by rw [h.len]; exact Nat.le_refl _), h.len, Nat.sub_self]; rfl, hn hA hAg⟩
  · rcases hw with e | e
    · rw [e]; exact h.gB
    · omega
theorem WyW.get (h : WyW w B l g cap k vs) {i : Nat} (hi : i < k) : ∃ A c, w.cell? ⟨g, i, none⟩ = some (.slice A (wayN l i).length c) ∧ Ls w B A c (nI (wayN l i)) := by
  obtain ⟨A, c, h1, h2, _⟩ := h.at_ i hi
  exact ⟨A, c, h.row.cell h1, h2⟩
end
/-- An append of a list to a list of lists, in a walk. -/
theorem wpList_append_wy (w : World) {ops : Array Oper} {rest : List Oper} {o : Oper} {a : Act} {Q : Exit → Act → World → Prop} (hgd : o.guard = none) (s x : Operand)
    (ho : o.op = .call { callee := .builtin .append, args := #[s, x], argTypes := #[49, 49] })
    (g cap n : Nat) (vs : List Value) (hs : a.eval s = .slice (some ⟨g, 0, none⟩) n cap) (hn : n = vs.length) (hrow : Rw w g cap 22 vs)
    (b : Nat) (A : Option Addr) (m c : Nat) (hx : a.eval x = .slice (some ⟨b, 0, none⟩) 1 1) (hb : w.cell? ⟨b, 0, none⟩ = some (.slice A m c)) (few : vs.length + 1 ≤ 1000000)
    (hK : ∀ g' cap' w', Rw w' g' cap' 22 (vs ++ [.slice A m c]) → Kept (fun k => k = g) w w' → (g' = g ∨ g' = w.heap.size) → g' < w'.heap.size → wpList Try.prog ops Q rest (a.put o.dst (.slice (some ⟨g', 0, none⟩) (n + 1) cap')) w') : wpList Try.prog ops Q (o :: rest) a w := by
  obtain ⟨i0, hi, hz0, hz1, hz2⟩ := info_ints
  exact wpList_append_row w hgd s x 49 ho 22 i0 (.slice none 0 0) 24 Try.underlying49 hi hz0 hz1 hz2 rfl g cap n vs hs hn hrow b (.slice A m c) hx hb rfl few (by omega) hK
/-- Add, of a task's number: the tree behind it. -/
theorem kadd_more {w : World} {p : Nat} {own : Nat → Prop} {l : List Int} (hT : KT w p own l) (few : l.length ≤ 1000) (x : Nat) (hx : x < l.length) :
    Calls Try.prog 28 #[.pointer (some ⟨p, 0, none⟩), .int .i64 x] w fun e w' => ∃ own', e = .returned (.tuple #[.int .i64 l.length, .int .i64 0]) ∧ KT w' p own' (l ++ [(x : Int)]) ∧ Kept own w w' := by
  have hc : addC l x = 0 := by
    unfold addC
    rw [if_neg (by intro h; have h2 := inK_nat hx; rw [h2] at h; exact absurd h.2 (by simp)), if_neg (by intro h; omega)]
  have h := kadd_any hT few (x : Int)
  rw [hc, if_pos rfl] at h
  have he : addL l (x : Int) = l ++ [(x : Int)] := by unfold addL; rw [if_pos hc]
  rw [he] at h
  exact h.mono fun e w' ⟨h1, h2, h3⟩ => ⟨_, h1, h2, h3⟩
end Go.Proofs.Ytogobpnbkmdnfaa
