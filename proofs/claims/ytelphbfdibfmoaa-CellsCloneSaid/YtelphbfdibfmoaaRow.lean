/-
  WHAT IS PROVED HERE: plain laws, over any program, of a slice whose array nobody else holds ('Rw'): what it reads, what an append makes of it. Conditions: its elements are one cell each.
-/
import Derived.Test.YtelphbfdibfmoaaApp
namespace Go.Proofs.Ytelphbfdibfmoaa
open Go.RowKit

/-- Block g is a slice's array: cs, and what is left of its room. -/
def Rw (w : World) (g cap : Nat) (t : TypeId) (cs : List Value) : Prop := ∃ rest, Blk w g t (cs ++ rest) ∧ cs.length + rest.length = cap ∧ cap ≤ maxLen
section
variable {w w' : World} {g cap : Nat} {t : TypeId} {cs : List Value}
theorem Rw.lt (h : Rw w g cap t cs) : g < w.heap.size := by
  obtain ⟨rest, hb, _⟩ := h
  exact hb.lt
theorem Rw.room (h : Rw w g cap t cs) : cs.length ≤ cap ∧ cap ≤ maxLen := by
  obtain ⟨rest, hb, h1, h2⟩ := h
  exact ⟨by omega, h2⟩
theorem Rw.cell (h : Rw w g cap t cs) {j : Nat} {v : Value} (hj : cs[j]? = some v) : w.cell? ⟨g, j, none⟩ = some v := by
  obtain ⟨rest, hb, _⟩ := h
  have hl : j < cs.length := (List.getElem?_eq_some_iff.1 hj).1
  rw [hb.cell, List.getElem?_append_left hl, hj]
theorem Rw.frozen (h : Rw w g cap t cs) (j : Nat) : w.frozen? ⟨g, j, none⟩ = false := by
  obtain ⟨rest, hb, _⟩ := h
  exact hb.frozen j
theorem Rw.kept {S : Nat → Prop} (h : Rw w g cap t cs) (hk : Kept S w w') (hn : ¬ S g) : Rw w' g cap t cs := by
  obtain ⟨rest, hb, r⟩ := h
  exact ⟨rest, hb.kept hk hn, r⟩
theorem Rw.below {B : Nat} (h : Rw w g cap t cs) (hk : Below B w w') (hn : g < B) : Rw w' g cap t cs := by
  obtain ⟨rest, hb, r⟩ := h
  exact ⟨rest, hb.below hk hn, r⟩
theorem Rw.alloc (h : Rw w g cap t cs) (o : Obj) : Rw (w.alloc o) g cap t cs := by
  obtain ⟨rest, hb, r⟩ := h
  exact ⟨rest, hb.alloc o, r⟩
theorem Rw.setOther (h : Rw w g cap t cs) {p : Addr} (hp : g ≠ p.block) (u : Value) : Rw (w.setCell p u) g cap t cs := by
  obtain ⟨rest, hb, r⟩ := h
  exact ⟨rest, hb.setOther hp u, r⟩
theorem Rw.set (h : Rw w g cap t cs) (j : Nat) (hj : j < cs.length) (u : Value) : Rw (w.setCell ⟨g, j, none⟩ u) g cap t (cs.set j u) := by
  obtain ⟨rest, hb, r⟩ := h
  refine ⟨rest, ?_, by simpa using r⟩
  have := hb.set j u
  rwa [List.set_append_left j u hj] at this
theorem Rw.grown {row : Option Nat} (h : Rw w g cap t cs) (hg : w.grownBy w' row) (hr : some g ≠ row) : Rw w' g cap t cs := by
  obtain ⟨rest, hb, r⟩ := h
  exact ⟨rest, (hg.block g hb.lt hr).trans hb, r⟩
theorem Rw.of (hb : Blk w g t cs) (hm : cs.length ≤ maxLen) : Rw w g cs.length t cs := ⟨[], by rwa [List.append_nil], rfl, hm⟩
theorem Rw.drew (h : Rw w g cap t cs) : Rw w.drew g cap t cs := h.kept (Kept.refl (fun _ => False) w).drew id
theorem Rw.drewN (h : Rw w g cap t cs) (n : Nat) : Rw (w.drewN n) g cap t cs := h.kept ((Kept.refl (fun _ => False) w).drewN n) id
theorem Rw.own (h : Rw w g cap t cs) : w.ownsRow 0 t 1 (.slice (some ⟨g, 0, none⟩) cs.length cap) cs.length cs := by
  obtain ⟨rest, hb, h1, h2⟩ := h
  exact ⟨by simp, .inr ⟨g, cap, (cs ++ rest).toArray, rfl, Nat.zero_le _, hb, by omega, h2, by simp; omega, by simp⟩⟩
theorem Rw.ofOwn {n : Nat} (h : w.ownsRow 0 t 1 (.slice (some ⟨g, 0, none⟩) n cap) n cs) : Rw w g cap t cs ∧ n = cs.length := by
  obtain ⟨hl, hn | ⟨g', cap', cur, hv, _, hh, hc, hm, hs, ht⟩⟩ := h
  · cases hn.1
  · obtain ⟨rfl, rfl⟩ : g = g' ∧ cap = cap' := by simpa using hv
    have hl' : cs.length = n := by omega
    refine ⟨⟨cur.toList.drop n, ?_, ?_, hm⟩, hl'.symm⟩
    · rw [Nat.mul_one] at ht
      show w.heap[g]? = _
      rw [hh, ← ht, List.take_append_drop]
    · have h3 : cur.toList.length = cur.size := Array.length_toList
      simp only [List.length_drop]; omega
end
/-- An append of one element to a row. -/
theorem wpList_append_row {P : Program} (w : World) {ops : Array Oper} {rest : List Oper} {o : Oper} {a : Act} {Q : Exit → Act → World → Prop} (hgd : o.guard = none) (s x : Operand) (t : TypeId)
    (ho : o.op = .call { callee := .builtin .append, args := #[s, x], argTypes := #[t, t] })
    (e : TypeId) (i : TypeInfo) (z : Value) (bytes : Nat) (ht : P.underlying t = some (.slice e)) (hi : P.info? e = some i) (hz : i.zero = some z)
    (hsize : i.size = 1) (hby : i.bytes = bytes) (hzs : z.cells.size = 1)
    (g cap n : Nat) (cs : List Value) (hs : a.eval s = .slice (some ⟨g, 0, none⟩) n cap) (hn : n = cs.length) (hrow : Rw w g cap e cs)
    (b : Nat) (u : Value) (hx : a.eval x = .slice (some ⟨b, 0, none⟩) 1 1) (hb : w.cell? ⟨b, 0, none⟩ = some u) (h1 : u.oneCell' = true)
    (hbytes : cs.length + 1 ≤ 1000000) (hb16 : bytes ≤ 1000)
    (hK : ∀ g' cap' w', Rw w' g' cap' e (cs ++ [u]) → Kept (fun k => k = g) w w' → (g' = g ∨ g' = w.heap.size) → g' < w'.heap.size → wpList P ops Q rest (a.put o.dst (.slice (some ⟨g', 0, none⟩) (n + 1) cap')) w') : wpList P ops Q (o :: rest) a w := by
  subst hn
  have hbb : (cs.length + 1) * bytes ≤ 140737488355328 := Nat.le_trans (Nat.mul_le_mul hbytes hb16) (by omega)
  refine wpList_append_more w hgd s x t ho 0 e i z 1 bytes ht hi hz hsize hby hzs (by omega) (.slice (some ⟨g, 0, none⟩) cs.length cap) cs.length cs hs hrow.own ⟨b, 0, none⟩ 1 1 [u] hx rfl ?_ ?_ (by omega) (by unfold maxLen; omega) hbb (Nat.zero_le _) ?_
  · intro j u' hu
    have hj : j = 0 := by have := (List.getElem?_eq_some_iff.1 hu).1; simpa using this
    subst hj
    simp at hu
    subst hu
    simpa [Addr.add] using hb
  · intro v hv
    simp at hv
    subst hv
    exact h1
  · intro g' cap' w' hown hgrow hwhere
    obtain ⟨hr, _⟩ := Rw.ofOwn hown
    refine hK g' cap' w' hr ((Kept.refl _ w).grown hgrow (fun k e => .inl ?_)) ?_ hr.lt
    · have e' : g = k := by simpa [Value.ownBlock] using e
      exact e'.symm
    · rcases hwhere with e | e
      · left; simpa [Value.ownBlock] using e
      · exact .inr e
end Go.Proofs.Ytelphbfdibfmoaa
