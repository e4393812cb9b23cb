/-
  WHAT IS PROVED HERE: an append of one element to a row of one's own in a fenced walk; the contract of pelotonlaw12's list over idle's iterator. Conditions: the table math/bits.deBruijn64tab lies as its initialiser lays it; the second number is 1 or more.
-/
import Derived.Test.YtkilghhknimolaaDoorIdleD
import Derived.Test.YtkilghhknimolaaDoorRow
import Derived.Maps.OwnIn
namespace Go.Proofs.YtkilghhknimolaaDoor
open Go.RowKit Go.Shelf
attribute [local go_sem] Oper.semAt_some

theorem wpListIn_append_row {F : Fence} {nF : Nat} {P : Program} (w : World) {ops : Array Oper} {rest : List Oper} {o : Oper} {a : Act} {Q : Exit → Act → World → Prop} (hgd : o.guard = none) (s x : Operand) (t : TypeId)
    (ho : o.op = .call { callee := .builtin .append, args := #[s, x], argTypes := #[t, t] })
    (e : TypeId) (i : TypeInfo) (z : Value) (bytes : Nat) (ht : P.underlying t = some (.slice e)) (hi : P.info? e = some i) (hz : i.zero = some z)
    (hsize : i.size = 1) (hby : i.bytes = bytes) (hzs : z.cells.size = 1)
    (g cap n : Nat) (cs : List Value) (hs : a.eval s = .slice (some ⟨g, 0, none⟩) n cap) (hn : n = cs.length) (hrow : Rw w g cap e cs)
    (b : Nat) (u : Value) (hx : a.eval x = .slice (some ⟨b, 0, none⟩) 1 1) (hb : w.cell? ⟨b, 0, none⟩ = some u) (h1 : u.oneCell' = true)
    (hbytes : cs.length + 1 ≤ 1000000) (hb16 : bytes ≤ 1000)
    (hK : ∀ g' cap' w', Rw w' g' cap' e (cs ++ [u]) → Kept (fun k => k = g) w w' → (g' = g ∨ g' = w.heap.size) → g' < w'.heap.size → wpListIn F nF P ops Q rest (a.put o.dst (.slice (some ⟨g', 0, none⟩) (n + 1) cap')) w') : wpListIn F nF P ops Q (o :: rest) a w := by
  subst hn
  have hbb : (cs.length + 1) * bytes ≤ 140737488355328 := Nat.le_trans (Nat.mul_le_mul hbytes hb16) (by omega)
  refine wpListIn_append_own_at (F := F) (nF := nF) (P := P) (w := w) hgd s x t ho 0 e i z 1 bytes ht hi hz hsize hby hzs (by omega) (.slice (some ⟨g, 0, none⟩) cs.length cap) cs.length cs hs hrow.own ⟨b, 0, none⟩ 1 1 [u] hx rfl ?_ ?_ (by unfold maxLen; omega) hbb (Nat.zero_le _) ?_
  · intro j u' hu
    have hj : j = 0 := by have := (List.getElem?_eq_some_iff.1 hu).1; simpa using this
    subst hj
    simp at hu
    subst hu
    simpa [Addr.add] using hb
  · intro v hv
    simp at hv
    subst hv
    exact h1
  · intro v' w' hown hgrow _ hwhere
    obtain ⟨g', cap', rfl⟩ := ownsRow_form hown (by omega)
    obtain ⟨hr, _⟩ := Rw.ofOwn hown
    refine hK g' cap' w' hr ((Kept.refl _ w).grown hgrow (fun k e => .inl ?_)) ?_ hr.lt
    · have e' : g = k := by simpa [Value.ownBlock] using e
      exact e'.symm
    · rcases hwhere with e | e
      · left; simpa [Value.ownBlock] using e
      · right; simpa [Value.ownBlock] using e
theorem Rw.putObj {w : World} {g cap : Nat} {t : TypeId} {cs : List Value} (h : Rw w g cap t cs) {l : Nat} {o : Obj} (o' : Obj) (hl : w.heap[l]? = some o) (ho : o.isCells = false) : Rw (w.putObj l o') g cap t cs := by
  obtain ⟨rest, hb, r⟩ := h
  exact ⟨rest, hb.putObj o' hl ho, r⟩
end Go.Proofs.YtkilghhknimolaaDoor
