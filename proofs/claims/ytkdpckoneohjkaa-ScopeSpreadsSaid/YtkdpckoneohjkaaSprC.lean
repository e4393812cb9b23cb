/-
  WHAT IS PROVED HERE: an append of many elements to a row of one's own; and how a worker of the law pelotonlaw14.ScopeSpreads takes up a look. Conditions: none beyond what each theorem names.
-/
import Derived.Test.YtkdpckoneohjkaaSprB
namespace Go.Proofs.Ytkdpckoneohjkaa
open Go.RowKit

/-- An append of a slice's elements to a row. -/
theorem wpList_append_rowN {P : Program} (w : World) {ops : Array Oper} {rest : List Oper} {o : Oper} {a : Act} {Q : Exit → Act → World → Prop} (hgd : o.guard = none) (s x : Operand) (t : TypeId)
    (ho : o.op = .call { callee := .builtin .append, args := #[s, x], argTypes := #[t, t] })
    (e : TypeId) (i : TypeInfo) (z : Value) (bytes : Nat) (ht : P.underlying t = some (.slice e)) (hi : P.info? e = some i) (hz : i.zero = some z)
    (hsize : i.size = 1) (hby : i.bytes = bytes) (hzs : z.cells.size = 1)
    (g cap n : Nat) (cs : List Value) (hs : a.eval s = .slice (some ⟨g, 0, none⟩) n cap) (hn : n = cs.length) (hrow : Rw w g cap e cs)
    (b m c : Nat) (us : List Value) (hx : a.eval x = .slice (some ⟨b, 0, none⟩) m c) (hl : us.length = m) (hb : ∀ (j : Nat) u, us[j]? = some u → w.cell? ⟨b, j, none⟩ = some u) (h1 : ∀ u ∈ us, u.oneCell' = true) (hm : 0 < m)
    (hbytes : cs.length + m ≤ 1000000) (hb16 : bytes ≤ 1000)
    (hK : ∀ g' cap' w', Rw w' g' cap' e (cs ++ us) → Kept (fun k => k = g) w w' → (g' = g ∨ g' = w.heap.size) → g' < w'.heap.size → wpList P ops Q rest (a.put o.dst (.slice (some ⟨g', 0, none⟩) (n + m) cap')) w') : wpList P ops Q (o :: rest) a w := by
  subst hn
  have hbb : (cs.length + m) * bytes ≤ 140737488355328 := Nat.le_trans (Nat.mul_le_mul hbytes hb16) (by omega)
  refine wpList_append_more w hgd s x t ho 0 e i z 1 bytes ht hi hz hsize hby hzs (by omega) (.slice (some ⟨g, 0, none⟩) cs.length cap) cs.length cs hs hrow.own ⟨b, 0, none⟩ m c us hx (by omega) ?_ h1 hm (by unfold maxLen; omega) hbb (Nat.zero_le _) ?_
  · intro j u' hu
    have := hb j u' hu
    rw [add_plain, Nat.zero_add]
    exact this
  · intro g' cap' w' hown hgrow hwhere
    obtain ⟨hr, _⟩ := Rw.ofOwn hown
    refine hK g' cap' w' hr ((Kept.refl _ w).grown hgrow (fun k e => .inl ?_)) ?_ hr.lt
    · have e' : g = k := by simpa [Value.ownBlock] using e
      exact e'.symm
    · rcases hwhere with e | e
      · left; simpa [Value.ownBlock] using e
      · exact .inr e

section
variable {W wr w4 w6 : World} {mb : MB} {t g bi ci N v s b gh ch : Nat} {d : Int} {L : List Sc} {A : List Bool} {ws : List Wr} {r : Wr} {n : Sc}
/-- The worker's new look lies in the arrays. -/
def four (w4 : World) (N v s b : Nat) : World := (((w4.setCell ⟨N + 1, v, none⟩ (.pointer (some ⟨b, 0, none⟩))).setCell ⟨N + 2, v, none⟩ (.bool true)).setCell ⟨N + 3, v, none⟩ (.int .i64 s)).setCell ⟨N + 4, v, none⟩ (.int .i64 0)
theorem four_kept : Kept (fun k => N + 1 ≤ k ∧ k ≤ N + 5) w4 (four w4 N v s b) := by
  unfold four
  exact ((((Kept.refl (fun k => N + 1 ≤ k ∧ k ≤ N + 5) w4).setCell (p := ⟨N + 1, v, none⟩) (.inl ⟨by simp, by simp⟩) _).setCell (p := ⟨N + 2, v, none⟩) (.inl ⟨by simp, by simp⟩) _).setCell (p := ⟨N + 3, v, none⟩) (.inl ⟨by simp, by simp⟩) _).setCell (p := ⟨N + 4, v, none⟩) (.inl ⟨by simp, by simp⟩) _
theorem four_size : (four w4 N v s b).heap.size = w4.heap.size := by simp [four]
theorem SpW.took (h : SpW W wr mb t g bi ci N d L A ws) (hr : ws[v]? = some r) (hx : L[s]? = some n) (hb : wr.heap.size ≤ b) (h4 : Below wr.heap.size wr w4) (hL : Lk w4 b t s false false)
    (hk : Kept (fun k => k = (four w4 N v s b).heap.size) ((four w4 N v s b).alloc (.cells #[] 4)) w6) (hrow : Rw w6 gh ch 4 ([] ++ bls A)) (hg : gh = (four w4 N v s b).heap.size ∨ gh = ((four w4 N v s b).alloc (.cells #[] 4)).heap.size) :
    SpW W (w6.setCell ⟨N + 5, v, none⟩ (.slice (some ⟨gh, 0, none⟩) L.length ch)) mb t g bi ci N d L A (ws.set v ⟨true, .pointer (some ⟨b, 0, none⟩), s, 0, .slice (some ⟨gh, 0, none⟩) L.length ch⟩) := by
  have hN := h.bh.lt
  have h4s := h4.size
  have hb4 := hL.lt
  have z5 : (four w4 N v s b).heap.size = w4.heap.size := four_size
  have hS4 := h.below h4
  have bl : Blk (four w4 N v s b) (N + 1) 61 ((ws.map Wr.lv).set v (.pointer (some ⟨b, 0, none⟩))) := (((hS4.bl.set v (.pointer (some ⟨b, 0, none⟩))).setOther (p := ⟨N + 2, v, none⟩) (by simp) (.bool true)).setOther (p := ⟨N + 3, v, none⟩) (by simp) (.int .i64 s)).setOther (p := ⟨N + 4, v, none⟩) (by simp) (.int .i64 0)
  have bb : Blk (four w4 N v s b) (N + 2) 4 ((bls (ws.map Wr.busy)).set v (.bool true)) := (((hS4.bb.setOther (p := ⟨N + 1, v, none⟩) (by simp) (.pointer (some ⟨b, 0, none⟩))).set v (.bool true)).setOther (p := ⟨N + 3, v, none⟩) (by simp) (.int .i64 s)).setOther (p := ⟨N + 4, v, none⟩) (by simp) (.int .i64 0)
  have bo : Blk (four w4 N v s b) (N + 3) 3 ((ints (ws.map Wr.of)).set v (.int .i64 s)) := (((hS4.bo.setOther (p := ⟨N + 1, v, none⟩) (by simp) (.pointer (some ⟨b, 0, none⟩))).setOther (p := ⟨N + 2, v, none⟩) (by simp) (.bool true)).set v (.int .i64 s)).setOther (p := ⟨N + 4, v, none⟩) (by simp) (.int .i64 0)
  have bs : Blk (four w4 N v s b) (N + 4) 3 ((ints (ws.map Wr.steps)).set v (.int .i64 0)) := (((hS4.bs.setOther (p := ⟨N + 1, v, none⟩) (by simp) (.pointer (some ⟨b, 0, none⟩))).setOther (p := ⟨N + 2, v, none⟩) (by simp) (.bool true)).setOther (p := ⟨N + 3, v, none⟩) (by simp) (.int .i64 s)).set v (.int .i64 0)
  have bh : Blk (four w4 N v s b) (N + 5) 56 (ws.map Wr.hv) := (((hS4.bh.setOther (p := ⟨N + 1, v, none⟩) (by simp) (.pointer (some ⟨b, 0, none⟩))).setOther (p := ⟨N + 2, v, none⟩) (by simp) (.bool true)).setOther (p := ⟨N + 3, v, none⟩) (by simp) (.int .i64 s)).setOther (p := ⟨N + 4, v, none⟩) (by simp) (.int .i64 0)
  have k5 : Kept (fun k => N + 1 ≤ k ∧ k ≤ N + 5) w4 (four w4 N v s b) := four_kept
  have hg4 : wr.heap.size ≤ gh := by
    rcases hg with e | e
    · omega
    · rw [World.size_alloc] at e; omega
  have hL5 : Lk (four w4 N v s b) b t s false false := hL.kept k5 (by omega)
  clear hg
  generalize four w4 N v s b = w5 at *
  have kf : Kept (fun k => k = w5.heap.size) w5 w6 := ((Kept.refl (fun k => k = w5.heap.size) w5).alloc _).trans hk (fun _ _ e => e)
  have k6 : Kept (fun k => k = w5.heap.size ∨ k = N + 5) w5 (w6.setCell ⟨N + 5, v, none⟩ (.slice (some ⟨gh, 0, none⟩) L.length ch)) := (kf.mono (fun k _ e => .inl e)).setCell (p := ⟨N + 5, v, none⟩) (.inl (.inr rfl)) _
  have k7 : Kept (fun k => N + 1 ≤ k ∧ k ≤ N + 5) wr (w6.setCell ⟨N + 5, v, none⟩ (.slice (some ⟨gh, 0, none⟩) L.length ch)) := ((Kept.of_below h4).trans k5 (fun _ _ e => e)).trans k6 (fun k hk e => by rcases e with e | e <;> omega)
  refine h.look hr hx hb k7 ?_ hg4 ?_ rfl ?_ ?_ ?_ ?_ ?_
  · exact hL5.kept k6 (by rintro (e | e) <;> omega)
  · exact hrow.setOther (by show gh ≠ N + 5; omega) _
  · rw [List.map_set]
    exact bl.kept k6 (by rintro (e | e) <;> omega)
  · rw [List.map_set, ← set_bls]
    exact bb.kept k6 (by rintro (e | e) <;> omega)
  · rw [List.map_set, ← set_ints]
    exact bo.kept k6 (by rintro (e | e) <;> omega)
  · rw [List.map_set, ← set_ints]
    exact bs.kept k6 (by rintro (e | e) <;> omega)
  · rw [List.map_set]
    exact (bh.kept kf (by omega)).set v _
/-- The look is at the world, which was not asked: nobody around was ahead of it. -/
theorem LkOk.ends {w : World} {q a o : Nat} {m n : Sc} {H : List Bool} (hK : LkOk w N t L A r q a m gh ch o n H) (hw : WfS L) (has : A[a]? = some false) (h0 : a = 0) : ∀ j : Nat, (j : Int) ∈ outs L o → H[j]? = some false := by
  intro j hj
  subst h0
  by_cases e : j = 0
  · subst e
    have hl : 0 < H.length := by rw [hK.len]; exact sc_lt hK.at_
    cases hc : H[0]? with
    | none => rw [List.getElem?_eq_none_iff] at hc; omega
    | some v =>
      cases v with
      | false => rfl
      | true =>
        have := hK.old 0 hc
        rw [has] at this
        cases this
  · refine hK.past j hj ?_
    have : outs L (0 : Nat) = [0] := hw.outs_zero
    rw [this]
    simp; omega
end
end Go.Proofs.Ytkdpckoneohjkaa
