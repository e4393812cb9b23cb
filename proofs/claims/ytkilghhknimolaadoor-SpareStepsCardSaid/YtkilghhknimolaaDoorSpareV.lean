/-
  WHAT IS PROVED HERE: what the law SpareSteps keeps of its slots, as plain facts; its two steps, the operation's and the reference's, side by side. Conditions: as in the contracts.
-/
import Derived.Test.YtkilghhknimolaaDoorSpareU
import Derived.Test.YtkilghhknimolaaDoorQuietB
namespace Go.Proofs.YtkilghhknimolaaDoor
open Go.RowKit

def refPtr : Option (Nat × Nat) → Value
  | none => .pointer none
  | some (_, x) => .pointer (some ⟨x, 0, none⟩)
def rcells (kd self nx n on mv : Int) : List Value := [.int .i64 kd, .int .i64 self, .int .i64 nx, .int .i64 n, .int .i64 on, .int .i64 mv]
/-- What lies in a slot: an operation and the reference's. -/
structure StD (b m : Nat) (ops : List (Option (Nat × OS))) (refs : List (Option (Nat × Nat))) (xs : List BB) (j o : Nat) (q : OS) (idx x kd : Nat) (sf se nx n on mv : Int) : Prop where
  op : ops[j]? = some (some (o, q))
  ref : refs[j]? = some (some (idx, x))
  at_ : xs[idx]? = some (x, 66, rcells kd se nx n on mv)
  k3 : kd < 3
  rel : RelQ b m kd sf q se nx n on mv
structure StOk (b m : Nat) (ops : List (Option (Nat × OS))) (refs : List (Option (Nat × Nat))) (xs : List BB) : Prop where
  lo : ops.length = 4
  lr : refs.length = 4
  slot : ∀ j, j < 4 → refs[j]? = some none ∨ ∃ o q idx x kd sf self nx n on mv, StD b m ops refs xs j o q idx x kd sf self nx n on mv
  dist : ∀ (j j' i x x' : Nat), j ≠ j' → refs[j]? = some (some (i, x)) → refs[j']? = some (some (i, x')) → False
  lt : ∀ (j i x : Nat), refs[j]? = some (some (i, x)) → i < xs.length
theorem StOk.first (b m : Nat) : StOk b m (List.replicate 4 none) (List.replicate 4 none) [] where
  lo := rfl
  lr := rfl
  slot j hj := .inl (by rw [List.getElem?_replicate, if_pos hj])
  dist j j' i x x' _ e := by
    rw [List.getElem?_replicate] at e
    split at e <;> cases e
  lt j i x e := by
    rw [List.getElem?_replicate] at e
    split at e <;> cases e
theorem StOk.begins {b m : Nat} {ops : List (Option (Nat × OS))} {refs : List (Option (Nat × Nat))} {xs : List BB} (h : StOk b m ops refs xs) {r : Nat} (hr : r < 4) (o x kd : Nat) (hk : kd < 3) (sf : Int) :
    StOk b m (ops.set r (some (o, begQ kd sf))) (refs.set r (some (xs.length, x))) (xs ++ [(x, 66, rcells kd sf 1 0 0 (-1))]) ∧ StD b m (ops.set r (some (o, begQ kd sf))) (refs.set r (some (xs.length, x))) (xs ++ [(x, 66, rcells kd sf 1 0 0 (-1))]) r o (begQ kd sf) xs.length x kd sf sf 1 0 0 (-1) := by
  have hD : StD b m (ops.set r (some (o, begQ kd sf))) (refs.set r (some (xs.length, x))) (xs ++ [(x, 66, rcells kd sf 1 0 0 (-1))]) r o (begQ kd sf) xs.length x kd sf sf 1 0 0 (-1) :=
    ⟨by rw [List.getElem?_set, if_pos rfl, if_pos (by rw [h.lo]; exact hr)], by rw [List.getElem?_set, if_pos rfl, if_pos (by rw [h.lr]; exact hr)], by rw [List.getElem?_append_right (Nat.le_refl _)]; simp, hk, RelQ.beg b m kd hk sf⟩
  refine ⟨⟨by rw [List.length_set, h.lo], by rw [List.length_set, h.lr], fun j hj => ?_, fun j j' i y y' hne e1 e2 => ?_, fun j i y e => ?_⟩, hD⟩
  · by_cases e : r = j
    · subst e
      exact .inr ⟨_, _, _, _, _, _, _, _, _, _, _, hD⟩
    · rcases h.slot j hj with h1 | ⟨o1, q1, idx1, x1, kd1, sf1, se1, nx1, n1, on1, mv1, hd⟩
      · exact .inl (by rw [List.getElem?_set, if_neg e]; exact h1)
      · exact .inr ⟨o1, q1, idx1, x1, kd1, sf1, se1, nx1, n1, on1, mv1, by rw [List.getElem?_set, if_neg e]; exact hd.op, by rw [List.getElem?_set, if_neg e]; exact hd.ref, by rw [List.getElem?_append_left (h.lt _ _ _ hd.ref)]; exact hd.at_, hd.k3, hd.rel⟩
  · rw [List.getElem?_set] at e1 e2
    split at e1
    · split at e1
      · cases e1
        rw [if_neg (by omega)] at e2
        have := h.lt _ _ _ e2
        omega
      · cases e1
    · split at e2
      · split at e2
        · cases e2
          have := h.lt _ _ _ e1
          omega
        · cases e2
      · exact h.dist _ _ _ _ _ hne e1 e2
  · rw [List.getElem?_set] at e
    rw [List.length_append, List.length_singleton]
    split at e
    · split at e
      · cases e; omega
      · cases e
    · have := h.lt _ _ _ e
      omega
theorem StOk.steps {b m : Nat} {ops : List (Option (Nat × OS))} {refs : List (Option (Nat × Nat))} {xs : List BB} (h : StOk b m ops refs xs) {r o : Nat} {q q' : OS} {idx x kd : Nat} {sf self nx n on mv self' nx' n' on' mv' : Int} (hr : r < 4) (hd : StD b m ops refs xs r o q idx x kd sf self nx n on mv) (hR : RelQ b m kd sf q' self' nx' n' on' mv') :
    StOk b m (ops.set r (some (o, q'))) refs (xs.set idx (x, 66, rcells kd self' nx' n' on' mv')) ∧ StD b m (ops.set r (some (o, q'))) refs (xs.set idx (x, 66, rcells kd self' nx' n' on' mv')) r o q' idx x kd sf self' nx' n' on' mv' := by
  have hlt := h.lt _ _ _ hd.ref
  have hD : StD b m (ops.set r (some (o, q'))) refs (xs.set idx (x, 66, rcells kd self' nx' n' on' mv')) r o q' idx x kd sf self' nx' n' on' mv' :=
    ⟨by rw [List.getElem?_set, if_pos rfl, if_pos (by rw [h.lo]; exact hr)], hd.ref, by rw [List.getElem?_set, if_pos rfl, if_pos hlt], hd.k3, hR⟩
  refine ⟨⟨by rw [List.length_set, h.lo], h.lr, fun j hj => ?_, h.dist, fun j i y e => by rw [List.length_set]; exact h.lt _ _ _ e⟩, hD⟩
  by_cases e : r = j
  · subst e
    exact .inr ⟨_, _, _, _, _, _, _, _, _, _, _, hD⟩
  · rcases h.slot j hj with h1 | ⟨o1, q1, idx1, x1, kd1, sf1, se1, nx1, n1, on1, mv1, hd1⟩
    · exact .inl h1
    · refine .inr ⟨o1, q1, idx1, x1, kd1, sf1, se1, nx1, n1, on1, mv1, by rw [List.getElem?_set, if_neg e]; exact hd1.op, hd1.ref, ?_, hd1.k3, hd1.rel⟩
      rw [List.getElem?_set, if_neg (fun e2 => by subst e2; exact h.dist _ _ _ _ _ e hd.ref hd1.ref)]
      exact hd1.at_
theorem RelQ.nx {b m kd : Nat} {sf self nx n on mv : Int} {q : OS} (h : RelQ b m kd sf q self nx n on mv) : (nx == 0) = (q.ph == 0) := by
  rcases h.at_ with ⟨h1, h2⟩ | ⟨_, ⟨h1, h2, _⟩ | ⟨h1, h2, _⟩ | ⟨h1, h2, _⟩⟩
  · rw [h1, h2]; rfl
  · rw [h1]; rcases h2 with h2 | h2 | h2 <;> rw [h2] <;> rfl
  · rw [h1]; rcases h2 with h2 | h2 <;> rw [h2] <;> rfl
  · rw [h1, h2]; rfl
theorem vturn4 {zs : List Int} (h : zs.length = 4) : ∃ a b c d, zs = [a, b, c, d] := by
  match zs, h with
  | [a, b, c, d], _ => exact ⟨a, b, c, d, rfl⟩
/-- Four workers' steps: their sum. -/
structure Sum4 (l : List Int) (d : Int) : Prop where
  len : l.length = 4
  lo : ∀ j, 0 ≤ l.getD j 0
  sum : l.getD 0 0 + l.getD 1 0 + l.getD 2 0 + l.getD 3 0 = d
theorem Sum4.first : Sum4 [0, 0, 0, 1] 1 := ⟨rfl, fun j => by
    match j with
    | 0 | 1 | 2 | 3 => simp
    | j + 4 => simp, rfl⟩
theorem Sum4.dl {l : List Int} {d : Int} (h : Sum4 l d) (hd : d ≤ 1000) (i : Int) (hi : 0 ≤ i ∧ i ≤ 3) : Sum4 (dl l i) (d + 1) := by
  obtain ⟨j, rfl⟩ := Int.eq_ofNat_of_zero_le hi.1
  have h0 := h.lo 0
  have h1 := h.lo 1
  have h2 := h.lo 2
  have h3 := h.lo 3
  have hs := h.sum
  obtain ⟨a, b, c, e, rfl⟩ := vturn4 h.len
  simp at h0 h1 h2 h3 hs
  have hj : j = 0 ∨ j = 1 ∨ j = 2 ∨ j = 3 := by omega
  refine ⟨by rw [length_dl]; rfl, fun k => ?_, ?_⟩
  · have hk : k = 0 ∨ k = 1 ∨ k = 2 ∨ k = 3 ∨ 4 ≤ k := by omega
    rcases hj with rfl | rfl | rfl | rfl <;> rcases hk with rfl | rfl | rfl | rfl | hk <;> simp [Go.Proofs.YtkilghhknimolaaDoor.dl, List.getD_eq_getElem?_getD] <;> first | (unfold wrap64; omega) | omega | (rw [List.getElem?_eq_none (by simp; omega)]; simp)
  · rcases hj with rfl | rfl | rfl | rfl <;> simp [Go.Proofs.YtkilghhknimolaaDoor.dl] <;> (unfold wrap64; omega)
end Go.Proofs.YtkilghhknimolaaDoor
