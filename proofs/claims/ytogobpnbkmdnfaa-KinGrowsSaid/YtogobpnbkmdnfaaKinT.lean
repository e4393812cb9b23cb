/-
  WHAT IS PROVED HERE: plain laws of tasks that are told by their parents: where each task stands in the order, that what descends of a task stands side by side behind it, and its kids in order; and what a task more does to the order, to ways, and to who descends of whom. No program in sight. Conditions: the parents are us a tree's.
-/
import Derived.Test.YtogobpnbkmdnfaaKinR
import Derived.Test.YtogobpnbkmdnfaaKinI
namespace Go.Proofs.Ytogobpnbkmdnfaa
open Go.RowKit

section
variable {l : List Int}
/-! ## Where a task stands -/
def posN (l : List Int) (y : Nat) : Nat := (ordN l 0).idxOf y
theorem pos_get (hw : WfP l) {y : Nat} (hy : y < l.length) : (ordN l 0)[posN l y]? = some y ∧ posN l y < l.length := by
  have h0 : 0 < l.length := by omega
  obtain ⟨e, hm⟩ := ordN_root hw h0
  have hi := List.idxOf_lt_length_of_mem ((hm y).2 hy)
  refine ⟨?_, by unfold posN; omega⟩
  unfold posN
  rw [List.getElem?_eq_getElem hi, List.getElem_idxOf]
theorem pos_at (hw : WfP l) (h0 : 0 < l.length) {i y : Nat} (h : (ordN l 0)[i]? = some y) : posN l y = i := by
  have hy : y < l.length := ((ordN_root hw h0).2 y).1 (List.mem_of_getElem? h)
  obtain ⟨h1, h2⟩ := pos_get hw hy
  have hnd := ordN_nodup hw 0 h0
  have hl := (List.getElem?_eq_some_iff.1 h1).1
  exact (List.getElem?_inj hl hnd).1 (h1.trans h.symm)
theorem ordN_infix (hw : WfP l) {x : Nat} : ∀ r, r < l.length → x ∈ ordN l r → ∃ us bs, ordN l r = us ++ ordN l x ++ bs := by
  refine ordN_ind hw (fun r hr ih hx => ?_)
  by_cases e : x = r
  · subst e; exact ⟨[], [], by simp⟩
  · rw [ordN_step hw hr] at hx ⊢
    rcases List.mem_cons.1 hx with h | h
    · exact absurd h e
    · obtain ⟨k, hk, hxk⟩ := List.mem_flatMap.1 h
      obtain ⟨us, bs, e1⟩ := ih k hk hxk
      obtain ⟨k1, k2, e2⟩ := List.append_of_mem hk
      refine ⟨r :: (k1.flatMap (ordN l) ++ us), bs ++ k2.flatMap (ordN l), ?_⟩
      rw [e2, List.flatMap_append, List.flatMap_cons, e1]
      simp
theorem pos_infix (hw : WfP l) {x : Nat} (hx : x < l.length) : ∃ us bs, ordN l 0 = us ++ ordN l x ++ bs ∧ posN l x = us.length := by
  have h0 : 0 < l.length := by omega
  obtain ⟨us, bs, e⟩ := ordN_infix hw 0 h0 (((ordN_root hw h0).2 x).2 hx)
  refine ⟨us, bs, e, pos_at hw h0 ?_⟩
  rw [e, List.append_assoc, List.getElem?_append_right (Nat.le_refl _), Nat.sub_self, ordN_step hw hx]
  rfl
theorem pos_desc (hw : WfP l) {x y : Nat} (hx : x < l.length) (hy : y < l.length) : desc l y x = (decide (posN l x ≤ posN l y) && decide (posN l y < posN l x + (ordN l x).length)) := by
  have h0 : 0 < l.length := by omega
  obtain ⟨us, bs, e, hp⟩ := pos_infix hw hx
  rw [Bool.eq_iff_iff, Bool.and_eq_true, decide_eq_true_eq, decide_eq_true_eq, hp]
  have hm := mem_ordN hw hx (y := y)
  constructor
  · intro hd
    obtain ⟨j, hj, ej⟩ := List.getElem_of_mem (hm.2 ⟨hy, hd⟩)
    have : posN l y = us.length + j := pos_at hw h0 (by
      rw [e, List.append_assoc, List.getElem?_append_right (by omega), Nat.add_sub_cancel_left, List.getElem?_append_left hj, List.getElem?_eq_getElem hj, ej])
    omega
  · rintro ⟨h1, h2⟩
    have h3 := (pos_get hw hy).1
    rw [e, List.append_assoc, List.getElem?_append_right h1, List.getElem?_append_left (by omega)] at h3
    exact (hm.1 (List.mem_of_getElem? h3)).2
/-- A kid among its parent's: where it stands. -/
theorem pos_kid (hw : WfP l) {x : Nat} (hx : x < l.length) {i k : Nat} (hk : (kN l x)[i]? = some k) : posN l k = posN l x + 1 + (((kN l x).take i).flatMap (ordN l)).length := by
  have h0 : 0 < l.length := by omega
  obtain ⟨us, bs, e, hp⟩ := pos_infix hw hx
  have hkl := (kN_gt hw (List.mem_of_getElem? hk)).2
  obtain ⟨hl, ek⟩ := List.getElem?_eq_some_iff.1 hk
  have ed : kN l x = (kN l x).take i ++ k :: (kN l x).drop (i + 1) := by
    rw [← ek, List.getElem_cons_drop, List.take_append_drop]
  refine pos_at hw h0 ?_
  have ef : (kN l x).flatMap (ordN l) = (((kN l x).take i) ++ k :: (kN l x).drop (i + 1)).flatMap (ordN l) := by rw [← ed]
  rw [hp, e, ordN_step hw hx, ef, List.flatMap_append, List.flatMap_cons, ordN_step hw hkl]
  rw [List.append_assoc, List.getElem?_append_right (by omega)]
  have e1 : us.length + 1 + (((kN l x).take i).flatMap (ordN l)).length - us.length = (((kN l x).take i).flatMap (ordN l)).length + 1 := by omega
  rw [e1]
  simp
theorem pos_first (hw : WfP l) {x : Nat} (hx : x < l.length) {k : Nat} (hk : (kN l x)[0]? = some k) : posN l k = posN l x + 1 := by
  have := pos_kid hw hx hk
  simpa using this
theorem pos_next (hw : WfP l) {x : Nat} (hx : x < l.length) {i a b : Nat} (ha : (kN l x)[i]? = some a) (hb : (kN l x)[i + 1]? = some b) : posN l a < posN l b ∧ a < b := by
  have h1 := pos_kid hw hx ha
  have h2 := pos_kid hw hx hb
  rw [flat_take (ordN l) (kN l x) ha, List.length_append] at h2
  have := ordN_length_pos l a
  refine ⟨by omega, ?_⟩
  have hs := kN_sorted l x
  rw [List.pairwise_iff_getElem] at hs
  obtain ⟨la, ea⟩ := List.getElem?_eq_some_iff.1 ha
  obtain ⟨lb, eb⟩ := List.getElem?_eq_some_iff.1 hb
  have := hs i (i + 1) la lb (by omega)
  omega
/-- How many of the first i tasks descend of a task. -/
def cntD (l : List Int) (x i : Nat) : Nat := ((List.range i).filter fun y => desc l y x).length
theorem cntD_zero (x : Nat) : cntD l x 0 = 0 := rfl
theorem cntD_succ (x i : Nat) : cntD l x (i + 1) = if desc l i x = true then cntD l x i + 1 else cntD l x i := by
  unfold cntD
  rw [List.range_succ, List.filter_append]
  by_cases h : desc l i x = true
  · simp [h]
  · simp [h]
theorem cntD_le (x i : Nat) : cntD l x i ≤ i := by
  unfold cntD
  exact Nat.le_trans (List.length_filter_le _ _) (by simp)
theorem cntD_all (hw : WfP l) {x : Nat} (hx : x < l.length) : cntD l x l.length = (ordN l x).length := (ordN_perm hw hx).length_eq.symm
/-- The places that are known when the first j of the order are told. -/
def atV (l : List Int) (j : Nat) : List Int := (List.range l.length).map fun y => if posN l y < j then (posN l y : Int) else -1
theorem length_atV (l : List Int) (j : Nat) : (atV l j).length = l.length := by simp [atV]
theorem get_atV (l : List Int) (j : Nat) {y : Nat} (hy : y < l.length) : (atV l j)[y]? = some (if posN l y < j then (posN l y : Int) else -1) := by simp [atV, hy]
theorem atV_zero (l : List Int) : atV l 0 = List.replicate l.length (-1) := by
  apply List.ext_getElem?
  intro k
  by_cases hk : k < l.length
  · rw [get_atV l 0 hk, if_neg (by omega), List.getElem?_replicate, if_pos hk]
  · rw [List.getElem?_eq_none (by rw [length_atV]; omega), List.getElem?_eq_none (by simp; omega)]
theorem atV_all (hw : WfP l) {y : Nat} (hy : y < l.length) : (atV l l.length)[y]? = some (posN l y : Int) := by
  rw [get_atV l _ hy, if_pos (pos_get hw hy).2]
theorem atV_step (hw : WfP l) {j y : Nat} (h : (ordN l 0)[j]? = some y) (hy : y < l.length) : (atV l j)[y]? = some (-1) ∧ (atV l j).set y (j : Int) = atV l (j + 1) := by
  have hp := pos_at hw (by omega) h
  refine ⟨by rw [get_atV l j hy, if_neg (by omega)], ?_⟩
  apply List.ext_getElem?
  intro k
  by_cases hk : k < l.length
  · rw [get_atV l (j + 1) hk, List.getElem?_set, get_atV l j hk, length_atV]
    by_cases e : y = k
    · subst e
      rw [if_pos rfl, if_pos hk, if_pos (by omega), hp]
    · rw [if_neg e]
      have hne : posN l k ≠ j := fun e2 => by
        have h1 := (pos_get hw hk).1
        rw [e2, h] at h1
        exact e (Option.some.inj h1)
      by_cases h2 : posN l k < j
      · rw [if_pos h2, if_pos (by omega)]
      · rw [if_neg h2, if_neg (by omega)]
  · rw [List.getElem?_eq_none (by simp [length_atV]; omega), List.getElem?_eq_none (by rw [length_atV]; omega)]

/-! ## A task more -/
variable {x : Nat}
theorem snoc_wf (hw : WfP l) (hx : x < l.length) : WfP (l ++ [(x : Int)]) := hw.snoc (.inr ⟨by omega, by omega⟩)
theorem snoc_len (l : List Int) (x : Nat) : (l ++ [(x : Int)]).length = l.length + 1 := by simp
theorem snoc_anc (hw : WfP l) (hx : x < l.length) {y : Nat} (hy : y < l.length) : anc (l ++ [(x : Int)]) y = anc l y := by
  have hw' := snoc_wf hw hx
  induction y using Nat.strongRecOn with
  | ind y ih =>
    by_cases h0 : y = 0
    · subst h0; rw [anc_zero, anc_zero]
    · have hp := hw.pos hy (by omega)
      rw [anc_pos hw hy (by omega), anc_pos hw' (by rw [snoc_len]; omega) (by omega), parN_snoc hy, ih _ (by omega) (by omega)]
theorem snoc_desc (hw : WfP l) (hx : x < l.length) {y o : Nat} (hy : y < l.length) : desc (l ++ [(x : Int)]) y o = desc l y o := by unfold desc; rw [snoc_anc hw hx hy]
theorem snoc_desc_new (hw : WfP l) (hx : x < l.length) {o : Nat} (ho : o < l.length) : desc (l ++ [(x : Int)]) l.length o = desc l x o := by
  rw [desc_gt (snoc_wf hw hx) (by rw [snoc_len]; omega) ho, parN_new, Int.toNat_natCast, snoc_desc hw hx hx]
theorem snoc_desc_of_new (hw : WfP l) (hx : x < l.length) {y : Nat} (hy : y < l.length) : desc (l ++ [(x : Int)]) y l.length = false := by
  rw [desc_le (snoc_wf hw hx) (by rw [snoc_len]; omega) (by omega)]
  simp; omega
theorem snoc_way (hw : WfP l) (hx : x < l.length) {y : Nat} (hy : y < l.length) : wayN (l ++ [(x : Int)]) y = wayN l y := by
  have hw' := snoc_wf hw hx
  induction y using Nat.strongRecOn with
  | ind y ih =>
    by_cases h0 : y = 0
    · subst h0; rw [wayN_zero, wayN_zero]
    · have hp := hw.pos hy (by omega)
      rw [wayN_pos hw hy (by omega), wayN_pos hw' (by rw [snoc_len]; omega) (by omega), parN_snoc hy, nthN_snoc hy, ih _ (by omega) (by omega)]
theorem snoc_way_new (hw : WfP l) (hx : x < l.length) : wayN (l ++ [(x : Int)]) l.length = wayN l x ++ [(kN l x).length] := by
  rw [wayN_pos (snoc_wf hw hx) (by rw [snoc_len]; omega) (by omega), parN_new, Int.toNat_natCast, nthN_new, snoc_way hw hx hx]
theorem snoc_kids_new (hw : WfP l) (hx : x < l.length) : kN (l ++ [(x : Int)]) l.length = [] := by
  refine List.eq_nil_iff_forall_not_mem.2 (fun y hy => ?_)
  have := kN_gt (snoc_wf hw hx) hy
  rw [snoc_len] at this
  omega
theorem snoc_ord_new (hw : WfP l) (hx : x < l.length) : ordN (l ++ [(x : Int)]) l.length = [l.length] := by
  rw [ordN_step (snoc_wf hw hx) (by rw [snoc_len]; omega), snoc_kids_new hw hx]
  rfl
theorem flatMap_congr' {α β : Type} {f g : α → List β} {xs : List α} (h : ∀ a, a ∈ xs → f a = g a) : xs.flatMap f = xs.flatMap g := by
  rw [List.flatMap, List.flatMap, List.map_congr_left h]
theorem snoc_ord (hw : WfP l) (hx : x < l.length) : ∀ y, y < l.length → (ordN (l ++ [(x : Int)]) y).filter (fun z => decide (z ≠ l.length)) = ordN l y := by
  refine ordN_ind hw (fun y hy ih => ?_)
  rw [ordN_step (snoc_wf hw hx) (by rw [snoc_len]; omega), ordN_step hw hy, List.filter_cons, if_pos (by simp; omega), List.filter_flatMap, kN_snoc]
  congr 1
  split
  · rw [List.flatMap_append, flatMap_congr' ih]
    simp [snoc_ord_new hw hx]
  · exact flatMap_congr' ih
theorem snoc_all (hw : WfP l) (hx : x < l.length) : (allN (l ++ [(x : Int)])).filter (fun z => decide (z ≠ l.length)) = allN l := by
  have h1 : l ≠ [] := fun e => by rw [e] at hx; simp at hx
  unfold allN
  rw [if_neg (by simp), if_neg h1, snoc_ord hw hx 0 (by omega)]
end
/-- What is left without a number, told step by step. -/
def leftN (xs : List Nat) (n j : Nat) : List Nat := (xs.take j).filter fun z => decide (z ≠ n)
theorem leftN_step {xs : List Nat} {n j z : Nat} (h : xs[j]? = some z) : leftN xs n (j + 1) = if z = n then leftN xs n j else leftN xs n j ++ [z] := by
  unfold leftN
  rw [List.take_add_one, h, List.filter_append]
  by_cases e : z = n
  · simp [e]
  · simp [e]
theorem leftN_len (xs : List Nat) (n j : Nat) : (leftN xs n j).length ≤ xs.length := by
  unfold leftN
  refine Nat.le_trans (List.length_filter_le _ _) ?_
  rw [List.length_take]; omega
end Go.Proofs.Ytogobpnbkmdnfaa
