/-
  WHAT IS PROVED HERE: what the law SpareCaps keeps of its slots, as plain facts; small facts of rows. Conditions: none beyond what each theorem names.
-/
import Derived.Test.YtkilghhknimolaaDoorSpareO
namespace Go.Proofs.YtkilghhknimolaaDoor
open Go.RowKit

/-- A slot in which an operation is under way. -/
def CpS (b m : Nat) (ops : List (Option (Nat × OS))) (kinds selfs : List Int) (j : Nat) : Prop :=
  ∃ o q kd, ops[j]? = some (some (o, q)) ∧ OpI b m kd (selfs.getD j 0) q ∧ kinds.getD j 0 = ((kd : Nat) : Int) ∧ kd < 3 ∧ 4 ≤ q.ph
structure CpOk (b m : Nat) (ops : List (Option (Nat × OS))) (busy : List Bool) (kinds selfs : List Int) : Prop where
  lo : ops.length = 4
  lb : busy.length = 4
  lk : kinds.length = 4
  lf : selfs.length = 4
  slot : ∀ j, j < 4 → busy.getD j false = true → CpS b m ops kinds selfs j
/-- The same, an operation in slot r about to do a step. -/
structure CpM (b m : Nat) (ops : List (Option (Nat × OS))) (busy : List Bool) (kinds selfs : List Int) (r o : Nat) (q : OS) (kd : Nat) (sf wt wait : Int) : Prop where
  lo : ops.length = 4
  lb : busy.length = 4
  lk : kinds.length = 4
  lf : selfs.length = 4
  slot : ∀ j, j < 4 → j ≠ r → busy.getD j false = true → CpS b m ops kinds selfs j
  op : ops[r]? = some (some (o, q))
  opi : OpI b m kd sf q
  kde : kinds.getD r 0 = (kd : Int)
  sfe : selfs.getD r 0 = sf
  k3 : kd < 3
  wait : wait = wt + dwt q.ph
theorem CpOk.first (b m : Nat) : CpOk b m (List.replicate 4 none) (List.replicate 4 false) (List.replicate 4 0) (List.replicate 4 0) :=
  ⟨rfl, rfl, rfl, rfl, fun j _ h2 => by
    rw [List.getD_eq_getElem?_getD, List.getElem?_replicate] at h2
    split at h2 <;> cases h2⟩
theorem getD_set {α : Type} (l : List α) (i j : Nat) (v d : α) (h : i < l.length) : (l.set i v).getD j d = if i = j then v else l.getD j d := by
  rw [List.getD_eq_getElem?_getD, List.getElem?_set]
  by_cases e : i = j
  · rw [if_pos e, if_pos e]; subst e; rw [if_pos h]; rfl
  · rw [if_neg e, if_neg e, List.getD_eq_getElem?_getD]
theorem CpS.same {b m : Nat} {ops ops' : List (Option (Nat × OS))} {kinds kinds' selfs selfs' : List Int} {j : Nat} (h : CpS b m ops kinds selfs j) (h1 : ops'[j]? = ops[j]?) (h2 : kinds'.getD j 0 = kinds.getD j 0) (h3 : selfs'.getD j 0 = selfs.getD j 0) : CpS b m ops' kinds' selfs' j := by
  obtain ⟨o, q, kd, a1, a2, a3, a4⟩ := h
  exact ⟨o, q, kd, by rw [h1]; exact a1, by rw [h3]; exact a2, by rw [h2]; exact a3, a4⟩
/-- An operation that was under way. -/
theorem CpOk.goes {b m : Nat} {ops : List (Option (Nat × OS))} {busy : List Bool} {kinds selfs : List Int} {r : Nat} (h : CpOk b m ops busy kinds selfs) (hr : r < 4) (hb : busy.getD r false = true) (wt : Int) : busy.set r true = busy ∧ ∃ o q kd, CpM b m ops busy kinds selfs r o q kd (selfs.getD r 0) wt wt := by
  obtain ⟨o, q, kd, a1, a2, a3, a4, a5⟩ := h.slot r hr hb
  refine ⟨?_, o, q, kd, h.lo, h.lb, h.lk, h.lf, fun j h1 _ h3 => h.slot j h1 h3, a1, a2, a3, rfl, a4, ?_⟩
  · refine List.ext_getElem? fun j => ?_
    rw [List.getElem?_set]
    split
    · rename_i e
      subst e
      rw [if_pos (by rw [h.lb]; exact hr), getD_getElem? (by rw [h.lb]; exact hr), hb]
    · rfl
  · unfold dwt; rw [if_neg (by omega), if_neg (by omega)]; omega
/-- One that begins. -/
theorem CpOk.begins {b m : Nat} {ops : List (Option (Nat × OS))} {busy : List Bool} {kinds selfs : List Int} {r : Nat} (h : CpOk b m ops busy kinds selfs) (hr : r < 4) (o kd : Nat) (hk : kd < 3) (sf wt : Int) :
    CpM b m (ops.set r (some (o, begQ kd sf))) (busy.set r true) (kinds.set r kd) (selfs.set r sf) r o (begQ kd sf) kd sf wt (wt + dwt (begQ kd sf).ph) where
  lo := by rw [List.length_set, h.lo]
  lb := by rw [List.length_set, h.lb]
  lk := by rw [List.length_set, h.lk]
  lf := by rw [List.length_set, h.lf]
  slot j h1 h2 h3 := by
    rw [getD_set _ _ _ _ _ (by rw [h.lb]; exact hr), if_neg (fun e => h2 e.symm)] at h3
    refine (h.slot j h1 h3).same ?_ ?_ ?_
    · rw [List.getElem?_set, if_neg (fun e => h2 e.symm)]
    · rw [getD_set _ _ _ _ _ (by rw [h.lk]; exact hr), if_neg (fun e => h2 e.symm)]
    · rw [getD_set _ _ _ _ _ (by rw [h.lf]; exact hr), if_neg (fun e => h2 e.symm)]
  op := by rw [List.getElem?_set, if_pos rfl, if_pos (by rw [h.lo]; exact hr)]
  opi := OpI.beg b m kd hk sf
  kde := by rw [getD_set _ _ _ _ _ (by rw [h.lk]; exact hr), if_pos rfl]
  sfe := by rw [getD_set _ _ _ _ _ (by rw [h.lf]; exact hr), if_pos rfl]
  k3 := hk
  wait := rfl
/-- A step has been done. -/
theorem CpM.done {b m : Nat} {ops : List (Option (Nat × OS))} {busy : List Bool} {kinds selfs : List Int} {r o : Nat} {q q' : OS} {kd : Nat} {sf wt wait : Int} {L L' : List Bool} (h : CpM b m ops busy kinds selfs r o q kd sf wt wait) (hr : r < 4) (hs : StepR b m kd sf L L' q') :
    CpOk b m (ops.set r (some (o, q'))) (busy.set r (!(q'.ph == 0))) kinds selfs where
  lo := by rw [List.length_set, h.lo]
  lb := by rw [List.length_set, h.lb]
  lk := h.lk
  lf := h.lf
  slot j h1 h3 := by
    rw [getD_set _ _ _ _ _ (by rw [h.lb]; exact hr)] at h3
    by_cases e : r = j
    · subst e
      rw [if_pos rfl] at h3
      have h4 : q'.ph ≠ 0 := fun e => by rw [e] at h3; simp at h3
      rcases hs with ⟨_, a2, _, _, a5⟩ | ⟨a1, _⟩ | ⟨a1, _⟩
      · exact ⟨o, q', kd, by rw [List.getElem?_set, if_pos rfl, if_pos (by rw [h.lo]; exact hr)], by rw [h.sfe]; exact a5, h.kde, h.k3, a2⟩
      · exact absurd a1 h4
      · exact absurd a1 h4
    · rw [if_neg e] at h3
      refine (h.slot j h1 (fun e2 => e e2.symm) h3).same ?_ rfl rfl
      rw [List.getElem?_set, if_neg e]
theorem map_ptr_set (ops : List (Option (Nat × OS))) (r o : Nat) (q : OS) : (ops.map ptrOf).set r (.pointer (some ⟨o, 0, none⟩)) = (ops.set r (some (o, q))).map ptrOf := by rw [List.map_set]; rfl
theorem map_ptr_same (ops : List (Option (Nat × OS))) (r o : Nat) (q q' : OS) (h : ops[r]? = some (some (o, q))) : (ops.set r (some (o, q'))).map ptrOf = ops.map ptrOf := by
  refine List.ext_getElem? fun j => ?_
  rw [List.map_set, List.getElem?_set]
  split
  · rename_i e
    subst e
    rw [List.getElem?_map, h]
    split
    · rfl
    · rename_i hn
      rw [List.length_map] at hn
      rw [List.getElem?_eq_none (by omega)] at h
      cases h
  · rfl
theorem bvs_set (l : List Bool) (i : Nat) (v : Bool) : (bvs l).set i (.bool v) = bvs (l.set i v) := by simp [bvs]
theorem ints_set (l : List Int) (i : Nat) (v : Int) : (ints l).set i (.int .i64 v) = ints (l.set i v) := by simp [ints]
theorem bvs_get {l : List Bool} {i : Nat} (h : i < l.length) {v : Bool} (hv : l.getD i false = v) : (bvs l)[i]? = some (.bool v) := by
  rw [bvs, List.getElem?_map, getD_getElem? h, hv]; rfl
theorem ints_get {l : List Int} {i : Nat} (h : i < l.length) {v : Int} (hv : l.getD i 0 = v) : (ints l)[i]? = some (.int .i64 v) := by
  subst hv
  rw [ints, List.getElem?_map, List.getD_eq_getElem?_getD, List.getElem?_eq_getElem h]; rfl
theorem ptr_get {ops : List (Option (Nat × OS))} {r o : Nat} {q : OS} (h : ops[r]? = some (some (o, q))) : (ops.map ptrOf)[r]? = some (.pointer (some ⟨o, 0, none⟩)) := by
  rw [List.getElem?_map, h]; rfl
theorem ptr_any {ops : List (Option (Nat × OS))} {r : Nat} (h : r < ops.length) : (ops.map ptrOf)[r]? = some (ptrOf (ops.getD r none)) := by
  rw [List.getElem?_map, List.getD_eq_getElem?_getD, List.getElem?_eq_getElem h]; rfl
theorem fullL_gap (b : Nat) (hb : b ≤ 16) : gapL 0 b = fullL b (gapL b b) := by
  refine list16_ext (length_gapL _ _) (length_fullL (length_gapL _ _) hb) fun j => ?_
  rw [gapL_getD _ _ _ hb, fullL_getD, gapL_getD _ _ _ hb]
  by_cases h : j < b
  · simp [h]
  · simp [h]
theorem fullL_set {b : Nat} {L : List Bool} (hL : L.length = 16) (hb : b ≤ 16) {k : Nat} (hk : b ≤ k) (h16 : k < 16) (v : Bool) : (fullL b L).set k v = fullL b (L.set k v) := by
  refine list16_ext (by rw [List.length_set, length_fullL hL hb]) (length_fullL (by rw [List.length_set, hL]) hb) fun j => ?_
  rw [set_getD (by rw [length_fullL hL hb]; exact h16), fullL_getD, fullL_getD, set_getD (by rw [hL]; exact h16)]
  by_cases e : k = j
  · rw [if_pos e, if_pos e]; simp; omega
  · rw [if_neg e, if_neg e]
theorem pick4 (v : Int) : ∃ r : Nat, r < 4 ∧ (wrap64 (v.tmod 4 + 4)).tmod 4 = (r : Int) := by
  have h1 := Int.tmod_lt_of_pos v (show (0 : Int) < 4 by omega)
  have h2 := Int.lt_tmod_of_pos v (show (0 : Int) < 4 by omega)
  have e : wrap64 (v.tmod 4 + 4) = v.tmod 4 + 4 := by unfold wrap64; omega
  rw [e]
  obtain ⟨u, hu⟩ := Int.eq_ofNat_of_zero_le (show 0 ≤ v.tmod 4 + 4 by omega)
  rw [hu]
  exact ⟨u % 4, Nat.mod_lt _ (by omega), rfl⟩
theorem count_take_succ {R : List Bool} {j : Nat} (h : j < R.length) : (R.take (j + 1)).count true = (R.take j).count true + (R.getD j false).toNat := by
  rw [List.take_add_one, List.count_append, getD_getElem? h]
  cases R.getD j false <;> simp
end Go.Proofs.YtkilghhknimolaaDoor
