/-
  WHAT IS PROVED HERE: plain laws of tasks that are told by their parents: the order is one of all tasks that descend of the first one, each once. No program in sight. Conditions: the parents are as a tree's ('WfP').
-/
import Derived.Test.YtogobpnbkmdnfaaKinP
namespace Go.Proofs.Ytogobpnbkmdnfaa
open Go.RowKit

section
variable {l : List Int}
theorem anc_lt (hw : WfP l) {x a : Nat} (hx : x < l.length) (h : a ∈ anc l x) : a < l.length := by
  have := anc_le hw hx h; omega
/-- What is between. -/
theorem anc_mid (hw : WfP l) {y a b : Nat} (hy : y < l.length) (ha : a ∈ anc l y) (hb : b ∈ anc l y) (hab : a ≤ b) : a ∈ anc l b := by
  induction y using Nat.strongRecOn with
  | ind y ih =>
    by_cases h0 : y = 0
    · subst h0
      rw [anc_zero] at ha hb
      simp at ha hb
      subst ha; subst hb
      exact anc_self l _
    · have hp := hw.pos hy (by omega)
      have e := anc_pos hw hy (by omega)
      by_cases hby : b = y
      · subst hby; exact ha
      · rw [e] at hb ha
        rcases List.mem_cons.1 hb with h | hb
        · exact absurd h hby
        · have hb' := anc_le hw (by omega) hb
          rcases List.mem_cons.1 ha with h | ha
          · omega
          · exact ih (parN l y).toNat (by omega) (by omega) ha hb
theorem anc_trans (hw : WfP l) {y a b : Nat} (hy : y < l.length) (hb : b ∈ anc l y) (ha : a ∈ anc l b) : a ∈ anc l y := by
  induction y using Nat.strongRecOn with
  | ind y ih =>
    by_cases h0 : y = 0
    · subst h0
      rw [anc_zero] at hb
      simp at hb
      subst hb; exact ha
    · have hp := hw.pos hy (by omega)
      have e := anc_pos hw hy (by omega)
      rw [e] at hb
      rcases List.mem_cons.1 hb with h | hb
      · subst h; exact ha
      · rw [e]
        exact List.mem_cons_of_mem _ (ih (parN l y).toNat (by omega) (by omega) hb)
theorem anc_kid (hw : WfP l) {x k : Nat} (hk : k ∈ kN l x) : x ∈ anc l k := by
  obtain ⟨h1, h2⟩ := mem_kN.1 hk
  have := kN_gt hw hk
  rw [anc_pos hw h1 (by omega), h2, Int.toNat_natCast]
  exact List.mem_cons_of_mem _ (anc_self l x)
/-- No task descends of two kids of one. -/
theorem anc_two (hw : WfP l) {x y j k : Nat} (hy : y < l.length) (hj : j ∈ kN l x) (hk : k ∈ kN l x) (h1 : j ∈ anc l y) (h2 : k ∈ anc l y) : j = k := by
  have aux : ∀ {j k : Nat}, j ∈ kN l x → k ∈ kN l x → j ∈ anc l y → k ∈ anc l y → ¬ j < k := by
    intro j k hj hk h1 h2 hlt
    have h3 := anc_mid hw hy h1 h2 (by omega)
    have hk2 := mem_kN.1 hk
    have hg := kN_gt hw hk
    rw [anc_pos hw hk2.1 (by omega), hk2.2, Int.toNat_natCast] at h3
    rcases List.mem_cons.1 h3 with h | h
    · omega
    · have := anc_le hw (by omega) h
      have := kN_gt hw hj
      omega
  have a1 := aux hj hk h1 h2
  have a2 := aux hk hj h2 h1
  omega
theorem ordN_ind (hw : WfP l) {P : Nat → Prop} (h : ∀ x, x < l.length → (∀ k, k ∈ kN l x → P k) → P x) : ∀ x, x < l.length → P x := by
  suffices hh : ∀ n x, l.length ≤ x + n → x < l.length → P x from fun x hx => hh l.length x (by omega) hx
  intro n
  induction n with
  | zero => intro x h1 h2; omega
  | succ n ih =>
    intro x hn hx
    refine h x hx (fun k hk => ?_)
    have := kN_gt hw hk
    exact ih k (by omega) this.2
theorem ordN_self (x : Nat) : x ∈ ordN l x := by
  unfold ordN
  cases l.length <;> simp [ordF]
theorem ordN_closed (hw : WfP l) {p y : Nat} (hy : y ∈ kN l p) : ∀ x, x < l.length → p ∈ ordN l x → y ∈ ordN l x := by
  refine ordN_ind hw (fun x hx ih hp => ?_)
  rw [ordN_step hw hx] at hp ⊢
  rcases List.mem_cons.1 hp with rfl | hp
  · exact List.mem_cons_of_mem _ (List.mem_flatMap.2 ⟨y, hy, ordN_self y⟩)
  · obtain ⟨k, hk, hpk⟩ := List.mem_flatMap.1 hp
    exact List.mem_cons_of_mem _ (List.mem_flatMap.2 ⟨k, hk, ih k hk hpk⟩)
theorem ordN_anc (hw : WfP l) {y : Nat} : ∀ x, x < l.length → y ∈ ordN l x → x ∈ anc l y := by
  refine ordN_ind hw (fun x hx ih hy => ?_)
  have hyl := mem_ordN_lt hw hx hy
  rw [ordN_step hw hx] at hy
  rcases List.mem_cons.1 hy with rfl | hy
  · exact anc_self l y
  · obtain ⟨k, hk, hyk⟩ := List.mem_flatMap.1 hy
    exact anc_trans hw hyl (ih k hk hyk) (anc_kid hw hk)
theorem anc_ordN (hw : WfP l) {x y : Nat} (hx : x < l.length) (hy : y < l.length) (h : x ∈ anc l y) : y ∈ ordN l x := by
  induction y using Nat.strongRecOn with
  | ind y ih =>
    by_cases e : y = x
    · subst e; exact ordN_self y
    · by_cases h0 : y = 0
      · subst h0
        rw [anc_zero] at h
        simp at h; omega
      · have hp := hw.pos hy (by omega)
        rw [anc_pos hw hy (by omega)] at h
        rcases List.mem_cons.1 h with h | h
        · omega
        · refine ordN_closed hw (p := (parN l y).toNat) (mem_kN.2 ⟨hy, by omega⟩) x hx (ih _ (by omega) (by omega) h)
theorem mem_ordN (hw : WfP l) {x y : Nat} (hx : x < l.length) : y ∈ ordN l x ↔ y < l.length ∧ desc l y x = true := by
  constructor
  · intro h
    exact ⟨mem_ordN_lt hw hx h, by simp [desc, ordN_anc hw x hx h]⟩
  · rintro ⟨h1, h2⟩
    exact anc_ordN hw hx h1 (by simpa [desc] using h2)
theorem ordN_nodup (hw : WfP l) : ∀ x, x < l.length → (ordN l x).Nodup := by
  refine ordN_ind hw (fun x hx ih => ?_)
  rw [ordN_step hw hx, List.nodup_cons]
  refine ⟨fun h => ?_, ?_⟩
  · obtain ⟨k, hk, hxk⟩ := List.mem_flatMap.1 h
    have h1 := kN_gt hw hk
    have := anc_le hw hx (ordN_anc hw k h1.2 hxk)
    omega
  · unfold List.Nodup
    rw [List.pairwise_flatMap]
    refine ⟨ih, ?_⟩
    refine (kN_sorted l x).imp_of_mem ?_
    intro a b ha hb hab u hu v hv e
    subst e
    have h1 := kN_gt hw ha
    have h2 := kN_gt hw hb
    have := anc_two hw (mem_ordN_lt hw h1.2 hu) ha hb (ordN_anc hw a h1.2 hu) (ordN_anc hw b h2.2 hv)
    omega
theorem ordN_perm (hw : WfP l) {x : Nat} (hx : x < l.length) : (ordN l x).Perm ((List.range l.length).filter fun y => desc l y x) := by
  refine (List.perm_ext_iff_of_nodup (ordN_nodup hw x hx) ?_).2 (fun y => ?_)
  · exact List.Pairwise.filter _ List.nodup_range
  · rw [mem_ordN hw hx, List.mem_filter, List.mem_range]
theorem ordN_length (hw : WfP l) {x : Nat} (hx : x < l.length) : (ordN l x).length ≤ l.length := by
  rw [(ordN_perm hw hx).length_eq]
  exact Nat.le_trans (List.length_filter_le _ _) (by simp)
theorem desc_root (hw : WfP l) {y : Nat} (hy : y < l.length) : desc l y 0 = true := by
  induction y using Nat.strongRecOn with
  | ind y ih =>
    by_cases h0 : y = 0
    · subst h0; simp [desc, anc_zero]
    · have hp := hw.pos hy (by omega)
      rw [desc_gt hw hy (by omega)]
      exact ih _ (by omega) (by omega)
theorem ordN_root (hw : WfP l) (h0 : 0 < l.length) : (ordN l 0).length = l.length ∧ ∀ y, y ∈ ordN l 0 ↔ y < l.length := by
  refine ⟨?_, fun y => ?_⟩
  · rw [(ordN_perm hw h0).length_eq, List.filter_eq_self.2 (fun y hy => desc_root hw (List.mem_range.1 hy))]
    simp
  · rw [mem_ordN hw h0]
    exact ⟨fun h => h.1, fun h => ⟨h, desc_root hw h⟩⟩
/-- The way that is told, of parts of the kids. -/
theorem flat_take (f : Nat → List Nat) (ks : List Nat) {i k : Nat} (h : ks[i]? = some k) : (ks.take (i + 1)).flatMap f = (ks.take i).flatMap f ++ f k := by
  rw [List.take_add_one, h]
  simp
theorem flat_take_le (f : Nat → List Nat) (ks : List Nat) (i : Nat) : ((ks.take i).flatMap f).length ≤ (ks.flatMap f).length := by
  conv => rhs; rw [← List.take_append_drop i ks, List.flatMap_append, List.length_append]
  omega
end
end Go.Proofs.Ytogobpnbkmdnfaa
