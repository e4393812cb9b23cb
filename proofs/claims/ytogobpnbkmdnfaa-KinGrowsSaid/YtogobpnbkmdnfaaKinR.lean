/-
  WHAT IS PROVED HERE: plain laws of ways among tasks that are told by their parents: a way that ends at a task is found again, there is just one, and a task descends of another one just if that one's way is the beginning of its own. No program in sight. Conditions: the parents are as a tree's.
-/
import Derived.Test.YtogobpnbkmdnfaaKinQ
namespace Go.Proofs.Ytogobpnbkmdnfaa
open Go.RowKit

section
variable {l : List Int}
theorem find_way (hw : WfP l) {x : Nat} (hx : x < l.length) : findN l 0 (nI (wayN l x)) = some x := by
  induction x using Nat.strongRecOn with
  | ind x ih =>
    by_cases h0 : x = 0
    · subst h0; rw [wayN_zero]; rfl
    · have hp := hw.pos hx (by omega)
      have h1 := ih (parN l x).toNat (by omega) (by omega)
      have h2 := kN_nth hx
      rw [wayN_pos hw hx (by omega), nI_append, findN_append, h1, Option.bind_some]
      have e : ((parN l x).toNat : Int) = parN l x := by omega
      simp only [nI, List.map_cons, List.map_nil, findN]
      rw [if_pos (by omega), e, Int.toNat_natCast, h2]
      rfl
theorem way_find (hw : WfP l) (h0 : 0 < l.length) (n : Nat) : ∀ (q : List Int) (z : Nat), q.length = n → findN l 0 q = some z → z < l.length ∧ q = nI (wayN l z) := by
  induction n with
  | zero =>
    intro q z hl hf
    obtain rfl := List.eq_nil_of_length_eq_zero hl
    simp only [findN, Option.some.injEq] at hf
    subst hf
    exact ⟨h0, by rw [wayN_zero]; rfl⟩
  | succ n ih =>
    intro q z hl hf
    rcases List.eq_nil_or_concat q with rfl | ⟨q', m, hq⟩
    · simp at hl
    · rw [List.concat_eq_append] at hq
      subst hq
      rw [findN_append] at hf
      cases hy : findN l 0 q' with
      | none => rw [hy] at hf; cases hf
      | some y =>
        rw [hy, Option.bind_some] at hf
        obtain ⟨hyl, hq'⟩ := ih q' y (by simp at hl; omega) hy
        simp only [findN] at hf
        split at hf
        · next hm =>
          cases hk : (kN l y)[m.toNat]? with
          | none => rw [hk] at hf; cases hf
          | some u =>
            rw [hk] at hf
            simp at hf
            subst hf
            obtain ⟨a1, a2, a3⟩ := nthN_kid hk
            have hu : 0 < u := by
              have := kN_gt hw (List.mem_of_getElem? hk); omega
            refine ⟨a1, ?_⟩
            rw [wayN_pos hw a1 hu, a2, Int.toNat_natCast, a3, nI_append, ← hq']
            simp only [nI, List.map_cons, List.map_nil]
            rw [Int.toNat_of_nonneg hm]
        · cases hf
theorem way_inj (hw : WfP l) {x y : Nat} (hx : x < l.length) (hy : y < l.length) (h : wayN l x = wayN l y) : x = y := by
  have h1 := find_way hw hx
  have h2 := find_way hw hy
  rw [h, h2] at h1
  exact (Option.some.inj h1).symm
theorem way_par (hw : WfP l) {x : Nat} (hx : x < l.length) (h0 : 0 < x) : wayN l (parN l x).toNat <+: wayN l x := by
  rw [wayN_pos hw hx h0]
  exact List.prefix_append _ _
theorem desc_way (hw : WfP l) {a b : Nat} (ha : a < l.length) (hb : b < l.length) : desc l a b = decide (wayN l b <+: wayN l a) := by
  induction a using Nat.strongRecOn with
  | ind a ih =>
    rw [Bool.eq_iff_iff, decide_eq_true_eq]
    by_cases hab : a = b
    · subst hab
      simp [desc, anc_self]
    · by_cases h0 : a = 0
      · subst h0
        rw [wayN_zero]
        constructor
        · intro h
          simp only [desc, decide_eq_true_eq] at h
          rw [anc_zero] at h
          simp at h; omega
        · intro h
          have hbp : 0 < b := by omega
          have := List.prefix_nil.1 h
          rw [wayN_pos hw hb hbp] at this
          simp at this
      · have hp := hw.pos ha (by omega)
        have hi := ih (parN l a).toNat (by omega) (by omega)
        have hd : desc l a b = desc l (parN l a).toNat b := by
          unfold desc
          rw [anc_pos hw ha (by omega)]
          have : b ≠ a := fun e => hab e.symm
          simp [this]
        rw [hd, hi, decide_eq_true_eq]
        constructor
        · exact fun h => h.trans (way_par hw ha (by omega))
        · intro h
          rw [wayN_pos hw ha (by omega)] at h
          rcases List.prefix_concat_iff.1 (by simpa using h) with h | h
          · exfalso
            rw [← wayN_pos hw ha (by omega)] at h
            exact hab (way_inj hw hb ha h).symm
          · exact h
end
theorem nI_prefix {a b : List Nat} : nI a <+: nI b ↔ a <+: b := by
  constructor
  · rintro ⟨t, h⟩
    refine ⟨b.drop a.length, ?_⟩
    have h1 := congrArg (List.take a.length) h
    have h2 : nI a = nI (b.take a.length) := by
      have e : nI (b.take a.length) = (nI b).take a.length := by simp [nI, List.map_take]
      rw [e, ← h, List.take_append_of_le_length (by simp)]
      rw [List.take_of_length_le (by simp)]
    have h3 := nI_inj h2
    rw [h3, List.length_take]
    have hle : a.length ≤ b.length := by
      have := congrArg List.length h
      simp at this; omega
    rw [Nat.min_eq_left hle]
    conv => lhs; lhs; rw [← h3]
    conv => lhs; lhs; rw [h3]
    exact List.take_append_drop _ _
  · rintro ⟨t, rfl⟩
    rw [nI_append]
    exact List.prefix_append _ _
end Go.Proofs.Ytogobpnbkmdnfaa
