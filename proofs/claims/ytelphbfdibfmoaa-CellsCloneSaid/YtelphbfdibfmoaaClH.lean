/-
  WHAT IS PROVED HERE: plain laws of what a call of 'Does' leaves: which cells, and which steps. No walk. Conditions: as stated.
-/
import Derived.Test.YtelphbfdibfmoaaClG
namespace Go.Proofs.Ytelphbfdibfmoaa
open Go.RowKit

theorem doesR_cases (st : MS) (kind i at_ x y : Int) :
    doesR st kind i at_ x y = (0, 10, st) ∨ (doesR st kind i at_ x y = (0, 21, st) ∧ st.size < st.cells.length + at_) ∨
    (st.isCaller i = true ∧ st.isGiven at_ = true ∧ kind = 0 ∧ doesR st kind i at_ x y = (st.cellOf at_, 0, st.did i)) ∨
    (st.isCaller i = true ∧ st.isGiven at_ = true ∧ kind = 1 ∧ doesR st kind i at_ x y = (0, 0, (st.did i).putAt at_ x)) ∨
    (st.isCaller i = true ∧ st.isGiven at_ = true ∧ kind = 2 ∧ doesR st kind i at_ x y = (1, 0, (st.did i).putAt at_ x)) ∨
    (st.isCaller i = true ∧ st.isGiven at_ = true ∧ kind = 2 ∧ doesR st kind i at_ x y = (0, 0, st.did i)) ∨
    (st.isCaller i = true ∧ st.isGiven at_ = true ∧ kind = 3 ∧ doesR st kind i at_ x y = (st.cellOf at_, 0, (st.did i).putAt at_ (wrap64 (st.cellOf at_ + x)))) ∨
    (st.isCaller i = true ∧ 1 ≤ at_ ∧ (st.cells.length : Int) + at_ ≤ st.size ∧ doesR st kind i at_ x y = ((st.cells.length : Int), 0, (st.did i).more at_.toNat)) := by
  unfold doesR
  by_cases k0 : kind = 0
  · simp only [k0, if_true]
    by_cases g : st.isCaller i = true ∧ st.isGiven at_ = true
    · simp [g]
    · simp [g]
  · rw [if_neg k0]
    by_cases k1 : kind = 1
    · simp only [k1, if_true]
      by_cases g : st.isCaller i = true ∧ st.isGiven at_ = true
      · simp [g]
      · simp [g]
    · rw [if_neg k1]
      by_cases k2 : kind = 2
      · simp only [k2, if_true]
        by_cases g : st.isCaller i = true ∧ st.isGiven at_ = true
        · by_cases hy : st.cellOf at_ = y
          · simp [g, hy]
          · simp [g, hy]
        · simp [g]
      · rw [if_neg k2]
        by_cases k3 : kind = 3
        · simp only [k3, if_true]
          by_cases g : st.isCaller i = true ∧ st.isGiven at_ = true
          · simp [g]
          · simp [g]
        · rw [if_neg k3]
          by_cases g : st.isCaller i = true ∧ 1 ≤ at_
          · by_cases h : (st.cells.length : Int) + at_ ≤ st.size
            · rw [if_pos g, if_pos h]
              exact .inr (.inr (.inr (.inr (.inr (.inr (.inr ⟨g.1, g.2, h, rfl⟩))))))
            · rw [if_pos g, if_neg h]
              exact .inr (.inl ⟨rfl, by omega⟩)
          · rw [if_neg g]
            exact .inl rfl

def LeaveSt (st : MS) : Prop := st.steps.length = 4 ∧ st.cells.length = 16 ∧ st.size = 16
def keepsR (kind : Int) (r : Int × Int × MS) : Bool := r.2.1 != 0 || (kind == 0 || (kind == 2 && r.1 == 0))

theorem LeaveSt.did {st : MS} (h : LeaveSt st) (i : Int) : LeaveSt (st.did i) := ⟨by simp [MS.did, h.1], h.2.1, h.2.2⟩
theorem LeaveSt.put {st : MS} (h : LeaveSt st) (i x : Int) : LeaveSt (st.putAt i x) := ⟨h.1, by simp [MS.putAt, h.2.1], h.2.2⟩
theorem LeaveSt.does {st : MS} (h : LeaveSt st) (kind i at_ x y : Int) : LeaveSt (doesR st kind i at_ x y).2.2 := by
  rcases doesR_cases st kind i at_ x y with e | ⟨e, _⟩ | ⟨_, _, _, e⟩ | ⟨_, _, _, e⟩ | ⟨_, _, _, e⟩ | ⟨_, _, _, e⟩ | ⟨_, _, _, e⟩ | ⟨_, h1, h2, _⟩
  · rw [e]; exact h
  · rw [e]; exact h
  · rw [e]; exact h.did _
  · rw [e]; exact (h.did _).put _ _
  · rw [e]; exact (h.did _).put _ _
  · rw [e]; exact h.did _
  · rw [e]; exact (h.did _).put _ _
  · rw [h.2.1, h.2.2] at h2; omega

theorem does_cells {st : MS} (hst : LeaveSt st) (kind i at_ x y k : Int) : (doesR st kind i at_ x y).2.2.cellOf k = st.cellOf k ∨ (keepsR kind (doesR st kind i at_ x y) = false ∧ k = at_) := by
  have other : ∀ v, st.isGiven at_ = true → ((st.did i).putAt at_ v).cellOf k = st.cellOf k ∨ k = at_ := by
    intro v hg
    by_cases hk : k = at_
    · exact .inr hk
    · left; rw [cellOf_put_other _ _ _ _ hk (by rw [isGiven_did]; exact hg)]; rfl
  rcases doesR_cases st kind i at_ x y with e | ⟨e, _⟩ | ⟨_, _, _, e⟩ | ⟨_, hg, hk, e⟩ | ⟨_, hg, hk, e⟩ | ⟨_, _, _, e⟩ | ⟨_, hg, hk, e⟩ | ⟨_, h1, h2, _⟩
  · rw [e]; exact .inl rfl
  · rw [e]; exact .inl rfl
  · rw [e]; exact .inl rfl
  · rw [e]; exact (other x hg).imp id fun h => ⟨by simp [keepsR, hk], h⟩
  · rw [e]; exact (other x hg).imp id fun h => ⟨by simp [keepsR, hk], h⟩
  · rw [e]; exact .inl rfl
  · rw [e]; exact (other _ hg).imp id fun h => ⟨by simp [keepsR, hk], h⟩
  · rw [hst.2.1, hst.2.2] at h2; omega

theorem stepsOf_did (st : MS) (i j : Int) (h : st.isCaller i = true) : (st.did i).stepsOf j = if j = i then wrap64 (st.stepsOf j + 1) else st.stepsOf j := by
  obtain ⟨h0, h1⟩ := MS.isCaller_lt h
  unfold MS.stepsOf
  by_cases hj : 0 ≤ j ∧ j < st.steps.length
  · rw [if_pos (by simpa [MS.did] using hj), if_pos hj]
    by_cases e : j = i
    · subst e
      simp [MS.did, show j.toNat < st.steps.length by omega]
    · rw [if_neg e]
      simp [MS.did, show ¬ i.toNat = j.toNat by omega]
  · rw [if_neg (by simpa [MS.did] using hj), if_neg hj, if_neg (by omega)]
theorem stepsOf_put (st : MS) (i x j : Int) : (st.putAt i x).stepsOf j = st.stepsOf j := rfl
theorem stepsOf_more (st : MS) (n : Nat) (j : Int) : (st.more n).stepsOf j = st.stepsOf j := rfl

theorem does_steps (st : MS) (kind i at_ x y j : Int) : (doesR st kind i at_ x y).2.2.stepsOf j = if (doesR st kind i at_ x y).2.1 = 0 ∧ j = i then wrap64 (st.stepsOf j + 1) else st.stepsOf j := by
  rcases doesR_cases st kind i at_ x y with e | ⟨e, _⟩ | ⟨hc, _, _, e⟩ | ⟨hc, hg, hk, e⟩ | ⟨hc, hg, hk, e⟩ | ⟨hc, _, _, e⟩ | ⟨hc, hg, hk, e⟩ | ⟨hc, h1, h2, e⟩
  · rw [e]; simp
  · rw [e]; simp
  · rw [e, stepsOf_did _ _ _ hc]; simp
  · rw [e, stepsOf_put, stepsOf_did _ _ _ hc]; simp
  · rw [e, stepsOf_put, stepsOf_did _ _ _ hc]; simp
  · rw [e, stepsOf_did _ _ _ hc]; simp
  · rw [e, stepsOf_put, stepsOf_did _ _ _ hc]; simp
  · rw [e, stepsOf_more, stepsOf_did _ _ _ hc]; simp
end Go.Proofs.Ytelphbfdibfmoaa
