/-
  WHAT IS PROVED HERE: the law of FutureGives without the program: what is true of the four workers' places, of who was first, of the kind and of what was put down, kept by each of the rounds' kinds.
-/
import Derived.Test.YtkdpckoneohjkaaFwPlain
namespace Go.Proofs.Ytkdpckoneohjkaa
open Go.RowKit

/-- Who was first ended it, or is about to. -/
def FgF (v kd : Nat → Int) (nx : List Int) (k val : Int) (f : Nat) : Prop :=
  (∀ j, j < 4 → j ≠ f → nx.getD j 0 = 0 ∨ nx.getD j 0 = 3 ∨ (nx.getD j 0 = 4 ∧ 3 ≤ nx.getD f 0)) ∧
    ((nx.getD f 0 = 1 ∧ k = 1) ∨ (nx.getD f 0 = 2 ∧ k = 1 ∧ val = v f) ∨ ((nx.getD f 0 = 3 ∨ nx.getD f 0 = 4) ∧ k = kd f ∧ val = v f))
def FgOk (v kd : Nat → Int) (nx : List Int) (fi k val : Int) : Prop :=
  nx.length = 4 ∧ ((fi = -1 ∧ k = 0 ∧ ∀ j, j < 4 → nx.getD j 0 = 0) ∨ ∃ f : Nat, f < 4 ∧ fi = f ∧ FgF v kd nx k val f)

section
variable {v kd : Nat → Int} {nx : List Int} {k val : Int} {f r : Nat}
theorem fg_start : FgOk v kd [0, 0, 0, 0] (-1) 0 0 := by
  refine ⟨rfl, .inl ⟨rfl, rfl, fun j hj => ?_⟩⟩
  have : j = 0 ∨ j = 1 ∨ j = 2 ∨ j = 3 := by omega
  rcases this with rfl | rfl | rfl | rfl <;> rfl
theorem fg_first (hl : nx.length = 4) (h : ∀ j, j < 4 → nx.getD j 0 = 0) (hr : r < 4) : FgOk v kd (nx.set r 1) r 1 val := by
  refine ⟨by simpa using hl, .inr ⟨r, hr, rfl, fun j hj hne => .inl ?_, .inl ⟨?_, rfl⟩⟩⟩
  · rw [fgetD_set (by omega), if_neg hne]; exact h j hj
  · rw [fgetD_set (by omega), if_pos rfl]
theorem fg_other (hl : nx.length = 4) (hf : f < 4) (h : FgF v kd nx k val f) (hr : r < 4) (hne : r ≠ f) (n : Int) (hn : n = 3 ∨ (n = 4 ∧ 3 ≤ nx.getD f 0)) : FgOk v kd (nx.set r n) f k val := by
  have g : ∀ i, (nx.set r n).getD i 0 = if i = r then n else nx.getD i 0 := fun i => fgetD_set (by omega) i
  have gf : (nx.set r n).getD f 0 = nx.getD f 0 := by rw [g, if_neg (Ne.symm hne)]
  refine ⟨by simpa using hl, .inr ⟨f, hf, rfl, fun j hj hjf => ?_, by rw [gf]; exact h.2⟩⟩
  rw [gf, g]
  by_cases e : j = r
  · rw [if_pos e]; exact .inr hn
  · rw [if_neg e]; exact h.1 j hj hjf
theorem fg_self (hl : nx.length = 4) (hf : f < 4) (h : FgF v kd nx k val f) (n k' val' : Int)
    (hn : (n = 2 ∧ k' = 1 ∧ val' = v f ∧ nx.getD f 0 < 3) ∨ ((n = 3 ∨ n = 4) ∧ k' = kd f ∧ val' = v f)) : FgOk v kd (nx.set f n) f k' val' := by
  have g : ∀ i, (nx.set f n).getD i 0 = if i = f then n else nx.getD i 0 := fun i => fgetD_set (by omega) i
  have gf : (nx.set f n).getD f 0 = n := by rw [g, if_pos rfl]
  refine ⟨by simpa using hl, .inr ⟨f, hf, rfl, fun j hj hjf => ?_, by rw [gf]; omega⟩⟩
  rw [gf, g, if_neg hjf]
  have := h.1 j hj hjf
  omega
end
end Go.Proofs.Ytkdpckoneohjkaa
