/-
  WHAT IS PROVED HERE: contracts of spare's small functions: right, base, Moved, Bits, On, Blocked; how an operation begins. Conditions: as in the contracts.
-/
import Derived.Test.YtkilghhknimolaaDoorIdleM
import Derived.Laws.EntriesVeiled
namespace Go.Proofs.YtkilghhknimolaaDoor
open Go.RowKit

/-- Spares, as a value. -/
def spV (a b m : Int) : Value := .agg #[.int .i64 a, .int .i64 b, .int .i64 m]
/-- Spares that may be. -/
def rightB (b m : Int) : Bool := decide (1 ≤ b ∧ b ≤ 16 ∧ 0 ≤ m ∧ b + m ≤ 16)
/-- An operation under way. -/
abbrev OpB (w : World) (o : Nat) (a b m self wait on moved : Int) (next : Value) : Prop :=
  Blk w o 94 [.int .i64 a, .int .i64 b, .int .i64 m, .int .i64 self, .int .i64 wait, .int .i64 on, .int .i64 moved, next]
theorem right_ok (a b m : Int) (w : World) (hm : -9223372036854775808 ≤ m ∧ m ≤ 9223372036854775807) :
    Calls Tryd.prog 50 #[spV a b m] w fun e w' => e = .returned (.bool (rightB b m)) ∧ Below w.heap.size w w' := by
  have b0 : Blk (w.alloc (.cells #[.int .i64 a, .int .i64 b, .int .i64 m] 42)) w.heap.size 42 [.int .i64 a, .int .i64 b, .int .i64 m] := Blk.new w _ _
  have hb : Below w.heap.size w (w.alloc (.cells #[.int .i64 a, .int .i64 b, .int .i64 m] 42)) := (Below.refl _ w).alloc (Nat.le_refl _) _
  have c0 := b0.cell
  unfold spV
  by_cases h1 : 1 ≤ b
  · have d1 : decide (1 ≤ b) = true := by simp [h1]
    by_cases h2 : b ≤ 16
    · have d2 : decide (b ≤ 16) = true := by simp [h2]
      have hw : wrap64 (16 - b) = 16 - b := by unfold wrap64; omega
      by_cases h3 : 0 ≤ m
      · have d3 : decide (0 ≤ m) = true := by simp [h3]
        by_cases h4 : m ≤ 16 - b
        · have d4 : decide (m ≤ 16 - b) = true := by simp [h4]
          have hr : rightB b m = true := by unfold rightB; rw [decide_eq_true_iff]; omega
          rw [hr]
          go_enter Tryd.func50, Tryd.ntmps50
          go_wp2
          go_ret
          exact ⟨rfl, hb⟩
        · have d4 : decide (m ≤ 16 - b) = false := by simp [h4]
          have hr : rightB b m = false := by unfold rightB; rw [decide_eq_false_iff_not]; omega
          rw [hr]
          go_enter Tryd.func50, Tryd.ntmps50
          go_wp2
          go_ret
          exact ⟨rfl, hb⟩
      · have d3 : decide (0 ≤ m) = false := by simp [h3]
        have hr : rightB b m = false := by unfold rightB; rw [decide_eq_false_iff_not]; omega
        rw [hr]
        go_enter Tryd.func50, Tryd.ntmps50
        go_wp2
        go_ret
        exact ⟨rfl, hb⟩
    · have d2 : decide (b ≤ 16) = false := by simp [h2]
      have hr : rightB b m = false := by unfold rightB; rw [decide_eq_false_iff_not]; omega
      rw [hr]
      go_enter Tryd.func50, Tryd.ntmps50
      go_wp2
      go_ret
      exact ⟨rfl, hb⟩
  · have d1 : decide (1 ≤ b) = false := by simp [h1]
    have hr : rightB b m = false := by unfold rightB; rw [decide_eq_false_iff_not]; omega
    rw [hr]
    go_enter Tryd.func50, Tryd.ntmps50
    go_wp2
    go_ret
    exact ⟨rfl, hb⟩
theorem moved_nil (w : World) : Calls Tryd.prog 26 #[.pointer none] w fun e w' => e = .returned (.int .i64 (-1)) ∧ w = w' := by
  go_enter Tryd.func26, Tryd.ntmps26
  go_wp2
  go_ret
  exact ⟨rfl, by first | trivial | rfl⟩
theorem moved_ok {w : World} {o : Nat} {a b m self wait on moved : Int} {next : Value} (h : OpB w o a b m self wait on moved next) :
    Calls Tryd.prog 26 #[.pointer (some ⟨o, 0, none⟩)] w fun e w' => e = .returned (.int .i64 moved) ∧ w = w' := by
  have c0 := h.cell
  clear h
  go_enter Tryd.func26, Tryd.ntmps26
  go_wp2
  go_ret
  exact ⟨rfl, by first | trivial | rfl⟩
theorem base_ok (a m : Int) (b : Nat) (hb : b ≤ 16) (w : World) :
    Calls Tryd.prog 52 #[spV a b m] w fun e w' => e = .returned (.int .i64 ((2 ^ b : Nat) - 1 : Int)) ∧ Below w.heap.size w w' := by
  have b0 : Blk (w.alloc (.cells #[.int .i64 a, .int .i64 b, .int .i64 m] 42)) w.heap.size 42 [.int .i64 a, .int .i64 b, .int .i64 m] := Blk.new w _ _
  have hbl : Below w.heap.size w (w.alloc (.cells #[.int .i64 a, .int .i64 b, .int .i64 m] 42)) := (Below.refl _ w).alloc (Nat.le_refl _) _
  have c0 := b0.cell
  unfold spV
  go_enter Tryd.func52, Tryd.ntmps52
  go_wp2
  go_ret
  have hp : 2 ^ b ≤ 65536 := Nat.pow_le_pow_right (by omega) hb
  have hp1 : 0 < 2 ^ b := Nat.pow_pos (by omega)
  have e : ((2 : Int) ^ b) = ((2 ^ b : Nat) : Int) := by simp
  refine ⟨ret_int ?_, hbl⟩
  rw [e]
  generalize 2 ^ b = P at *
  unfold wrap64
  omega
theorem block_ok (a b m : Int) (w : World) :
    Calls Tryd.prog 44 #[spV a b m] w fun e w' => ∃ o, e = .returned (.pointer (some ⟨o, 0, none⟩)) ∧ w.heap.size ≤ o ∧ OpB w' o a b m 0 0 0 (-1) (.func (.func 58) #[.pointer (some ⟨o, 0, none⟩)] #[]) ∧ Below w.heap.size w w' := by
  have b0 : Blk (w.alloc (.cells #[.int .i64 a, .int .i64 b, .int .i64 m] 42)) w.heap.size 42 [.int .i64 a, .int .i64 b, .int .i64 m] := Blk.new w _ _
  have hbl : Below w.heap.size w (w.alloc (.cells #[.int .i64 a, .int .i64 b, .int .i64 m] 42)) := (Below.refl _ w).alloc (Nat.le_refl _) _
  have hz : (w.alloc (.cells #[.int .i64 a, .int .i64 b, .int .i64 m] 42)).heap.size = w.heap.size + 1 := by simp
  have c0 := b0.cell
  unfold spV
  go_enter Tryd.func44, Tryd.ntmps44
  go_wp2
  go_ret
  refine ⟨w.heap.size + 1, rfl, by omega, ?_, hbl.alloc (by omega) _⟩
  have hn := Blk.new (w.alloc (.cells #[.int .i64 a, .int .i64 b, .int .i64 m] 42)) 94 [.int .i64 a, .int .i64 b, .int .i64 m, .int .i64 0, .int .i64 0, .int .i64 0, .int .i64 (-1), .func (.func 58) #[.pointer (some ⟨w.heap.size + 1, 0, none⟩)] #[]]
  rw [hz] at hn
  exact hn
theorem resume_ok (a b m : Int) (w : World) :
    Calls Tryd.prog 46 #[spV a b m] w fun e w' => ∃ o, e = .returned (.pointer (some ⟨o, 0, none⟩)) ∧ w.heap.size ≤ o ∧ OpB w' o a b m 0 0 0 (-1) (.func (.func 60) #[.pointer (some ⟨o, 0, none⟩)] #[]) ∧ Below w.heap.size w w' := by
  have b0 : Blk (w.alloc (.cells #[.int .i64 a, .int .i64 b, .int .i64 m] 42)) w.heap.size 42 [.int .i64 a, .int .i64 b, .int .i64 m] := Blk.new w _ _
  have hbl : Below w.heap.size w (w.alloc (.cells #[.int .i64 a, .int .i64 b, .int .i64 m] 42)) := (Below.refl _ w).alloc (Nat.le_refl _) _
  have hz : (w.alloc (.cells #[.int .i64 a, .int .i64 b, .int .i64 m] 42)).heap.size = w.heap.size + 1 := by simp
  have c0 := b0.cell
  unfold spV
  go_enter Tryd.func46, Tryd.ntmps46
  go_wp2
  go_ret
  refine ⟨w.heap.size + 1, rfl, by omega, ?_, hbl.alloc (by omega) _⟩
  have hn := Blk.new (w.alloc (.cells #[.int .i64 a, .int .i64 b, .int .i64 m] 42)) 94 [.int .i64 a, .int .i64 b, .int .i64 m, .int .i64 0, .int .i64 0, .int .i64 0, .int .i64 (-1), .func (.func 60) #[.pointer (some ⟨w.heap.size + 1, 0, none⟩)] #[]]
  rw [hz] at hn
  exact hn
theorem retire_ok (a b m self : Int) (w : World) :
    Calls Tryd.prog 45 #[spV a b m, .int .i64 self] w fun e w' => ∃ o, e = .returned (.pointer (some ⟨o, 0, none⟩)) ∧ w.heap.size ≤ o ∧ OpB w' o a b m self 0 0 (-1) (.func (.func 59) #[.pointer (some ⟨o, 0, none⟩)] #[]) ∧ Below w.heap.size w w' := by
  have b0 : Blk (w.alloc (.cells #[.int .i64 a, .int .i64 b, .int .i64 m] 42)) w.heap.size 42 [.int .i64 a, .int .i64 b, .int .i64 m] := Blk.new w _ _
  have hbl : Below w.heap.size w (w.alloc (.cells #[.int .i64 a, .int .i64 b, .int .i64 m] 42)) := (Below.refl _ w).alloc (Nat.le_refl _) _
  have hz : (w.alloc (.cells #[.int .i64 a, .int .i64 b, .int .i64 m] 42)).heap.size = w.heap.size + 1 := by simp
  have c0 := b0.cell
  unfold spV
  go_enter Tryd.func45, Tryd.ntmps45
  go_wp2
  go_ret
  refine ⟨w.heap.size + 1, rfl, by omega, ?_, hbl.alloc (by omega) _⟩
  have hn := Blk.new (w.alloc (.cells #[.int .i64 a, .int .i64 b, .int .i64 m] 42)) 94 [.int .i64 a, .int .i64 b, .int .i64 m, .int .i64 self, .int .i64 0, .int .i64 0, .int .i64 (-1), .func (.func 59) #[.pointer (some ⟨w.heap.size + 1, 0, none⟩)] #[]]
  rw [hz] at hn
  exact hn
end Go.Proofs.YtkilghhknimolaaDoor
