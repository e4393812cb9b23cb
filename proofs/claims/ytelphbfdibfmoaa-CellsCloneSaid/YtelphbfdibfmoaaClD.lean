/-
  WHAT IS PROVED HERE: contracts of New (a machine that may be, and one that may not). Conditions: none.
-/
import Derived.Test.YtelphbfdibfmoaaClC
namespace Go.Proofs.Ytelphbfdibfmoaa
open Go.RowKit

def zerosA (n : Nat) : Array Value := (ints (List.replicate n 0)).toArray
theorem made_zeros (n : Nat) : madeCells (Value.cells (.int .i64 0)) (n * 1) = zerosA n := by
  rw [Nat.mul_one]
  apply Array.ext'
  simp [madeCells, zerosA, ints, Value.cells]
  induction n with
  | zero => rfl
  | succ n ih => rw [List.range_succ, List.map_append, ih, List.replicate_succ']; simp [Nat.mod_one]

/-- 'make([]int, n)'. -/
theorem make_ints (n : Int) (h0 : 0 ≤ n) (h1 : n ≤ 1000000000) (w : World) :
    (Instr.makeSlice 49 (.int .i64 n) (.int .i64 n)).run Try.prog w = .ok (.slice (some ⟨w.heap.size, 0, none⟩) n.toNat n.toNat) (w.alloc (.cells (zerosA n.toNat) 3)) := by
  obtain ⟨i0, hi, hz0, hz1, hz2⟩ := info_parts info_i
  rw [run_make (P := Try.prog) w 49 3 i0 (.int .i64 0) Try.underlying49 hi hz0 .i64 .i64 n n h0 (Int.le_refl _) (by rw [hz2]; omega) (by omega), hz1, made_zeros]

/-- What a machine is at first. -/
def MS.fresh (size : Int) (workers : Nat) : MS := { cells := [], size := size, steps := List.replicate (workers + 1) 0 }

set_option maxHeartbeats 400000 in
theorem new_ok (size workers : Int) (w : World) (h1 : 1 ≤ size) (h2 : size ≤ 1048576) (h3 : 1 ≤ workers) (h4 : workers ≤ 16) :
    Calls Try.prog 20 #[.int .i64 size, .int .i64 workers] w fun e w' => ∃ p s,
      e = .returned (.tuple #[.pointer (some ⟨p, 0, none⟩), .int .i64 0]) ∧ MachCP w' ⟨p, p, s⟩ (MS.fresh size workers.toNat) ∧ Kept (fun _ => False) w w' ∧ w.heap.size ≤ p ∧ w.heap.size ≤ s := by
  have hmk := fun w => make_ints (workers + 1) (by omega) (by omega) w
  go_enter Try.func20, Try.ntmps20
  go_wp2
  go_ret2
  have e1 : (workers + 1).toNat = workers.toNat + 1 := by omega
  refine ⟨w.heap.size + 1, w.heap.size, rfl, ?_, ((Kept.refl _ w).alloc _).alloc _, by omega, by omega⟩
  have b1 : Blk (w.alloc (.cells (zerosA (workers + 1).toNat) 3)) w.heap.size 3 (ints (List.replicate (workers.toNat + 1) 0)) := by
    rw [e1]; exact Blk.new w _ _
  have b2 := Blk.new (w.alloc (.cells (zerosA (workers + 1).toNat) 3)) 95 [.slice none 0 0, .int .i64 size, .slice (some ⟨w.heap.size, 0, none⟩) (workers + 1).toNat (workers + 1).toNat]
  rw [World.size_alloc] at b2
  exact ⟨by simp, ⟨[], by rw [List.append_nil]; exact b1.alloc _⟩, .inl ⟨(workers + 1).toNat, (workers + 1).toNat, rfl, b2, by simp [MS.fresh, e1], rfl⟩⟩

set_option maxHeartbeats 400000 in
theorem new_no (size workers : Int) (w : World) (h : size < 1 ∨ 1048576 < size ∨ workers < 1 ∨ 16 < workers) :
    Calls Try.prog 20 #[.int .i64 size, .int .i64 workers] w fun e w' =>
      e = .returned (.tuple #[.pointer none, .int .i64 10]) ∧ w = w' := by
  by_cases h1 : size < 1
  · clear h
    go_enter Try.func20, Try.ntmps20
    go_wp2
    go_ret2
    exact ⟨rfl, rfl⟩
  · by_cases h2 : 1048576 < size
    · clear h
      go_enter Try.func20, Try.ntmps20
      go_wp2
      go_ret2
      exact ⟨rfl, rfl⟩
    · by_cases h3 : workers < 1
      · clear h
        go_enter Try.func20, Try.ntmps20
        go_wp2
        go_ret2
        exact ⟨rfl, rfl⟩
      · have h4 : 16 < workers := by omega
        clear h
        go_enter Try.func20, Try.ntmps20
        go_wp2
        go_ret2
        exact ⟨rfl, rfl⟩
end Go.Proofs.Ytelphbfdibfmoaa
