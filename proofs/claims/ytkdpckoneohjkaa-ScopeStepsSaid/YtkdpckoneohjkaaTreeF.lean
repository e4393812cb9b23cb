/-
  WHAT IS PROVED HERE: contracts of scope's Look and Look.Step. Conditions: as in the contracts.
-/
import Derived.Test.YtkdpckoneohjkaaTreeE
namespace Go.Proofs.Ytkdpckoneohjkaa
open Go.RowKit

/-- A look under way. -/
abbrev Lk (w : World) (k p : Nat) (at_ : Int) (done is : Bool) : Prop := Blk w k 110 [.pointer (some ⟨p, 0, none⟩), .int .i64 at_, .bool done, .bool is]

section
variable {W0 w : World} {mb : MB} {p g : Nat} {size : Int} {steps : List Int} {l : List Sc}
theorem look_ok (p g : Nat) (l : List Nd) (s : Int) (w : World) (hT : Tr w p g l) (hs : inT l.length s = true) :
    Calls Try.prog 29 #[.pointer (some ⟨p, 0, none⟩), .int .i64 s] w fun e w' => ∃ k, e = .returned (.tuple #[.pointer (some ⟨k, 0, none⟩), .int .i64 0]) ∧ w.heap.size ≤ k ∧ Lk w' k p s false false ∧ Below w.heap.size w w' := by
  have b1 := box1 w 3 s
  have hT1 := hT.alloc (.cells #[.int .i64 s] 3)
  have bb : Below w.heap.size w (w.alloc (.cells #[.int .i64 s] 3)) := (Below.refl _ w).alloc (Nat.le_refl _) _
  go_enter Try.func29, Try.ntmps29
  go_wp2_with (go_at_call 61; refine (has_any p g l [s] w.heap.size 3 _ hT1 b1 (by simp)).mono ?_; rw [show [s].all (inT l.length) = true by simp [hs]]; rintro e w' ⟨rfl, rfl⟩)
  go_ret2
  refine ⟨(w.alloc (.cells #[.int .i64 s] 3)).heap.size, by simp, by simp, Blk.new _ _ _, bb.alloc (by simp) _⟩
theorem look_none (p g : Nat) (l : List Nd) (s : Int) (w : World) (hT : Tr w p g l) (hs : inT l.length s = false) :
    Calls Try.prog 29 #[.pointer (some ⟨p, 0, none⟩), .int .i64 s] w fun e w' => e = .returned (.tuple #[.pointer none, .int .i64 17]) ∧ Below w.heap.size w w' := by
  have b1 := box1 w 3 s
  have hT1 := hT.alloc (.cells #[.int .i64 s] 3)
  have bb : Below w.heap.size w (w.alloc (.cells #[.int .i64 s] 3)) := (Below.refl _ w).alloc (Nat.le_refl _) _
  go_enter Try.func29, Try.ntmps29
  go_wp2_with (go_at_call 61; refine (has_any p g l [s] w.heap.size 3 _ hT1 b1 (by simp)).mono ?_; rw [show [s].all (inT l.length) = false by simp [hs]]; rintro e w' ⟨rfl, rfl⟩)
  go_ret2
  exact ⟨rfl, bb⟩
theorem look_nil (s : Int) (w : World) :
    Calls Try.prog 29 #[.pointer none, .int .i64 s] w fun e w' => e = .returned (.tuple #[.pointer none, .int .i64 2]) ∧ w = w' := by
  go_enter Try.func29, Try.ntmps29
  go_wp2
  go_ret2
  exact ⟨rfl, by first | trivial | rfl⟩
theorem step_nil (mv : Option Addr) (i : Int) (w : World) :
    Calls Try.prog 30 #[.pointer none, .pointer mv, .int .i64 i] w fun e w' => e = .returned (.tuple #[.bool false, .bool false, .int .i64 2]) ∧ w = w' := by
  go_enter Try.func30, Try.ntmps30
  go_wp2
  go_ret3
  exact ⟨rfl, by first | trivial | rfl⟩
theorem step_nilM (k : Nat) (i : Int) (w : World) :
    Calls Try.prog 30 #[.pointer (some ⟨k, 0, none⟩), .pointer none, .int .i64 i] w fun e w' => e = .returned (.tuple #[.bool false, .bool false, .int .i64 2]) ∧ w = w' := by
  go_enter Try.func30, Try.ntmps30
  go_wp2
  go_ret3
  exact ⟨rfl, by first | trivial | rfl⟩
set_option maxHeartbeats 1000000 in
theorem step_done (k p : Nat) (at_ : Int) (is : Bool) (ma : Addr) (i : Int) (w : World) (hL : Lk w k p at_ true is) :
    Calls Try.prog 30 #[.pointer (some ⟨k, 0, none⟩), .pointer (some ma), .int .i64 i] w fun e w' => e = .returned (.tuple #[.bool true, .bool is, .int .i64 0]) ∧ Below w.heap.size w w' := by
  have c0 := hL.cell
  go_enter Try.func30, Try.ntmps30
  go_wp2_with fail
  go_quiet (fail)
  go_wp2
  go_ret3
  exact ⟨rfl, below_drewN' (Below.refl _ w) _⟩
end
end Go.Proofs.Ytkdpckoneohjkaa
