/-
  WHAT IS PROVED HERE: contracts for the law pelotonlaw14.ScopeNil: what is told without a tree, without a machine, and of numbers that are no scope's. Conditions: as in the contracts.
-/
import Derived.Test.YtkdpckoneohjkaaAwakeS
namespace Go.Proofs.Ytkdpckoneohjkaa
open Go.RowKit

theorem parent_nil (s : Int) (w : World) :
    Calls Try.prog 36 #[.pointer none, .int .i64 s] w fun e w' => e = .returned (.int .i64 (-1)) ∧ Below w.heap.size w w' := by
  have b1 := box1 w 3 s
  have bb : Below w.heap.size w (w.alloc (.cells #[.int .i64 s] 3)) := (Below.refl _ w).alloc (Nat.le_refl _) _
  go_enter Try.func36, Try.ntmps36
  go_wp2_with (go_at_call 61; refine (has_nil [s] w.heap.size 3 _ b1 (by simp)).mono ?_; rintro e w' ⟨rfl, rfl⟩)
  go_ret
  exact ⟨rfl, bb⟩
theorem nest_nil (s : Int) (w : World) :
    Calls Try.prog 31 #[.pointer none, .int .i64 s] w fun e w' => e = .returned (.int .i64 (-1)) ∧ Below w.heap.size w w' := by
  have b1 := box1 w 3 s
  have bb : Below w.heap.size w (w.alloc (.cells #[.int .i64 s] 3)) := (Below.refl _ w).alloc (Nat.le_refl _) _
  go_enter Try.func31, Try.ntmps31
  go_wp2_with (go_at_call 61; refine (has_nil [s] w.heap.size 3 _ b1 (by simp)).mono ?_; rintro e w' ⟨rfl, rfl⟩)
  go_ret
  exact ⟨rfl, bb⟩

/-- The law's machine with a tree of the world on it. -/
abbrev NS (W w : World) (mb : MB) (t g : Nat) : Prop := SW W w mb t g 4 [0, 1] [⟨-1, 0, 0, 0⟩]
/-- What is told of a number, whatever the call, as long as the machine stays. -/
def Refuses (W : World) (mb : MB) (t g : Nat) (tv mv : Value) (s c : Int) : Prop :=
  ∀ w, NS W w mb t g → Calls Try.prog 60 #[tv, mv, .int .i64 s] w fun e w' => e = .returned (.int .i64 c) ∧ Below w.heap.size w w'
section
variable {W w : World} {mb : MB} {t g : Nat} {tv mv : Value} {s c : Int}
theorem refuses_nilT (mv : Option Addr) (s : Int) : Refuses W mb t g (.pointer none) (.pointer mv) s 2 := fun w _ =>
  (may_nilT s w mv).mono (by rintro e w' ⟨rfl, rfl⟩; exact ⟨rfl, Below.refl _ _⟩)
theorem refuses_nilM (s : Int) : Refuses W mb t g (.pointer (some ⟨t, 0, none⟩)) (.pointer none) s 2 := fun w _ =>
  (may_nilM t s w).mono (by rintro e w' ⟨rfl, rfl⟩; exact ⟨rfl, Below.refl _ _⟩)
theorem refuses_none (s : Int) (hs : ¬ s = 0) : Refuses W mb t g (.pointer (some ⟨t, 0, none⟩)) (.pointer (some ⟨mb.p, 0, none⟩)) s 17 := fun w h =>
  may_none t g (scN [⟨-1, 0, 0, 0⟩]) ⟨mb.p, 0, none⟩ s w h.t (by simp [inT, scN]; omega)
variable (h : NS W w mb t g) (hr : Refuses W mb t g tv mv s c) (hc : ¬ c = 0) (i : Int)
include h hr hc
theorem n_enter : Calls Try.prog 46 #[tv, mv, .int .i64 i, .int .i64 s] w fun e w' => e = .returned (.int .i64 c) ∧ NS W w' mb t g :=
  (enter_stop tv mv i s c w hc (hr w h)).mono (by rintro e w' ⟨rfl, hb⟩; exact ⟨rfl, h.below hb⟩)
theorem n_leave : Calls Try.prog 47 #[tv, mv, .int .i64 i, .int .i64 s] w fun e w' => e = .returned (.tuple #[.bool false, .int .i64 c]) ∧ NS W w' mb t g :=
  (leave_stop tv mv i s c w hc (hr w h)).mono (by rintro e w' ⟨rfl, hb⟩; exact ⟨rfl, h.below hb⟩)
theorem n_live : Calls Try.prog 48 #[tv, mv, .int .i64 i, .int .i64 s] w fun e w' => e = .returned (.tuple #[.int .i64 0, .int .i64 c]) ∧ NS W w' mb t g :=
  (live_stop tv mv i s c w hc (hr w h)).mono (by rintro e w' ⟨rfl, hb⟩; exact ⟨rfl, h.below hb⟩)
theorem n_ask : Calls Try.prog 28 #[tv, mv, .int .i64 i, .int .i64 s] w fun e w' => e = .returned (.tuple #[.bool false, .int .i64 c]) ∧ NS W w' mb t g :=
  (ask_stop tv mv i s c w hc (hr w h)).mono (by rintro e w' ⟨rfl, hb⟩; exact ⟨rfl, h.below hb⟩)
theorem n_asked : Calls Try.prog 50 #[tv, mv, .int .i64 i, .int .i64 s] w fun e w' => e = .returned (.tuple #[.bool false, .int .i64 c]) ∧ NS W w' mb t g :=
  (asked_stop tv mv i s c w hc (hr w h)).mono (by rintro e w' ⟨rfl, hb⟩; exact ⟨rfl, h.below hb⟩)
theorem n_open : Calls Try.prog 45 #[tv, mv, .int .i64 i, .int .i64 s] w fun e w' => e = .returned (.tuple #[.int .i64 0, .int .i64 c]) ∧ NS W w' mb t g :=
  (open_stop tv mv i s c w hc (hr w h)).mono (by rintro e w' ⟨rfl, hb⟩; exact ⟨rfl, h.below hb⟩)
omit i
theorem n_peek : Calls Try.prog 49 #[tv, mv, .int .i64 s] w fun e w' => e = .returned (.tuple #[.bool false, .int .i64 0]) ∧ NS W w' mb t g :=
  (peek_stop tv mv s c w hc (hr w h)).mono (by rintro e w' ⟨rfl, hb⟩; exact ⟨rfl, h.below hb⟩)
end
end Go.Proofs.Ytkdpckoneohjkaa
