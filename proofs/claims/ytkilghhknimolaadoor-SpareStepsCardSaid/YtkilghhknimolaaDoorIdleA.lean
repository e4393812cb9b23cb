/-
  WHAT IS PROVED HERE: contracts of math/bits.TrailingZeros64 and of idle's Has, First, Members and its iterator. Conditions: the table math/bits.deBruijn64tab lies as its initialiser lays it.
-/
import Derived.Test.YtkilghhknimolaaDoorCellsC
import Derived.Test.YtkilghhknimolaaDoorBits
import Derived.Test.YtkilghhknimolaaDoorRange
import Derived.Shelf.Spec.TrailingZeros
import Derived.RangeFuncNested
import Derived.RangeFuncBound
import Derived.RangeFuncCalls
import Derived.RangeFuncLeaves
import Derived.Shelf.Abstract
import Derived.Shelf.RegionOpen
import Derived.WalkKit
import Derived.OwnWalkIn
import Derived.TacticsInMore
import Derived.LoopNIn
import Derived.LoopIn
namespace Go.Proofs.YtkilghhknimolaaDoor
open Go.RowKit Go.Shelf
attribute [local go_sem] Oper.semAt_some

/-- The table of math/bits lies in its variable. -/
structure Tab (w : World) : Prop where
  at_ : TabAt 0 Lib.deBruijn64tab w
  lt : 0 < w.heap.size
theorem Tab.kept {S : Nat → Prop} {w w' : World} (h : Tab w) (hk : Kept S w w') (hn : ¬ S 0) : Tab w' :=
  ⟨fun j hj => (hk.cell (p := ⟨0, j, none⟩) h.lt hn).trans (h.at_ j hj), Nat.lt_of_lt_of_le h.lt hk.size⟩
theorem Tab.below {w w' : World} {n : Nat} (h : Tab w) (hb : Below n w w') (hn : 0 < n) : Tab w' :=
  ⟨fun j hj => (hb.cell (p := ⟨0, j, none⟩) hn).trans (h.at_ j hj), Nat.lt_of_lt_of_le h.lt hb.size⟩
set_option maxHeartbeats 1000000 in
theorem tz_core (x k idx : Nat) (w : World) (hx0 : ((x : Int) == 0) = false)
    (key : IntKind.u64.wrap (bits BinOp.and IntKind.u64 (x : Int) (IntKind.u64.wrap (-(x : Int))) * 285870213051353865) / 288230376151711744 = (idx : Int))
    (hi : idx < 64) (hk : k < 64) (hcell : w.cell? ⟨0, idx, none⟩ = some (.int .u8 k)) :
    Calls Tryd.prog 49 #[.int .u64 x] w fun e w' => e = .returned (.int .i64 k) ∧ w = w' := by
  go_enter Tryd.func49, Tryd.ntmps49
  go_wp2_with (simp only [key])
  go_ret
  exact ⟨rfl, rfl⟩
theorem tz_zero (w : World) : Calls Tryd.prog 49 #[.int .u64 0] w fun e w' => e = .returned (.int .i64 64) ∧ w = w' := by
  go_enter Tryd.func49, Tryd.ntmps49
  go_wp2
  go_ret
  exact ⟨rfl, rfl⟩
theorem tz_ok (x : Nat) (hx : x < 18446744073709551616) (w : World) (hT : Tab w) :
    Calls Tryd.prog 49 #[.int .u64 x] w fun e w' => e = .returned (.int .i64 (Lib.ctz 64 x)) ∧ w = w' := by
  by_cases hx0 : x = 0
  · subst hx0
    exact tz_zero w
  · obtain ⟨hlow, hk⟩ := Lib.lowest_bit 64 x hx0 hx
    obtain ⟨hi, htab⟩ := Lib.deBruijn64_at _ hk
    have hcell := hT.at_ _ hi
    rw [htab] at hcell
    exact tz_core x _ _ w (by simp; omega) (tz64_key x _ hx hx0 hlow) hi hk hcell
end Go.Proofs.YtkilghhknimolaaDoor
