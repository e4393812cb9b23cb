/-
  WHAT IS PROVED HERE: contracts of package event's functions: New, Read, Tell, Parked of an event, and Wait, Ready, Park, Leave, Parked of a wait. Conditions: pointers are nil, or a machine's ('Mach'), or a wait's block.
-/
import Derived.Test.YtelphbfdibfmoaaMs
namespace Go.Proofs.Ytelphbfdibfmoaa
open Go.RowKit

/-! ## A machine that is none -/
theorem load_nil (i at_ : Int) (w : World) : Calls Try.prog 18 #[.pointer none, .int .i64 i, .int .i64 at_] w fun e w' => e = .returned (.tuple #[.int .i64 0, .int .i64 2]) ∧ w = w' := by
  go_enter Try.func18, Try.ntmps18
  go_wp2
  go_ret2
  exact ⟨rfl, rfl⟩
theorem add_nil (i at_ b : Int) (w : World) : Calls Try.prog 16 #[.pointer none, .int .i64 i, .int .i64 at_, .int .i64 b] w fun e w' => e = .returned (.tuple #[.int .i64 0, .int .i64 2]) ∧ Below w.heap.size w w' := by
  go_enter_defers Try.func16, Try.ntmps16
  go_wp2
  exact ⟨_, results_tmp2 (t := 8) (u := 9) rfl _ _ _, rfl, (((Below.refl _ w).alloc (Nat.le_refl _) _).alloc (by simp) _).alloc (by simp; omega) _⟩
theorem used_quiet (mb : MB) (st : MS) (w : World) (n : Nat) (hm : MachP w mb st) :
    Calls Try.prog 22 #[.pointer (some ⟨mb.p, 0, none⟩)] (w.drewN n) fun e w' => e = .returned (.int .i64 st.cells.length) ∧ ∃ m, w' = w.drewN m :=
  Calls.quiet_of_same ((used_any mb st _ (hm.drewN n)).mono fun _ _ h => ⟨h.1, h.2.symm⟩)

/-! ## Events -/
theorem box1 (w : World) (a : Int) : ∀ j, (w.alloc (.cells #[.int .i64 a] 62)).cell? ⟨w.heap.size, j, none⟩ = [Value.int .i64 a][j]? := (Blk.new w 62 [.int .i64 a]).cell

theorem evread_ok (mb : MB) (st : MS) (a i v : Int) (w : World) (hm : MachP w mb st) (g1 : st.isCaller i = true) (g2 : st.isGiven a = true) (hv : st.cellOf a = v) :
    Calls Try.prog 39 #[.agg #[.int .i64 a], .pointer (some ⟨mb.p, 0, none⟩), .int .i64 i] w fun e w' => e = .returned (.tuple #[.int .i64 v, .int .i64 0]) ∧ MachP w' mb (st.did i) ∧ Kept mb.has w w' := by
  have hx := box1 w a
  have hm1 := hm.alloc (.cells #[.int .i64 a] 62)
  have hk1 := (Kept.refl mb.has w).alloc (.cells #[.int .i64 a] 62)
  have HV := Lib.hid hv
  clear hv
  go_enter Try.func39, Try.ntmps39
  go_wp2_with fail
  refine (load_v mb st i a v _ hm1 g1 g2 HV.out).mono ?_
  rintro e w2 ⟨rfl, hm2, hk2⟩
  clear hx
  go_wp2
  go_ret2
  exact ⟨rfl, hm2, hk1.trans hk2 (fun _ _ h => h)⟩
theorem evread_no (mb : MB) (st : MS) (a i : Int) (w : World) (hm : MachP w mb st) (g : st.isCaller i = false ∨ st.isGiven a = false) :
    Calls Try.prog 39 #[.agg #[.int .i64 a], .pointer (some ⟨mb.p, 0, none⟩), .int .i64 i] w fun e w' => e = .returned (.tuple #[.int .i64 0, .int .i64 10]) ∧ Below w.heap.size w w' := by
  have hx := box1 w a
  have hm1 := hm.alloc (.cells #[.int .i64 a] 62)
  go_enter Try.func39, Try.ntmps39
  go_wp2_with fail
  refine (load_no mb st i a _ hm1 g).mono ?_
  rintro e w2 ⟨rfl, rfl⟩
  clear hx
  go_wp2
  go_ret2
  exact ⟨rfl, (Below.refl _ w).alloc (Nat.le_refl _) _⟩
theorem evread_nil (a i : Int) (w : World) :
    Calls Try.prog 39 #[.agg #[.int .i64 a], .pointer none, .int .i64 i] w fun e w' => e = .returned (.tuple #[.int .i64 0, .int .i64 2]) ∧ Below w.heap.size w w' := by
  have hx := box1 w a
  go_enter Try.func39, Try.ntmps39
  go_wp2_with fail
  refine (load_nil i a _).mono ?_
  rintro e w2 ⟨rfl, rfl⟩
  clear hx
  go_wp2
  go_ret2
  exact ⟨rfl, (Below.refl _ w).alloc (Nat.le_refl _) _⟩

theorem evtell_ok (mb : MB) (st : MS) (a i v : Int) (w : World) (hm : MachP w mb st) (g1 : st.isCaller i = true) (g2 : st.isGiven a = true) (hv : st.cellOf a = v) :
    Calls Try.prog 37 #[.agg #[.int .i64 a], .pointer (some ⟨mb.p, 0, none⟩), .int .i64 i] w fun e w' => e = .returned (.int .i64 0) ∧ MachP w' mb ((st.did i).putAt a (wrap64 (v + 1))) ∧ Kept mb.has w w' := by
  have hx := box1 w a
  have hm1 := hm.alloc (.cells #[.int .i64 a] 62)
  have hk1 := (Kept.refl mb.has w).alloc (.cells #[.int .i64 a] 62)
  have HV := Lib.hid hv
  clear hv
  go_enter Try.func37, Try.ntmps37
  go_wp2_with fail
  refine (add_v mb st i a 1 v _ hm1 g1 g2 HV.out).mono ?_
  rintro e w2 ⟨rfl, hm2, hk2⟩
  clear hx
  go_wp2
  go_ret
  exact ⟨rfl, hm2, hk1.trans hk2 (fun _ _ h => h)⟩
theorem evtell_no (mb : MB) (st : MS) (a i : Int) (w : World) (hm : MachP w mb st) (g : st.isCaller i = false ∨ st.isGiven a = false) :
    Calls Try.prog 37 #[.agg #[.int .i64 a], .pointer (some ⟨mb.p, 0, none⟩), .int .i64 i] w fun e w' => e = .returned (.int .i64 10) ∧ MachP w' mb st ∧ Kept mb.has w w' := by
  have hx := box1 w a
  have hm1 := hm.alloc (.cells #[.int .i64 a] 62)
  have hk1 := (Kept.refl mb.has w).alloc (.cells #[.int .i64 a] 62)
  go_enter Try.func37, Try.ntmps37
  go_wp2_with fail
  refine (add_no mb st i a 1 _ hm1 g).mono ?_
  rintro e w2 ⟨rfl, hm2, hk2⟩
  clear hx
  go_wp2
  go_ret
  exact ⟨rfl, hm2, hk1.trans hk2 (fun _ _ h => h)⟩
theorem evtell_nil (a i : Int) (w : World) :
    Calls Try.prog 37 #[.agg #[.int .i64 a], .pointer none, .int .i64 i] w fun e w' => e = .returned (.int .i64 2) ∧ Below w.heap.size w w' := by
  have hx := box1 w a
  go_enter Try.func37, Try.ntmps37
  go_wp2_with fail
  refine (add_nil i a 1 _).mono ?_
  rintro e w2 ⟨rfl, hb2⟩
  clear hx
  go_wp2
  go_ret
  exact ⟨rfl, ((Below.refl _ w).alloc (Nat.le_refl _) _).trans (hb2.mono (by simp))⟩

/-- Is the event of cell a told as often as that? -/
def MS.parked (st : MS) (a seen : Int) : Bool := st.isGiven a && (st.cellOf a == seen)

set_option maxHeartbeats 1000000 in
theorem evparked_any (mb : MB) (st : MS) (a seen : Int) (w : World) (hm : MachP w mb st) :
    Calls Try.prog 44 #[.agg #[.int .i64 a], .pointer (some ⟨mb.p, 0, none⟩), .int .i64 seen] w fun e w' => e = .returned (.bool (st.parked a seen)) ∧ Below w.heap.size w w' := by
  have hx := box1 w a
  have hm1 := hm.alloc (.cells #[.int .i64 a] 62)
  have bel := (Below.refl _ w).alloc (Nat.le_refl _) (.cells #[.int .i64 a] 62)
  by_cases h0 : 0 ≤ a
  · by_cases h1 : a < st.cells.length
    · have hr : st.parked a seen = (st.cellOf a == seen) := by simp [MS.parked, MS.isGiven, h0, h1]
      rw [hr]
      clear hr
      obtain ⟨v, hv⟩ : ∃ v, st.cellOf a = v := ⟨_, rfl⟩
      rw [hv]
      have HV := Lib.hid hv
      clear hv
      go_enter Try.func44, Try.ntmps44
      go_wp2_with fail
      go_quiet ((first | (go_at_call 22; exact used_quiet mb st _ _ hm1) | (go_at_call 17; exact peek_quiet mb st a v _ _ hm1 HV.out)))
      go_wp2
      go_ret
      exact ⟨rfl, below_drewN' bel _⟩
    · have hr : st.parked a seen = false := by simp [MS.parked, MS.isGiven]; omega
      rw [hr]
      clear hr
      have hd : decide (a < (st.cells.length : Int)) = false := by simp; omega
      go_enter Try.func44, Try.ntmps44
      go_wp2_with fail
      go_quiet ((go_at_call 22; exact used_quiet mb st _ _ hm1))
      go_wp2
      go_ret
      exact ⟨rfl, below_drewN' bel _⟩
  · have hr : st.parked a seen = false := by simp [MS.parked, MS.isGiven]; omega
    rw [hr]
    clear hr
    have hd : decide (0 ≤ a) = false := by simp; omega
    go_enter Try.func44, Try.ntmps44
    go_wp2_with fail
    go_quiet (fail)
    go_wp2
    go_ret
    exact ⟨rfl, below_drewN' bel _⟩
end Go.Proofs.Ytelphbfdibfmoaa
