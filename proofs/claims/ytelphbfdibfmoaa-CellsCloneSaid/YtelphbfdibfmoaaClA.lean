/-
  WHAT IS PROVED HERE: contracts of a machine's small methods: caller, given, some, looks, Peek, Steps, Used. Conditions: the pointer is a machine's ('MachC').
-/
import Derived.Test.YtelphbfdibfmoaaProg
import Derived.Test.YtelphbfdibfmoaaClM
import Derived.WalkSpells
import Derived.WalkLawsBesides
import Derived.BigQuiet
import Derived.Deep.QuietTactic
import Derived.Outline
namespace Go.Proofs.Ytelphbfdibfmoaa
open Go.RowKit

abbrev MachCP := MachC 95 2 3

/-- A machine's struct, as the walk reads it. -/
theorem MachC.fields {tM tX tI : TypeId} {w : World} {mb : MB} {st : MS} (h : MachC tM tX tI w mb st) :
    ∃ A cap sc, w.cell? ⟨mb.p, 0, none⟩ = some (.slice A st.cells.length cap) ∧ w.cell? ⟨mb.p, 1, none⟩ = some (.int .i64 st.size) ∧ w.cell? ⟨mb.p, 2, none⟩ = some (.slice (some ⟨mb.s, 0, none⟩) st.steps.length sc) ∧
      (st.cells ≠ [] → A = some ⟨mb.c, 0, none⟩) ∧ st.cells.length ≤ cap ∧ cap ≤ maxLen ∧ (A = none → cap = 0 ∧ st.cells = []) := by
  rcases h.cells with ⟨n, sc, h0, hp, hn', hc⟩ | ⟨cap, rest, n, sc, cp, cs, hp, hc, h1, h2, h5⟩
  · refine ⟨none, 0, sc, ?_, ?_, ?_, ?_, ?_, ?_, ?_⟩
    · rw [hp.cell, h0]; rfl
    · rw [hp.cell]; rfl
    · rw [hp.cell, hn']; rfl
    · intro h; exact absurd h0 h
    · rw [h0]; simp
    · unfold maxLen; omega
    · intro _; exact ⟨rfl, h0⟩
  · refine ⟨some ⟨mb.c, 0, none⟩, cap, sc, ?_, ?_, ?_, fun _ => rfl, by omega, h2, by intro h; cases h⟩
    · rw [hp.cell]; rfl
    · rw [hp.cell]; rfl
    · rw [hp.cell, h5]; rfl

theorem MachC.stepAt {tM tX tI : TypeId} {w : World} {mb : MB} {st : MS} (h : MachC tM tX tI w mb st) (i : Nat) (hi : i < st.steps.length) :
    w.cell? ⟨mb.s, i, none⟩ = some (.int .i64 (st.steps[i]?.getD 0)) := by
  obtain ⟨sr, hsr⟩ := h.steps
  rw [hsr.cell, List.getElem?_append_left (by rw [length_ints]; exact hi), get_ints]
  simp [hi]

theorem MachC.cellAt {tM tX tI : TypeId} {w : World} {mb : MB} {st : MS} (h : MachC tM tX tI w mb st) (i : Nat) (hi : i < st.cells.length) :
    w.cell? ⟨mb.c, i, none⟩ = some (.int .i64 (st.cells[i]?.getD 0)) := by
  rcases h.cells with ⟨n, sc, h0, hp, hn', hc⟩ | ⟨cap, rest, n, sc, cp, cs, hp, hc, h1, h2, h5⟩
  · rw [h0] at hi; simp at hi
  · rw [hc.cell, List.getElem?_append_left (by rw [length_ints]; exact hi), get_ints]
    simp [hi]

theorem MachC.frozenP {tM tX tI : TypeId} {w : World} {mb : MB} {st : MS} (h : MachC tM tX tI w mb st) (i : Nat) : w.frozen? ⟨mb.p, i, none⟩ = false := by
  rcases h.cells with ⟨n, sc, h0, hp, hn', hc⟩ | ⟨cap, rest, n, sc, cp, cs, hp, hc, h1, h2, h5⟩ <;> exact hp.frozen i
theorem MachC.frozenS {tM tX tI : TypeId} {w : World} {mb : MB} {st : MS} (h : MachC tM tX tI w mb st) (i : Nat) : w.frozen? ⟨mb.s, i, none⟩ = false := by
  obtain ⟨sr, hsr⟩ := h.steps
  exact hsr.frozen i
theorem MachC.frozenC {tM tX tI : TypeId} {w : World} {mb : MB} {st : MS} (h : MachC tM tX tI w mb st) (i : Nat) : w.frozen? ⟨mb.c, i, none⟩ = false := by
  rcases h.cells with ⟨n, sc, h0, hp, hn', hc⟩ | ⟨cap, rest, n, sc, cp, cs, hp, hc, h1, h2, h5⟩
  · rw [hc]; exact hp.frozen i
  · exact hc.frozen i

/-- May caller i call? -/
def MS.isCaller (st : MS) (i : Int) : Bool := decide (0 ≤ i ∧ i < st.steps.length)
/-- Is cell i given away? -/
def MS.isGiven (st : MS) (i : Int) : Bool := decide (0 ≤ i ∧ i < st.cells.length)

theorem ret_bool {a b : Bool} (h : a = b) : Ending.returned (.bool a) = .returned (.bool b) := by rw [h]
theorem ret_int {k : IntKind} {a b : Int} (h : a = b) : Ending.returned (.int k a) = .returned (.int k b) := by rw [h]

theorem caller_any (mb : MB) (st : MS) (i : Int) (w : World) (hm : MachCP w mb st) :
    Calls Try.prog 50 #[.pointer (some ⟨mb.p, 0, none⟩), .int .i64 i] w fun e w' => e = .returned (.bool (st.isCaller i)) ∧ w = w' := by
  obtain ⟨A, cap, sc, h0, h1, h2, hA, hl, hcap, hn⟩ := hm.fields
  by_cases a : 0 ≤ i
  · go_enter Try.func50, Try.ntmps50
    go_wp2
    go_ret
    exact ⟨ret_bool (by simp [MS.isCaller, a]), rfl⟩
  · go_enter Try.func50, Try.ntmps50
    go_wp2
    go_ret
    exact ⟨ret_bool (by simp [MS.isCaller]; omega), rfl⟩

theorem given_any (mb : MB) (st : MS) (i : Int) (w : World) (hm : MachCP w mb st) :
    Calls Try.prog 48 #[.pointer (some ⟨mb.p, 0, none⟩), .int .i64 i] w fun e w' => e = .returned (.bool (st.isGiven i)) ∧ w = w' := by
  obtain ⟨A, cap, sc, h0, h1, h2, hA, hl, hcap, hn⟩ := hm.fields
  by_cases a : 0 ≤ i
  · go_enter Try.func48, Try.ntmps48
    go_wp2
    go_ret
    exact ⟨ret_bool (by simp [MS.isGiven, a]), rfl⟩
  · go_enter Try.func48, Try.ntmps48
    go_wp2
    go_ret
    exact ⟨ret_bool (by simp [MS.isGiven]; omega), rfl⟩

theorem some_any (i : Int) (w : World) :
    Calls Try.prog 51 #[.int .i64 i] w fun e w' => e = .returned (.bool (decide (1 ≤ i))) ∧ w = w' := by
  go_enter Try.func51, Try.ntmps51
  go_wp2
  go_ret
  exact ⟨rfl, rfl⟩

/-- 'looks', for a number that has to be right: it is. 'fv': the function handed in; 'K', 'pre': whom it calls. -/
theorem looks_ok (mb : MB) (st : MS) (i n : Int) (w : World) (hm : MachCP w mb st) (h1 : st.isCaller i = true) (h2 : st.isGiven n = true) :
    Calls Try.prog 47 #[.pointer (some ⟨mb.p, 0, none⟩), .int .i64 i, .int .i64 n, .func (.func 48) #[.pointer (some ⟨mb.p, 0, none⟩)] #[]] w fun e w' => e = .returned (.int .i64 0) ∧ w = w' := by
  go_enter Try.func47, Try.ntmps47
  go_wp2_with (first | (go_at_call 50; refine (caller_any mb st i _ hm).mono ?_; rintro e w' ⟨rfl, rfl⟩) | (go_at_call 48; refine (given_any mb st n _ hm).mono ?_; rintro e w' ⟨rfl, rfl⟩))
  go_ret
  exact ⟨rfl, rfl⟩

theorem looks_no (mb : MB) (st : MS) (i n : Int) (w : World) (hm : MachCP w mb st) (h : st.isCaller i = false ∨ st.isGiven n = false) :
    Calls Try.prog 47 #[.pointer (some ⟨mb.p, 0, none⟩), .int .i64 i, .int .i64 n, .func (.func 48) #[.pointer (some ⟨mb.p, 0, none⟩)] #[]] w fun e w' => e = .returned (.int .i64 10) ∧ w = w' := by
  cases h1 : st.isCaller i with
  | false =>
    clear h
    go_enter Try.func47, Try.ntmps47
    go_wp2_with (first | (go_at_call 50; refine (caller_any mb st i _ hm).mono ?_; rintro e w' ⟨rfl, rfl⟩) | (go_at_call 48; refine (given_any mb st n _ hm).mono ?_; rintro e w' ⟨rfl, rfl⟩))
    go_ret
    exact ⟨rfl, rfl⟩
  | true =>
    have h2 : st.isGiven n = false := by simpa [h1] using h
    clear h
    go_enter Try.func47, Try.ntmps47
    go_wp2_with (first | (go_at_call 50; refine (caller_any mb st i _ hm).mono ?_; rintro e w' ⟨rfl, rfl⟩) | (go_at_call 48; refine (given_any mb st n _ hm).mono ?_; rintro e w' ⟨rfl, rfl⟩))
    go_ret
    exact ⟨rfl, rfl⟩

theorem looksome_ok (mb : MB) (st : MS) (i n : Int) (w : World) (hm : MachCP w mb st) (h1 : st.isCaller i = true) (h2 : 1 ≤ n) :
    Calls Try.prog 47 #[.pointer (some ⟨mb.p, 0, none⟩), .int .i64 i, .int .i64 n, .func (.func 51) #[] #[]] w fun e w' => e = .returned (.int .i64 0) ∧ w = w' := by
  go_enter Try.func47, Try.ntmps47
  go_wp2_with (first | (go_at_call 50; refine (caller_any mb st i _ hm).mono ?_; rintro e w' ⟨rfl, rfl⟩) | (go_at_call 51; refine (some_any n _).mono ?_; rintro e w' ⟨rfl, rfl⟩))
  go_ret
  exact ⟨rfl, rfl⟩

theorem looksome_no (mb : MB) (st : MS) (i n : Int) (w : World) (hm : MachCP w mb st) (h : st.isCaller i = false ∨ n < 1) :
    Calls Try.prog 47 #[.pointer (some ⟨mb.p, 0, none⟩), .int .i64 i, .int .i64 n, .func (.func 51) #[] #[]] w fun e w' => e = .returned (.int .i64 10) ∧ w = w' := by
  cases h1 : st.isCaller i with
  | false =>
    clear h
    go_enter Try.func47, Try.ntmps47
    go_wp2_with (first | (go_at_call 50; refine (caller_any mb st i _ hm).mono ?_; rintro e w' ⟨rfl, rfl⟩) | (go_at_call 51; refine (some_any n _).mono ?_; rintro e w' ⟨rfl, rfl⟩))
    go_ret
    exact ⟨rfl, rfl⟩
  | true =>
    have h2 : decide (1 ≤ n) = false := by
      have : n < 1 := by simpa [h1] using h
      simp; omega
    clear h
    go_enter Try.func47, Try.ntmps47
    go_wp2_with (first | (go_at_call 50; refine (caller_any mb st i _ hm).mono ?_; rintro e w' ⟨rfl, rfl⟩) | (go_at_call 51; refine (some_any n _).mono ?_; rintro e w' ⟨rfl, rfl⟩))
    go_ret
    exact ⟨rfl, rfl⟩

/-- How many steps a caller did. -/
def MS.stepsOf (st : MS) (i : Int) : Int := if 0 ≤ i ∧ i < st.steps.length then st.steps[i.toNat]?.getD 0 else 0
/-- The number of a cell, 0 of none. -/
def MS.cellOf (st : MS) (i : Int) : Int := if 0 ≤ i ∧ i < st.cells.length then st.cells[i.toNat]?.getD 0 else 0

theorem steps_any (mb : MB) (st : MS) (i : Int) (w : World) (hm : MachCP w mb st) :
    Calls Try.prog 23 #[.pointer (some ⟨mb.p, 0, none⟩), .int .i64 i] w fun e w' => e = .returned (.int .i64 (st.stepsOf i)) ∧ w = w' := by
  obtain ⟨A, cap, sc, h0, h1, h2, hA, hl, hcap, hn⟩ := hm.fields
  clear hA hn
  cases hc : st.isCaller i with
  | false =>
    go_enter Try.func23, Try.ntmps23
    go_wp2_with (go_at_call 50; refine (caller_any mb st i _ hm).mono ?_; rintro e w' ⟨rfl, rfl⟩)
    go_ret
    exact ⟨ret_int (by unfold MS.stepsOf; rw [if_neg (by simpa [MS.isCaller] using hc)]), rfl⟩
  | true =>
    have hi : 0 ≤ i ∧ i < st.steps.length := by simpa [MS.isCaller] using hc
    obtain ⟨hi1, hi2⟩ := hi
    have hcell := hm.stepAt i.toNat (by omega)
    go_enter Try.func23, Try.ntmps23
    go_wp2_with (go_at_call 50; refine (caller_any mb st i _ hm).mono ?_; rintro e w' ⟨rfl, rfl⟩)
    go_ret
    exact ⟨ret_int (by unfold MS.stepsOf; rw [if_pos ⟨hi1, hi2⟩]; simp [show i.toNat < st.steps.length by omega]), rfl⟩

theorem peek_any (mb : MB) (st : MS) (i : Int) (w : World) (hm : MachCP w mb st) :
    Calls Try.prog 17 #[.pointer (some ⟨mb.p, 0, none⟩), .int .i64 i] w fun e w' => e = .returned (.int .i64 (st.cellOf i)) ∧ w = w' := by
  obtain ⟨A, cap, sc, h0, h1, h2, hA, hl, hcap, hn⟩ := hm.fields
  cases hc : st.isGiven i with
  | false =>
    clear hA hn
    go_enter Try.func17, Try.ntmps17
    go_wp2_with (go_at_call 48; refine (given_any mb st i _ hm).mono ?_; rintro e w' ⟨rfl, rfl⟩)
    go_ret
    exact ⟨ret_int (by unfold MS.cellOf; rw [if_neg (by simpa [MS.isGiven] using hc)]), rfl⟩
  | true =>
    have hi : 0 ≤ i ∧ i < st.cells.length := by simpa [MS.isGiven] using hc
    obtain ⟨hi1, hi2⟩ := hi
    have hne : st.cells ≠ [] := by intro h; rw [h] at hi2; simp at hi2; omega
    obtain rfl := hA hne
    have hcell := hm.cellAt i.toNat (by omega)
    clear hA hn hne
    go_enter Try.func17, Try.ntmps17
    go_wp2_with (go_at_call 48; refine (given_any mb st i _ hm).mono ?_; rintro e w' ⟨rfl, rfl⟩)
    go_ret
    exact ⟨ret_int (by unfold MS.cellOf; rw [if_pos ⟨hi1, hi2⟩]; simp [show i.toNat < st.cells.length by omega]), rfl⟩

theorem used_any (mb : MB) (st : MS) (w : World) (hm : MachCP w mb st) :
    Calls Try.prog 22 #[.pointer (some ⟨mb.p, 0, none⟩)] w fun e w' => e = .returned (.int .i64 st.cells.length) ∧ w = w' := by
  obtain ⟨A, cap, sc, h0, h1, h2, hA, hl, hcap, hn⟩ := hm.fields
  clear hA hn
  go_enter Try.func22, Try.ntmps22
  go_wp2
  go_ret
  exact ⟨rfl, rfl⟩
end Go.Proofs.Ytelphbfdibfmoaa
