/-
  WHAT IS PROVED HERE: contracts of package event's New and of a wait: Wait, Ready, Park, Leave, Parked. Conditions: pointers are nil, or a machine's ('Mach'), or a wait's block.
-/
import Derived.Test.YtelphbfdibfmoaaEvent
import Derived.StillTailTactics
namespace Go.Proofs.Ytelphbfdibfmoaa
open Go.RowKit

set_option maxHeartbeats 1000000 in
theorem evnew_ok (mb : MB) (st : MS) (i : Int) (w : World) (hm : MachP w mb st) (g1 : st.isCaller i = true) (g3 : (st.cells.length : Int) + 1 ≤ st.size) (g4 : st.size ≤ 1048576) :
    Calls Try.prog 32 #[.pointer (some ⟨mb.p, 0, none⟩), .int .i64 i] w fun e w' =>
      e = .returned (.tuple #[.agg #[.int .i64 st.cells.length], .int .i64 0]) ∧ Kept mb.has w w' ∧ ∃ c, w.heap.size ≤ c ∧ MachP w' ⟨mb.p, c, mb.s⟩ ((st.did i).more 1) := by
  have hm1 := hm.alloc (.cells #[.int .i64 0] 62)
  have hk1 := (Kept.refl mb.has w).alloc (.cells #[.int .i64 0] 62)
  have hlt := hm.lt
  have q1 : Blk (w.alloc (.cells #[.int .i64 0] 62)) w.heap.size 62 [.int .i64 0] := Blk.new w _ _
  have HL := Lib.hid hlt
  have G3 := Lib.hid g3
  have G4 := Lib.hid g4
  clear hlt g3 g4
  go_enter Try.func32, Try.ntmps32
  go_wp2_with fail
  refine (alloc_okI mb st i 1 _ hm1 g1 (by omega) G3.out G4.out).mono ?_
  rintro e w2 ⟨rfl, hk2, c, hc, hm2⟩
  have q2 := q1.kept hk2 (fun h => by have := HL.out _ h; omega)
  have x2 := q2.cell
  have f2 := q2.frozen
  rw [World.size_alloc] at hc
  have hz : w.heap.size < w2.heap.size := q2.lt
  have hne : ¬ (⟨mb.p, c, mb.s⟩ : MB).has w.heap.size := by
    rintro (h | h | h)
    · have := HL.out mb.p (.inl rfl); simp only at h; omega
    · simp only at h; omega
    · have := HL.out mb.s (.inr (.inr rfl)); simp only at h; omega
  clear hm1
  go_wp2
  have q3 := q2.set 0 (.int .i64 st.cells.length)
  have x3 := q3.cell
  refine bodyPost_ret (v := .tuple #[.agg #[.int .i64 st.cells.length], .int .i64 0]) (by simp [results, Try.results32, go_sem, x3]) rfl ⟨rfl, (hk1.trans hk2 (fun _ _ h => h)).setCell (.inr (Nat.le_refl _)) _, c, by omega, hm2.setOther hne _⟩

set_option maxHeartbeats 1000000 in
theorem evnew_full (mb : MB) (st : MS) (i : Int) (w : World) (hm : MachP w mb st) (g1 : st.isCaller i = true) (g3 : st.size < st.cells.length + 1) (g4 : 0 ≤ st.size) (g5 : st.size ≤ 1048576) :
    Calls Try.prog 32 #[.pointer (some ⟨mb.p, 0, none⟩), .int .i64 i] w fun e w' =>
      e = .returned (.tuple #[.agg #[.int .i64 0], .int .i64 21]) ∧ Below w.heap.size w w' := by
  have hm1 := hm.alloc (.cells #[.int .i64 0] 62)
  have q1 : Blk (w.alloc (.cells #[.int .i64 0] 62)) w.heap.size 62 [.int .i64 0] := Blk.new w _ _
  have x1 := q1.cell
  have f1 := q1.frozen
  have G3 := Lib.hid g3
  clear g3
  go_enter Try.func32, Try.ntmps32
  go_wp2_with fail
  refine (alloc_full mb st i 1 _ hm1 g1 (by omega) G3.out g4 g5).mono ?_
  rintro e w2 ⟨rfl, rfl⟩
  clear hm1
  go_wp2
  exact bodyPost_ret (v := .tuple #[.agg #[.int .i64 0], .int .i64 21]) (by simp [results, Try.results32, go_sem]) rfl ⟨rfl, (Below.refl _ w).alloc (Nat.le_refl _) _⟩

theorem evnew_nil (i : Int) (w : World) :
    Calls Try.prog 32 #[.pointer none, .int .i64 i] w fun e w' =>
      e = .returned (.tuple #[.agg #[.int .i64 0], .int .i64 2]) ∧ Below w.heap.size w w' := by
  have q1 : Blk (w.alloc (.cells #[.int .i64 0] 62)) w.heap.size 62 [.int .i64 0] := Blk.new w _ _
  have x1 := q1.cell
  have f1 := q1.frozen
  go_enter Try.func32, Try.ntmps32
  go_wp2
  exact bodyPost_ret (v := .tuple #[.agg #[.int .i64 0], .int .i64 2]) (by simp [results, Try.results32, go_sem]) rfl ⟨rfl, (Below.refl _ w).alloc (Nat.le_refl _) _⟩

/-! ## Waits -/
/-- Block x is a wait for the event of cell a: how it stands, what it has seen. -/
def WaitB (w : World) (x : Nat) (a how seen : Int) : Prop := Blk w x 97 [.int .i64 a, .int .i64 how, .int .i64 seen]

theorem wait_any (a : Int) (w : World) :
    Calls Try.prog 34 #[.agg #[.int .i64 a]] w fun e w' => ∃ x, e = .returned (.pointer (some ⟨x, 0, none⟩)) ∧ WaitB w' x a 0 0 ∧ Below w.heap.size w w' ∧ w.heap.size ≤ x := by
  have hx := box1 w a
  go_enter Try.func34, Try.ntmps34
  go_wp2
  go_ret
  have q := Blk.new (w.alloc (.cells #[.int .i64 a] 62)) 97 [.int .i64 a, .int .i64 0, .int .i64 0]
  rw [World.size_alloc] at q
  exact ⟨w.heap.size + 1, rfl, q, ((Below.refl _ w).alloc (Nat.le_refl _) _).alloc (by simp) _, by omega⟩

set_option maxHeartbeats 1000000 in
theorem ready_ok (mb : MB) (st : MS) (x : Nat) (a how seen i v : Int) (w : World) (hm : MachP w mb st) (hw : WaitB w x a how seen) (hx : ¬ mb.has x) (g1 : st.isCaller i = true) (g2 : st.isGiven a = true) (hv : st.cellOf a = v) :
    Calls Try.prog 35 #[.pointer (some ⟨x, 0, none⟩), .pointer (some ⟨mb.p, 0, none⟩), .int .i64 i] w fun e w' =>
      e = .returned (.int .i64 0) ∧ MachP w' mb (st.did i) ∧ WaitB w' x a 1 v ∧ Kept (fun k => mb.has k ∨ k = x) w w' := by
  have c1 := Blk.cell hw
  have HV := Lib.hid hv
  clear hv
  go_enter Try.func35, Try.ntmps35
  go_wp2_with fail
  refine (evread_ok mb st a i v _ hm g1 g2 HV.out).mono ?_
  rintro e w2 ⟨rfl, hm2, hk2⟩
  have q2 := Blk.kept hw hk2 hx
  have c2 := q2.cell
  have f2 := q2.frozen
  clear c1
  go_wp2
  go_ret
  have q3 := (q2.set 1 (.int .i64 1)).set 2 (.int .i64 v)
  exact ⟨rfl, (hm2.setOther (p := ⟨x, 1, none⟩) hx _).setOther (p := ⟨x, 2, none⟩) hx _, q3, ((hk2.mono (fun _ _ h => .inl h)).setCell (p := ⟨x, 1, none⟩) (.inl (.inr rfl)) _).setCell (p := ⟨x, 2, none⟩) (.inl (.inr rfl)) _⟩

theorem ready_no (mb : MB) (st : MS) (x : Nat) (a how seen i : Int) (w : World) (hm : MachP w mb st) (hw : WaitB w x a how seen) (g : st.isCaller i = false ∨ st.isGiven a = false) :
    Calls Try.prog 35 #[.pointer (some ⟨x, 0, none⟩), .pointer (some ⟨mb.p, 0, none⟩), .int .i64 i] w fun e w' =>
      e = .returned (.int .i64 10) ∧ Below w.heap.size w w' := by
  have c1 := Blk.cell hw
  go_enter Try.func35, Try.ntmps35
  go_wp2_with fail
  refine (evread_no mb st a i _ hm g).mono ?_
  rintro e w2 ⟨rfl, hb2⟩
  clear c1
  go_wp2
  go_ret
  exact ⟨rfl, hb2⟩

theorem ready_nilx (m : Option Addr) (i : Int) (w : World) :
    Calls Try.prog 35 #[.pointer none, .pointer m, .int .i64 i] w fun e w' => e = .returned (.int .i64 2) ∧ w = w' := by
  go_enter Try.func35, Try.ntmps35
  go_wp2
  go_ret
  exact ⟨rfl, rfl⟩
theorem ready_nilm (x : Nat) (i : Int) (w : World) :
    Calls Try.prog 35 #[.pointer (some ⟨x, 0, none⟩), .pointer none, .int .i64 i] w fun e w' => e = .returned (.int .i64 2) ∧ w = w' := by
  go_enter Try.func35, Try.ntmps35
  go_wp2
  go_ret
  exact ⟨rfl, rfl⟩

theorem park_ok (x : Nat) (a seen : Int) (w : World) (hw : WaitB w x a 1 seen) :
    Calls Try.prog 36 #[.pointer (some ⟨x, 0, none⟩)] w fun e w' => e = .returned (.int .i64 0) ∧ WaitB w' x a 2 seen ∧ Kept (fun k => k = x) w w' := by
  have c1 := Blk.cell hw
  have f1 := Blk.frozen hw
  go_enter Try.func36, Try.ntmps36
  go_wp2
  go_ret
  exact ⟨rfl, Blk.set hw 1 (.int .i64 2), (Kept.refl (fun k => k = x) w).setCell (p := ⟨x, 1, none⟩) (.inl rfl) _⟩
theorem park_no (x : Nat) (a how seen : Int) (w : World) (hw : WaitB w x a how seen) (h1 : ¬ how = 1) :
    Calls Try.prog 36 #[.pointer (some ⟨x, 0, none⟩)] w fun e w' => e = .returned (.int .i64 19) ∧ w = w' := by
  have c1 := Blk.cell hw
  have h1' : (how != 1) = true := by simpa using h1
  clear h1
  go_enter Try.func36, Try.ntmps36
  go_wp2
  go_ret
  exact ⟨rfl, rfl⟩
theorem park_nil (w : World) :
    Calls Try.prog 36 #[.pointer none] w fun e w' => e = .returned (.int .i64 2) ∧ w = w' := by
  go_enter Try.func36, Try.ntmps36
  go_wp2
  go_ret
  exact ⟨rfl, rfl⟩

theorem leave_any (x : Nat) (a how seen : Int) (w : World) (hw : WaitB w x a how seen) :
    Calls Try.prog 40 #[.pointer (some ⟨x, 0, none⟩)] w fun e w' => e = .returned (.tuple #[]) ∧ WaitB w' x a 0 seen ∧ Kept (fun k => k = x) w w' := by
  have c1 := Blk.cell hw
  have f1 := Blk.frozen hw
  go_enter Try.func40, Try.ntmps40
  go_wp2
  go_end0
  exact ⟨rfl, Blk.set hw 1 (.int .i64 0), (Kept.refl (fun k => k = x) w).setCell (p := ⟨x, 1, none⟩) (.inl rfl) _⟩
theorem leave_nil (w : World) :
    Calls Try.prog 40 #[.pointer none] w fun e w' => e = .returned (.tuple #[]) ∧ w = w' := by
  go_enter Try.func40, Try.ntmps40
  go_wp2
  go_end0
  exact ⟨rfl, rfl⟩

set_option maxRecDepth 100000 in
set_option maxHeartbeats 1000000 in
theorem wparked_any (mb : MB) (st : MS) (x : Nat) (a how seen : Int) (w : World) (hm : MachP w mb st) (hw : WaitB w x a how seen) :
    Calls Try.prog 38 #[.pointer (some ⟨x, 0, none⟩), .pointer (some ⟨mb.p, 0, none⟩)] w fun e w' => e = .returned (.bool (how == 2 && st.parked a seen)) ∧ Below w.heap.size w w' := by
  have c1 := Blk.cell hw
  by_cases h2 : how = 2
  · subst h2
    have hr : ((2 : Int) == 2 && st.parked a seen) = st.parked a seen := by simp
    rw [hr]
    clear hr
    go_enter Try.func38, Try.ntmps38
    go_wp2_with fail
    go_still_tail 19, (by kernel_rfl)
    change wpList _ _ _ _ _ w.drew
    go_wp2_with fail
    refine (evparked_any mb st a seen _ hm.drew).mono ?_
    rintro e w2 ⟨rfl, hb2⟩
    go_wp2
    go_ret
    exact ⟨rfl, ⟨hb2.os, hb2.tape, hb2.output, hb2.size, hb2.block⟩⟩
  · have h2' : (how == 2) = false := by simpa using h2
    rw [h2', Bool.false_and]
    clear h2
    go_enter Try.func38, Try.ntmps38
    go_wp2_with fail
    go_quiet (fail)
    go_wp2
    go_ret
    exact ⟨rfl, below_drewN' (Below.refl _ _) _⟩
end Go.Proofs.Ytelphbfdibfmoaa
