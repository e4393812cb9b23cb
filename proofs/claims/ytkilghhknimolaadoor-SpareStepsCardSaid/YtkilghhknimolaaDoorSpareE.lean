/-
  WHAT IS PROVED HERE: contracts of (*spare.Op).Step: over the contract of the step that is next. Conditions: as in the contracts.
-/
import Derived.Test.YtkilghhknimolaaDoorSpareD
namespace Go.Proofs.YtkilghhknimolaaDoor
open Go.RowKit

/-- A step that is next, or none. -/
def boundV (F o : Nat) : Value := .func (.func F) #[.pointer (some ⟨o, 0, none⟩)] #[]
set_option maxRecDepth 100000 in
theorem nil_bound (F o : Nat) (W : World) : Sem.run Tryd.prog (binOp .eql 74 (.func (.func F) #[.pointer (some ⟨o, 0, none⟩)] #[]) .nilFunc) W = .ok (.bool false) W := by first | rfl | kernel_rfl
set_option maxRecDepth 100000 in
theorem nil_nil (W : World) : Sem.run Tryd.prog (binOp .eql 74 .nilFunc .nilFunc) W = .ok (.bool true) W := by first | rfl | kernel_rfl
section
variable {w : World} {o : Nat} {b m self wait on mv : Int}
set_option maxRecDepth 20000 in
set_option maxHeartbeats 1000000 in
theorem step_zero {F : Nat} (hF : ∀ (l : Array Value) (W : World), Sem.run Tryd.prog (callFunc F l) W = .ok (.enter F l) W) (h : OpB w o 0 b m self wait on mv (boundV F o)) (hr : rightB b m = true) (hm : -9223372036854775808 ≤ m ∧ m ≤ 9223372036854775807) (i : Int) (p : Addr) (nx : Value) (dn : Bool)
    (hn : (nx = .nilFunc ∧ dn = true) ∨ ((∃ G, nx = boundV G o) ∧ dn = false)) (R : World → Prop)
    (hc : ∀ w1, Below w.heap.size w w1 → Calls Tryd.prog F #[.pointer (some ⟨o, 0, none⟩), .pointer (some p), .int .i64 i] w1 fun e w' => e = .returned (.int .i64 0) ∧ w'.cell? ⟨o, 7, none⟩ = some nx ∧ R w') :
    Calls Tryd.prog 25 #[.pointer (some ⟨o, 0, none⟩), .pointer (some p), .int .i64 i] w fun e w' => e = .returned (.tuple #[.bool dn, .int .i64 0]) ∧ R w' := by
  have c0 := h.cell
  have hri := right_ok 0 b m w hm
  rw [hr] at hri
  unfold spV at hri
  have nb := nil_bound F o
  have HR := Lib.hid hri
  have H := Lib.hid h
  have HC := Lib.hid hc
  have HN := Lib.hid hn
  unfold boundV at c0
  have HF := Lib.hid hF
  clear h hri hc hn hF
  go_enter Tryd.func25, Tryd.ntmps25
  go_wp2_with fail
  refine HR.out.mono ?_
  rintro e w2 ⟨rfl, hb2⟩
  have h2 := H.out.below hb2 H.out.lt
  have c2 := h2.cell
  unfold boundV at c2
  have hc2 := HC.out w2 hb2
  have hF := HF.out
  clear h2 c0 HR H HC hb2
  go_wp2_with fail
  refine hc2.mono ?_
  rintro e w3 ⟨rfl, c3, hR⟩
  rcases HN.out with ⟨rfl, rfl⟩ | ⟨⟨G, rfl⟩, rfl⟩
  · have nn := nil_nil
    have HRR := Lib.hid hR
    clear hc2 HN c2 nb hR
    go_wp2_with fail
    go_ret2
    exact ⟨rfl, HRR.out⟩
  · unfold boundV at c3
    have nb2 := nil_bound G o
    have HRR := Lib.hid hR
    clear hc2 HN c2 nb hR
    go_wp2_with fail
    go_ret2
    exact ⟨rfl, HRR.out⟩
set_option maxRecDepth 20000 in
set_option maxHeartbeats 1000000 in
theorem step_ten {F : Nat} (hF : ∀ (l : Array Value) (W : World), Sem.run Tryd.prog (callFunc F l) W = .ok (.enter F l) W) (h : OpB w o 0 b m self wait on mv (boundV F o)) (hr : rightB b m = true) (hm : -9223372036854775808 ≤ m ∧ m ≤ 9223372036854775807) (i : Int) (p : Addr) (R : World → Prop)
    (hc : ∀ w1, Below w.heap.size w w1 → Calls Tryd.prog F #[.pointer (some ⟨o, 0, none⟩), .pointer (some p), .int .i64 i] w1 fun e w' => e = .returned (.int .i64 10) ∧ R w') :
    Calls Tryd.prog 25 #[.pointer (some ⟨o, 0, none⟩), .pointer (some p), .int .i64 i] w fun e w' => e = .returned (.tuple #[.bool false, .int .i64 10]) ∧ R w' := by
  have c0 := h.cell
  have hri := right_ok 0 b m w hm
  rw [hr] at hri
  unfold spV at hri
  have nb := nil_bound F o
  have HR := Lib.hid hri
  have H := Lib.hid h
  have HC := Lib.hid hc
  unfold boundV at c0
  have HF := Lib.hid hF
  clear h hri hc hF
  go_enter Tryd.func25, Tryd.ntmps25
  go_wp2_with fail
  refine HR.out.mono ?_
  rintro e w2 ⟨rfl, hb2⟩
  have h2 := H.out.below hb2 H.out.lt
  have c2 := h2.cell
  unfold boundV at c2
  have hc2 := HC.out w2 hb2
  have hF := HF.out
  clear h2 c0 HR H HC hb2
  go_wp2_with fail
  refine hc2.mono ?_
  rintro e w3 ⟨rfl, hR⟩
  have HRR := Lib.hid hR
  clear hc2 c2 nb hR
  go_wp2_with fail
  go_ret2
  exact ⟨rfl, HRR.out⟩
set_option maxRecDepth 20000 in
set_option maxHeartbeats 1000000 in
theorem step_done {next : Value} (hnx : next = .nilFunc) (h : OpB w o 0 b m self wait on mv next) (hr : rightB b m = true) (hm : -9223372036854775808 ≤ m ∧ m ≤ 9223372036854775807) (i : Int) (p : Addr) :
    Calls Tryd.prog 25 #[.pointer (some ⟨o, 0, none⟩), .pointer (some p), .int .i64 i] w fun e w' => e = .returned (.tuple #[.bool true, .int .i64 0]) ∧ Below w.heap.size w w' := by
  subst hnx
  have c0 := h.cell
  have hri := right_ok 0 b m w hm
  rw [hr] at hri
  unfold spV at hri
  have nn := nil_nil
  have HR := Lib.hid hri
  have H := Lib.hid h
  clear h hri
  go_enter Tryd.func25, Tryd.ntmps25
  go_wp2_with fail
  refine HR.out.mono ?_
  rintro e w2 ⟨rfl, hb2⟩
  have c2 := (H.out.below hb2 H.out.lt).cell
  have HB := Lib.hid hb2
  clear c0 HR H hb2
  go_wp2_with fail
  go_ret2
  exact ⟨rfl, HB.out⟩
set_option maxRecDepth 20000 in
set_option maxHeartbeats 1000000 in
theorem step_wrong {next : Value} (h : OpB w o 0 b m self wait on mv next) (hr : rightB b m = false) (hm : -9223372036854775808 ≤ m ∧ m ≤ 9223372036854775807) (i : Int) (p : Addr) :
    Calls Tryd.prog 25 #[.pointer (some ⟨o, 0, none⟩), .pointer (some p), .int .i64 i] w fun e w' => e = .returned (.tuple #[.bool false, .int .i64 1]) ∧ Below w.heap.size w w' := by
  have c0 := h.cell
  have hri := right_ok 0 b m w hm
  rw [hr] at hri
  unfold spV at hri
  have HR := Lib.hid hri
  clear h hri
  go_enter Tryd.func25, Tryd.ntmps25
  go_wp2_with fail
  refine HR.out.mono ?_
  rintro e w2 ⟨rfl, hb2⟩
  have HB := Lib.hid hb2
  clear c0 HR hb2
  go_wp2_with fail
  go_ret2
  exact ⟨rfl, HB.out⟩
theorem step_nil (m i : Value) (w : World) : Calls Tryd.prog 25 #[.pointer none, m, i] w fun e w' => e = .returned (.tuple #[.bool false, .int .i64 2]) ∧ w = w' := by
  go_enter Tryd.func25, Tryd.ntmps25
  go_wp2_with fail
  go_ret2
  exact ⟨rfl, rfl⟩
theorem step_nomach (o : Nat) (i : Value) (w : World) : Calls Tryd.prog 25 #[.pointer (some ⟨o, 0, none⟩), .pointer none, i] w fun e w' => e = .returned (.tuple #[.bool false, .int .i64 2]) ∧ w = w' := by
  go_enter Tryd.func25, Tryd.ntmps25
  go_wp2_with fail
  go_ret2
  exact ⟨rfl, rfl⟩
set_option maxRecDepth 100000 in
theorem enter_more (l : Array Value) (W : World) : Sem.run Tryd.prog (callFunc 58 l) W = .ok (.enter 58 l) W := by first | rfl | kernel_rfl
end
end Go.Proofs.YtkilghhknimolaaDoor
