/-
  WHAT IS PROVED HERE: one contract for each step of an operation of spare: what it does to its machine and to itself, as a plain function. Conditions: as in the contracts.
-/
import Derived.Test.YtkilghhknimolaaDoorSpareF
namespace Go.Proofs.YtkilghhknimolaaDoor
open Go.RowKit

set_option maxRecDepth 100000 in
theorem enter_less (l : Array Value) (W : World) : Sem.run Tryd.prog (callFunc 60 l) W = .ok (.enter 60 l) W := by first | rfl | kernel_rfl
set_option maxRecDepth 100000 in
theorem enter_look (l : Array Value) (W : World) : Sem.run Tryd.prog (callFunc 59 l) W = .ok (.enter 59 l) W := by first | rfl | kernel_rfl
set_option maxRecDepth 100000 in
theorem enter_need (l : Array Value) (W : World) : Sem.run Tryd.prog (callFunc 64 l) W = .ok (.enter 64 l) W := by first | rfl | kernel_rfl
set_option maxRecDepth 100000 in
theorem enter_many (l : Array Value) (W : World) : Sem.run Tryd.prog (callFunc 65 l) W = .ok (.enter 65 l) W := by first | rfl | kernel_rfl
set_option maxRecDepth 100000 in
theorem enter_turn (l : Array Value) (W : World) : Sem.run Tryd.prog (callFunc 67 l) W = .ok (.enter 67 l) W := by first | rfl | kernel_rfl

/-- A machine of two cells. -/
def spM (sz : Int) (l : List Int) (wt on : Int) : MS := { cells := [wt, on], size := sz, steps := l }
def dl (l : List Int) (i : Int) : List Int := l.set i.toNat (wrap64 (l[i.toNat]?.getD 0 + 1))
/-- An operation under way: its number, what it read, whom it moved, its next step (0: none). -/
structure OS where
  self : Int
  wait : Int
  on : Int
  mv : Int
  ph : Nat
def phV (ph o : Nat) : Value :=
  match ph with
  | 1 => boundV 58 o
  | 2 => boundV 60 o
  | 3 => boundV 59 o
  | 4 => boundV 64 o
  | 5 => boundV 65 o
  | 6 => boundV 67 o
  | _ => .nilFunc
/-- What an operation and its two cells are. -/
structure PS where
  wt : Int
  on : Int
  q : OS
def cnt (on : Int) : Int := ((membersOf on).length : Nat)
def stepP (b : Nat) (m : Int) (s : PS) : PS :=
  match s.q.ph with
  | 1 => ⟨wrap64 (s.wt + 1), s.on, ⟨s.q.self, wrap64 (s.wt + 1), s.q.on, s.q.mv, 4⟩⟩
  | 2 => ⟨wrap64 (s.wt + -1), s.on, ⟨s.q.self, s.q.wait, s.q.on, s.q.mv, 0⟩⟩
  | 3 => ⟨s.wt, s.on, ⟨s.q.self, s.wt, s.q.on, s.q.mv, 5⟩⟩
  | 4 => if cnt s.on < m ∧ cnt s.on < s.q.wait then ⟨s.wt, s.on, ⟨pickV s.on b, s.q.wait, s.on, s.q.mv, 6⟩⟩ else ⟨s.wt, s.on, ⟨s.q.self, s.q.wait, s.on, s.q.mv, 0⟩⟩
  | 5 => if (hasBit s.on s.q.self && decide (s.q.wait < cnt s.on)) = true then ⟨s.wt, s.on, ⟨s.q.self, s.q.wait, s.on, s.q.mv, 6⟩⟩ else ⟨s.wt, s.on, ⟨s.q.self, s.q.wait, s.on, s.q.mv, 0⟩⟩
  | 6 => if s.on = s.q.on then ⟨s.wt, flipV s.q.on s.q.self.toNat, ⟨s.q.self, s.q.wait, s.q.on, s.q.self, 0⟩⟩ else ⟨s.wt, s.on, ⟨s.q.self, s.q.wait, s.q.on, s.q.mv, 0⟩⟩
  | _ => s
/-- An operation that a step may be done of. -/
def OkP (s : PS) : Prop := 1 ≤ s.q.ph ∧ s.q.ph ≤ 6 ∧ (s.q.ph = 6 → 0 ≤ s.q.self ∧ s.q.self < 64)
/-- An operation of spares at 0. -/
abbrev OpQ (w : World) (o : Nat) (b m : Int) (q : OS) : Prop := OpB w o 0 b m q.self q.wait q.on q.mv (phV q.ph o)
section
variable {w : World} {mb : MB} {o : Nat} {m : Int}
theorem step_glue {st st' : MS} {b self wait on mv s' wa' on' mv' : Int} {F : Nat} (hF : ∀ (l : Array Value) (W : World), Sem.run Tryd.prog (callFunc F l) W = .ok (.enter F l) W) (hm : MachP w mb st) (h : OpB w o 0 b m self wait on mv (boundV F o)) (hT : Tab w) (hr : rightB b m = true) (hi : i64B m) (i : Int) (nx : Value) (dn : Bool)
    (hn : (nx = .nilFunc ∧ dn = true) ∨ ((∃ G, nx = boundV G o) ∧ dn = false))
    (hin : ∀ w1, MachP w1 mb st → OpB w1 o 0 b m self wait on mv (boundV F o) → Tab w1 → Calls Tryd.prog F #[.pointer (some ⟨o, 0, none⟩), .pointer (some ⟨mb.p, 0, none⟩), .int .i64 i] w1 fun e w' => e = .returned (.int .i64 0) ∧ MachP w' mb st' ∧ OpB w' o 0 b m s' wa' on' mv' nx ∧ Kept (fun k => mb.has k ∨ k = o) w1 w') :
    Calls Tryd.prog 25 #[.pointer (some ⟨o, 0, none⟩), .pointer (some ⟨mb.p, 0, none⟩), .int .i64 i] w fun e w' => e = .returned (.tuple #[.bool dn, .int .i64 0]) ∧ MachP w' mb st' ∧ OpB w' o 0 b m s' wa' on' mv' nx ∧ Kept (fun k => mb.has k ∨ k = o) w w' := by
  refine (step_zero hF h hr hi i ⟨mb.p, 0, none⟩ nx dn hn (fun w' => MachP w' mb st' ∧ OpB w' o 0 b m s' wa' on' mv' nx ∧ Kept (fun k => mb.has k ∨ k = o) w w') ?_).mono fun _ _ x => x
  intro w1 hb
  have hk : Kept (fun _ => False) w w1 := Kept.of_below hb
  refine (hin w1 (hm.kept hk (fun _ _ e => e)) (h.below hb h.lt) (hT.below hb hT.lt)).mono ?_
  rintro e w' ⟨he, hm', ho', hk'⟩
  exact ⟨he, ho'.cell 7, hm', ho', (Kept.of_below (S := fun k => mb.has k ∨ k = o) hb).trans hk' (fun _ _ e => e)⟩
theorem step_glue_no {st : MS} {b self wait on mv : Int} {F : Nat} (hF : ∀ (l : Array Value) (W : World), Sem.run Tryd.prog (callFunc F l) W = .ok (.enter F l) W) (hm : MachP w mb st) (h : OpB w o 0 b m self wait on mv (boundV F o)) (hr : rightB b m = true) (hi : i64B m) (i : Int)
    (hin : ∀ w1, MachP w1 mb st → OpB w1 o 0 b m self wait on mv (boundV F o) → Calls Tryd.prog F #[.pointer (some ⟨o, 0, none⟩), .pointer (some ⟨mb.p, 0, none⟩), .int .i64 i] w1 fun e w' => e = .returned (.int .i64 10) ∧ MachP w' mb st ∧ OpB w' o 0 b m self wait on mv (boundV F o) ∧ Kept (fun k => mb.has k ∨ k = o) w1 w') :
    Calls Tryd.prog 25 #[.pointer (some ⟨o, 0, none⟩), .pointer (some ⟨mb.p, 0, none⟩), .int .i64 i] w fun e w' => e = .returned (.tuple #[.bool false, .int .i64 10]) ∧ MachP w' mb st ∧ OpB w' o 0 b m self wait on mv (boundV F o) ∧ Kept (fun k => mb.has k ∨ k = o) w w' := by
  refine (step_ten hF h hr hi i ⟨mb.p, 0, none⟩ (fun w' => MachP w' mb st ∧ OpB w' o 0 b m self wait on mv (boundV F o) ∧ Kept (fun k => mb.has k ∨ k = o) w w') ?_).mono fun _ _ x => x
  intro w1 hb
  have hk : Kept (fun _ => False) w w1 := Kept.of_below hb
  refine (hin w1 (hm.kept hk (fun _ _ e => e)) (h.below hb h.lt)).mono ?_
  rintro e w' ⟨he, hm', ho', hk'⟩
  exact ⟨he, hm', ho', (Kept.of_below (S := fun k => mb.has k ∨ k = o) hb).trans hk' (fun _ _ e => e)⟩
theorem bound_false (F o : Nat) : (boundV F o = Value.nilFunc ∧ false = true) ∨ ((∃ G, boundV F o = boundV G o) ∧ false = false) := .inr ⟨⟨F, rfl⟩, rfl⟩
theorem spM_given0 (sz : Int) (l : List Int) (wt on : Int) : (spM sz l wt on).isGiven 0 = true := by simp [spM, MS.isGiven]
theorem spM_given1 (sz : Int) (l : List Int) (wt on : Int) : (spM sz l wt on).isGiven 1 = true := by simp [spM, MS.isGiven]
theorem spM_cell0 (sz : Int) (l : List Int) (wt on : Int) : (spM sz l wt on).cellOf 0 = wt := by simp [spM, MS.cellOf]
theorem spM_cell1 (sz : Int) (l : List Int) (wt on : Int) : (spM sz l wt on).cellOf 1 = on := by simp [spM, MS.cellOf]
theorem spM_caller (sz : Int) (l : List Int) (wt on i : Int) : (spM sz l wt on).isCaller i = decide (0 ≤ i ∧ i < l.length) := rfl
theorem length_dl (l : List Int) (i : Int) : (dl l i).length = l.length := by simp [dl]
/-- A step by a worker. -/
theorem opstep_ok {sz : Int} {l : List Int} (b : Nat) (hb : b ≤ 16) (s : PS) (hs : OkP s) (hm : MachP w mb (spM sz l s.wt s.on)) (h : OpQ w o b m s.q) (ho : ¬ mb.has o) (hT : Tab w) (h0 : ¬ (mb.has 0 ∨ 0 = o)) (hr : rightB b m = true) (hi : i64B m) (i : Int) (g : (spM sz l s.wt s.on).isCaller i = true) :
    Calls Tryd.prog 25 #[.pointer (some ⟨o, 0, none⟩), .pointer (some ⟨mb.p, 0, none⟩), .int .i64 i] w fun e w' => e = .returned (.tuple #[.bool ((stepP b m s).q.ph == 0), .int .i64 0]) ∧ MachP w' mb (spM sz (dl l i) (stepP b m s).wt (stepP b m s).on) ∧ OpQ w' o b m (stepP b m s).q ∧ Kept (fun k => mb.has k ∨ k = o) w w' := by
  obtain ⟨wt, on, self, wait, on0, mv, ph⟩ := s
  obtain ⟨p1, p2, p3⟩ := hs
  have k0 := spM_given0 sz l wt on
  have k1 := spM_given1 sz l wt on
  have v0 := spM_cell0 sz l wt on
  have v1 := spM_cell1 sz l wt on
  dsimp only at p1 p2 p3 hm h g
  have hcase : ph = 1 ∨ ph = 2 ∨ ph = 3 ∨ ph = 4 ∨ ph = 5 ∨ ph = 6 := by omega
  rcases hcase with rfl | rfl | rfl | rfl | rfl | rfl
  · exact step_glue enter_more hm h hT hr hi i _ false (bound_false 64 o) (fun w1 hm1 h1 _ => more_ok hm1 h1 ho i g k0 wt v0)
  · exact step_glue enter_less hm h hT hr hi i _ true (.inl ⟨rfl, rfl⟩) (fun w1 hm1 h1 _ => less_ok hm1 h1 ho i g k0 wt v0)
  · exact step_glue enter_look hm h hT hr hi i _ false (bound_false 65 o) (fun w1 hm1 h1 _ => olook_ok hm1 h1 ho i g k0 wt v0)
  · by_cases y : cnt on < m ∧ cnt on < wait
    · have e : stepP b m ⟨wt, on, self, wait, on0, mv, 4⟩ = ⟨wt, on, ⟨pickV on b, wait, on, mv, 6⟩⟩ := if_pos y
      rw [e]
      exact step_glue enter_need hm h hT hr hi i _ false (bound_false 67 o) (fun w1 hm1 h1 hT1 => need_yes b hb hm1 h1 ho hT1 h0 i g k1 on v1 y.1 y.2)
    · have e : stepP b m ⟨wt, on, self, wait, on0, mv, 4⟩ = ⟨wt, on, ⟨self, wait, on, mv, 0⟩⟩ := if_neg y
      rw [e]
      exact step_glue enter_need hm h hT hr hi i _ true (.inl ⟨rfl, rfl⟩) (fun w1 hm1 h1 hT1 => need_not b hm1 h1 ho hT1 h0 i g k1 on v1 y)
  · cases y : (hasBit on self && decide (wait < cnt on)) with
    | true =>
      have e : stepP b m ⟨wt, on, self, wait, on0, mv, 5⟩ = ⟨wt, on, ⟨self, wait, on, mv, 6⟩⟩ := if_pos y
      rw [e]
      exact step_glue enter_many hm h hT hr hi i _ false (bound_false 67 o) (fun w1 hm1 h1 hT1 => many_any b hm1 h1 ho hT1 h0 i g k1 on v1 _ rfl true y)
    | false =>
      have e : stepP b m ⟨wt, on, self, wait, on0, mv, 5⟩ = ⟨wt, on, ⟨self, wait, on, mv, 0⟩⟩ := if_neg (by dsimp only; rw [y]; simp)
      rw [e]
      exact step_glue enter_many hm h hT hr hi i _ true (.inl ⟨rfl, rfl⟩) (fun w1 hm1 h1 hT1 => many_any b hm1 h1 ho hT1 h0 i g k1 on v1 _ rfl false y)
  · obtain ⟨q1, q2⟩ := p3 rfl
    obtain ⟨k, rfl⟩ := Int.eq_ofNat_of_zero_le q1
    by_cases y : on = on0
    · have e : stepP b m ⟨wt, on, (k : Int), wait, on0, mv, 6⟩ = ⟨wt, flipV on0 k, ⟨k, wait, on0, k, 0⟩⟩ := if_pos y
      rw [e]
      exact step_glue enter_turn hm h hT hr hi i _ true (.inl ⟨rfl, rfl⟩) (fun w1 hm1 h1 hT1 => turn_hit b k (by omega) hm1 h1 ho i g k1 (v1.trans y))
    · have e : stepP b m ⟨wt, on, (k : Int), wait, on0, mv, 6⟩ = ⟨wt, on, ⟨k, wait, on0, mv, 0⟩⟩ := if_neg y
      rw [e]
      exact step_glue enter_turn hm h hT hr hi i _ true (.inl ⟨rfl, rfl⟩) (fun w1 hm1 h1 hT1 => turn_miss b k (by omega) hm1 h1 ho i g k1 (fun e => y (v1.symm.trans e)))
/-- A step by a worker who is none. -/
theorem opstep_no {sz : Int} {l : List Int} (b : Nat) (s : PS) (hs : OkP s) (hm : MachP w mb (spM sz l s.wt s.on)) (h : OpQ w o b m s.q) (ho : ¬ mb.has o) (hr : rightB b m = true) (hi : i64B m) (i : Int) (g : (spM sz l s.wt s.on).isCaller i = false) :
    Calls Tryd.prog 25 #[.pointer (some ⟨o, 0, none⟩), .pointer (some ⟨mb.p, 0, none⟩), .int .i64 i] w fun e w' => e = .returned (.tuple #[.bool false, .int .i64 10]) ∧ MachP w' mb (spM sz l s.wt s.on) ∧ OpQ w' o b m s.q ∧ Kept (fun k => mb.has k ∨ k = o) w w' := by
  obtain ⟨wt, on, self, wait, on0, mv, ph⟩ := s
  obtain ⟨p1, p2, p3⟩ := hs
  dsimp only at p1 p2 p3 hm h g
  have hcase : ph = 1 ∨ ph = 2 ∨ ph = 3 ∨ ph = 4 ∨ ph = 5 ∨ ph = 6 := by omega
  rcases hcase with rfl | rfl | rfl | rfl | rfl | rfl
  · exact step_glue_no enter_more hm h hr hi i (fun w1 hm1 h1 => more_no b hm1 h1 ho i g)
  · exact step_glue_no enter_less hm h hr hi i (fun w1 hm1 h1 => less_no b hm1 h1 ho i g)
  · exact step_glue_no enter_look hm h hr hi i (fun w1 hm1 h1 => olook_no b hm1 h1 i g)
  · exact step_glue_no enter_need hm h hr hi i (fun w1 hm1 h1 => need_no b hm1 h1 i g)
  · exact step_glue_no enter_many hm h hr hi i (fun w1 hm1 h1 => many_no b hm1 h1 i g)
  · obtain ⟨q1, q2⟩ := p3 rfl
    obtain ⟨k, rfl⟩ := Int.eq_ofNat_of_zero_le q1
    exact step_glue_no enter_turn hm h hr hi i (fun w1 hm1 h1 => turn_no b k (by omega) hm1 h1 i g)
end
end Go.Proofs.YtkilghhknimolaaDoor
