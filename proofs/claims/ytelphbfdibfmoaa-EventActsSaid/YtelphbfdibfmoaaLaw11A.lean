/-
  WHAT IS PROVED HERE: tools for the laws of package event (a machine, an event in a variable, waits: what is carried from world to world), and the contract of 'awake' of pelotonlaw11. Conditions: none.
-/
import Derived.Test.YtelphbfdibfmoaaEventB
namespace Go.Proofs.Ytelphbfdibfmoaa
open Go.RowKit

theorem wparked_v (mb : MB) (st : MS) (x : Nat) (a how seen : Int) (b : Bool) (w : World) (hm : MachP w mb st) (hw : WaitB w x a how seen) (hb : (how == 2 && st.parked a seen) = b) :
    Calls Try.prog 38 #[.pointer (some ⟨x, 0, none⟩), .pointer (some ⟨mb.p, 0, none⟩)] w fun e w' => e = .returned (.bool b) ∧ Below w.heap.size w w' := by
  subst hb
  exact wparked_any mb st x a how seen w hm hw

/-- A machine with one event's cell, told v times, of two callers. -/
def EvSt (v : Int) (st : MS) : Prop := st.steps.length = 2 ∧ st.cells.length = 1 ∧ st.cellOf 0 = v
theorem EvSt.caller {v : Int} {st : MS} (h : EvSt v st) {i : Int} (h0 : 0 ≤ i) (h1 : i ≤ 1) : st.isCaller i = true := by
  obtain ⟨h2, h3, _⟩ := h
  simp [MS.isCaller]; omega
theorem EvSt.given {v : Int} {st : MS} (h : EvSt v st) : st.isGiven 0 = true := by
  obtain ⟨h2, h3, _⟩ := h
  simp [MS.isGiven]; omega
theorem EvSt.put {v : Int} {st : MS} (h : EvSt v st) (i x : Int) : EvSt x ((st.did i).putAt 0 x) :=
  ⟨by simp [MS.putAt, MS.did, h.1], by simp [MS.putAt, MS.did, h.2.1], cellOf_put_same _ _ _ (by rw [isGiven_did]; exact h.given)⟩
theorem EvSt.did {v : Int} {st : MS} (h : EvSt v st) (i : Int) : EvSt v (st.did i) := ⟨by simp [MS.did, h.1], h.2.1, h.2.2⟩
theorem EvSt.parked {v : Int} {st : MS} (h : EvSt v st) (seen : Int) : st.parked 0 seen = (v == seen) := by
  unfold MS.parked; rw [h.given, h.2.2]; simp

/-- What is carried: the machine, its state by its told number, a variable that holds the event. -/
structure EvC (W0 w : World) (mb : MB) (v : Int) (vb : Nat) : Prop where
  st : ∃ st, MachP w mb st ∧ EvSt v st
  ev : Blk w vb 62 [.int .i64 0]
  bel : Below W0.heap.size W0 w
  nv : ¬ mb.has vb
  fm : mb.from_ W0.heap.size
  fv : W0.heap.size ≤ vb

/-- .. and a wait. -/
structure EvX (W0 w : World) (mb : MB) (vb x : Nat) (how seen : Int) : Prop where
  wt : WaitB w x 0 how seen
  nx : ¬ mb.has x
  xv : vb ≠ x
  fx : W0.heap.size ≤ x

section
variable {W0 w w' : World} {mb : MB} {v : Int} {vb x y : Nat} {how seen : Int}
theorem EvC.below (h : EvC W0 w mb v vb) (hb : Below w.heap.size w w') : EvC W0 w' mb v vb := by
  obtain ⟨st, hm, hs⟩ := h.st
  exact ⟨⟨st, hm.kept (Kept.of_below (S := fun _ => False) hb) (fun _ _ f => f), hs⟩, h.ev.below hb h.ev.lt, h.bel.trans (hb.mono h.bel.size), h.nv, h.fm, h.fv⟩
theorem EvX.below (h : EvX W0 w mb vb x how seen) (hb : Below w.heap.size w w') : EvX W0 w' mb vb x how seen := ⟨Blk.below h.wt hb (Blk.lt h.wt), h.nx, h.xv, h.fx⟩
theorem EvX.kept (h : EvX W0 w mb vb x how seen) (hk : Kept mb.has w w') : EvX W0 w' mb vb x how seen := ⟨Blk.kept h.wt hk h.nx, h.nx, h.xv, h.fx⟩
theorem EvX.other (h : EvX W0 w mb vb x how seen) (hk : Kept (fun k => mb.has k ∨ k = y) w w') (hxy : x ≠ y) : EvX W0 w' mb vb x how seen := ⟨Blk.kept h.wt hk (fun e => e.elim h.nx hxy), h.nx, h.xv, h.fx⟩
theorem EvX.other1 (h : EvX W0 w mb vb x how seen) (hk : Kept (fun k => k = y) w w') (hxy : x ≠ y) : EvX W0 w' mb vb x how seen := ⟨Blk.kept h.wt hk hxy, h.nx, h.xv, h.fx⟩
theorem EvC.kept (h : EvC W0 w mb v vb) {S : Nat → Prop} (hk : Kept S w w') (hS : ∀ k, S k → mb.has k ∨ k = y) {st' : MS} {v' : Int} (hm : MachP w' mb st') (hs : EvSt v' st') (hxv : vb ≠ y) (fy : W0.heap.size ≤ y) : EvC W0 w' mb v' vb := by
  refine ⟨⟨st', hm, hs⟩, h.ev.kept hk (fun e => (hS _ e).elim h.nv hxv), h.bel.trans ((hk.below h.bel.size (fun i hi => (hS i hi).elim (MB.from_has h.fm i) (fun e => by omega)))), h.nv, h.fm, h.fv⟩
theorem EvC.wait (h : EvC W0 w mb v vb) {S : Nat → Prop} (hk : Kept S w w') (hS : ∀ k, S k → k = y) (hny : ¬ mb.has y) (hxv : vb ≠ y) (fy : W0.heap.size ≤ y) : EvC W0 w' mb v vb := by
  obtain ⟨st, hm, hs⟩ := h.st
  exact h.kept hk (fun k hk => .inr (hS k hk)) (hm.kept hk (fun k h1 h2 => hny (hS k h2 ▸ h1))) hs hxv fy
end

/-! ## The calls, in these words -/
section
variable {W0 w : World} {mb : MB} {v : Int} {vb x : Nat} {how seen : Int}

theorem c_ready (hc : EvC W0 w mb v vb) (hx : EvX W0 w mb vb x how seen) (i : Int) (h0 : 0 ≤ i) (h1 : i ≤ 1) :
    Calls Try.prog 35 #[.pointer (some ⟨x, 0, none⟩), .pointer (some ⟨mb.p, 0, none⟩), .int .i64 i] w fun e w' =>
      e = .returned (.int .i64 0) ∧ EvC W0 w' mb v vb ∧ EvX W0 w' mb vb x 1 v ∧ Kept (fun k => mb.has k ∨ k = x) w w' := by
  obtain ⟨st, hm, hs⟩ := hc.st
  refine (ready_ok mb st x 0 how seen i v w hm hx.wt hx.nx (hs.caller h0 h1) hs.given hs.2.2).mono ?_
  rintro e w' ⟨rfl, hm', hw', hk⟩
  exact ⟨rfl, hc.kept hk (fun _ h => h) hm' (hs.did i) hx.xv hx.fx, ⟨hw', hx.nx, hx.xv, hx.fx⟩, hk⟩
theorem c_park (hc : EvC W0 w mb v vb) (hx : EvX W0 w mb vb x 1 seen) :
    Calls Try.prog 36 #[.pointer (some ⟨x, 0, none⟩)] w fun e w' =>
      e = .returned (.int .i64 0) ∧ EvC W0 w' mb v vb ∧ EvX W0 w' mb vb x 2 seen ∧ Kept (fun k => k = x) w w' := by
  refine (park_ok x 0 seen w hx.wt).mono ?_
  rintro e w' ⟨rfl, hw', hk⟩
  exact ⟨rfl, hc.wait hk (fun _ h => h) hx.nx hx.xv hx.fx, ⟨hw', hx.nx, hx.xv, hx.fx⟩, hk⟩
theorem c_leave (hc : EvC W0 w mb v vb) (hx : EvX W0 w mb vb x how seen) :
    Calls Try.prog 40 #[.pointer (some ⟨x, 0, none⟩)] w fun e w' =>
      e = .returned (.tuple #[]) ∧ EvC W0 w' mb v vb ∧ EvX W0 w' mb vb x 0 seen ∧ Kept (fun k => k = x) w w' := by
  refine (leave_any x 0 how seen w hx.wt).mono ?_
  rintro e w' ⟨rfl, hw', hk⟩
  exact ⟨rfl, hc.wait hk (fun _ h => h) hx.nx hx.xv hx.fx, ⟨hw', hx.nx, hx.xv, hx.fx⟩, hk⟩
theorem c_parked (hc : EvC W0 w mb v vb) (hx : EvX W0 w mb vb x how seen) (b : Bool) (hb : (how == 2 && (v == seen)) = b) :
    Calls Try.prog 38 #[.pointer (some ⟨x, 0, none⟩), .pointer (some ⟨mb.p, 0, none⟩)] w fun e w' =>
      e = .returned (.bool b) ∧ EvC W0 w' mb v vb ∧ EvX W0 w' mb vb x how seen ∧ Below w.heap.size w w' := by
  obtain ⟨st, hm, hs⟩ := hc.st
  refine (wparked_v mb st x 0 how seen b w hm hx.wt (by rw [hs.parked]; exact hb)).mono ?_
  rintro e w' ⟨rfl, hk⟩
  exact ⟨rfl, hc.below hk, hx.below hk, hk⟩
theorem c_tell (hc : EvC W0 w mb v vb) (i : Int) (h0 : 0 ≤ i) (h1 : i ≤ 1) :
    Calls Try.prog 37 #[.agg #[.int .i64 0], .pointer (some ⟨mb.p, 0, none⟩), .int .i64 i] w fun e w' =>
      e = .returned (.int .i64 0) ∧ EvC W0 w' mb (wrap64 (v + 1)) vb ∧ Kept mb.has w w' := by
  obtain ⟨st, hm, hs⟩ := hc.st
  refine (evtell_ok mb st 0 i v w hm (hs.caller h0 h1) hs.given hs.2.2).mono ?_
  rintro e w' ⟨rfl, hm', hk⟩
  refine ⟨rfl, ⟨⟨_, hm', hs.put i _⟩, hc.ev.kept hk hc.nv, hc.bel.trans (hk.under hc.fm hc.bel.size), hc.nv, hc.fm, hc.fv⟩, hk⟩
theorem c_read (hc : EvC W0 w mb v vb) (i : Int) (h0 : 0 ≤ i) (h1 : i ≤ 1) :
    Calls Try.prog 39 #[.agg #[.int .i64 0], .pointer (some ⟨mb.p, 0, none⟩), .int .i64 i] w fun e w' =>
      e = .returned (.tuple #[.int .i64 v, .int .i64 0]) ∧ EvC W0 w' mb v vb ∧ Kept mb.has w w' := by
  obtain ⟨st, hm, hs⟩ := hc.st
  refine (evread_ok mb st 0 i v w hm (hs.caller h0 h1) hs.given hs.2.2).mono ?_
  rintro e w' ⟨rfl, hm', hk⟩
  refine ⟨rfl, ⟨⟨_, hm', hs.did i⟩, hc.ev.kept hk hc.nv, hc.bel.trans (hk.under hc.fm hc.bel.size), hc.nv, hc.fm, hc.fv⟩, hk⟩
theorem c_wait (hc : EvC W0 w mb v vb) :
    Calls Try.prog 34 #[.agg #[.int .i64 0]] w fun e w' => ∃ x,
      e = .returned (.pointer (some ⟨x, 0, none⟩)) ∧ EvC W0 w' mb v vb ∧ EvX W0 w' mb vb x 0 0 ∧ Below w.heap.size w w' ∧ w.heap.size ≤ x := by
  obtain ⟨st, hm, hs⟩ := hc.st
  refine (wait_any 0 w).mono ?_
  rintro e w' ⟨x, rfl, hw, hb, hx⟩
  have hlt := hc.ev.lt
  exact ⟨x, rfl, hc.below hb, ⟨hw, fun h => by have := hm.lt x h; omega, by omega, Nat.le_trans hc.bel.size hx⟩, hb, hx⟩

/-- A new machine of so many cells, and a new event, laid into a variable. -/
theorem c_start {p s : Nat} {size : Int} (w1 : World) (hm1 : MachP w1 ⟨p, p, s⟩ (MS.fresh size 1)) (hb1 : Below W0.heap.size W0 w1) (hp : W0.heap.size ≤ p) (hs : W0.heap.size ≤ s) (h1 : 1 ≤ size) (h2 : size ≤ 1048576) :
    Calls Try.prog 32 #[.pointer (some ⟨p, 0, none⟩), .int .i64 0] w1 fun e w2 => ∃ c,
      e = .returned (.tuple #[.agg #[.int .i64 0], .int .i64 0]) ∧
      EvC W0 (w2.alloc (.cells #[.int .i64 0] 62)) ⟨p, c, s⟩ 0 w2.heap.size := by
  refine (evnew_ok ⟨p, p, s⟩ (MS.fresh size 1) 0 w1 hm1 rfl (by show (0 : Int) + 1 ≤ size; omega) h2).mono ?_
  rintro e w2 ⟨rfl, hk, c, hc, hm2⟩
  have hb2 : Below W0.heap.size w1 w2 := hk.under (B := W0.heap.size) ⟨hp, hp, hs⟩ hb1.size
  have bel2 := hb1.trans hb2
  refine ⟨c, rfl, ⟨_, hm2.alloc _, ?_⟩, Blk.new w2 _ _, bel2.alloc bel2.size _, ?_, ⟨hp, Nat.le_trans hb1.size hc, hs⟩, bel2.size⟩
  · refine ⟨by simp [MS.fresh, MS.did, MS.more], by simp [MS.fresh, MS.did, MS.more], ?_⟩
    simp [MS.cellOf, MS.fresh, MS.did, MS.more]
  · intro h
    have := hm2.lt _ h
    omega
end

set_option maxRecDepth 100000 in
set_option maxHeartbeats 2000000 in
theorem awake11_any (W : World) :
    Calls Try.prog 33 #[] W fun e w' => e = .returned (.bool true) ∧ Below W.heap.size W w' := by
  go_enter Try.func33, Try.ntmps33
  go_wp2_with fail
  refine (new_ok 2 1 _ (by omega) (by omega) (by omega) (by omega)).mono ?_
  rintro e w1 ⟨p, s, rfl, hm1, hk1, hp, hs⟩
  have hb1 : Below W.heap.size W w1 := hk1.below (Nat.le_refl _) (fun _ h => h.elim)
  clear hk1
  go_wp2_with fail
  refine (c_start (W0 := W) w1 hm1 hb1 hp hs (by omega) (by omega)).mono ?_
  rintro e w2 ⟨c, rfl, hc⟩
  have cv := hc.ev.cell
  clear hm1 hb1 hp hs
  go_wp2_with fail
  refine (c_wait hc).mono ?_
  rintro e w3 ⟨x, rfl, hc3, hx3, _, _⟩
  have cv3 := hc3.ev.cell
  clear cv hc
  go_wp2_with fail
  refine (park_no x 0 0 0 _ hx3.wt (by omega)).mono ?_
  rintro e w3' ⟨rfl, rfl⟩
  go_wp2_with fail
  refine (c_ready hc3 hx3 0 (by omega) (by omega)).mono ?_
  rintro e w4 ⟨rfl, hc4, hx4, _⟩
  have cv4 := hc4.ev.cell
  clear cv3 hc3 hx3
  go_wp2_with fail
  refine (c_park hc4 hx4).mono ?_
  rintro e w5 ⟨rfl, hc5, hx5, _⟩
  have cv5 := hc5.ev.cell
  clear cv4 hc4 hx4
  go_wp2_with fail
  refine (c_parked hc5 hx5 true rfl).mono ?_
  rintro e w6 ⟨rfl, hc6, hx6, _⟩
  have cv6 := hc6.ev.cell
  clear cv5 hc5 hx5
  go_wp2_with fail
  refine (c_tell hc6 1 (by omega) (by omega)).mono ?_
  rw [show wrap64 (0 + 1) = 1 by unfold wrap64; omega]
  rintro e w7 ⟨rfl, hc7, hk7⟩
  have hx7 := hx6.kept hk7
  have cv7 := hc7.ev.cell
  clear cv6 hc6 hx6 hk7
  go_wp2_with fail
  refine (c_parked hc7 hx7 false rfl).mono ?_
  rintro e w8 ⟨rfl, hc8, hx8, _⟩
  have cv8 := hc8.ev.cell
  clear cv7 hc7 hx7
  go_wp2_with fail
  refine (c_ready hc8 hx8 0 (by omega) (by omega)).mono ?_
  rintro e w9 ⟨rfl, hc9, hx9, _⟩
  have cv9 := hc9.ev.cell
  clear cv8 hc8 hx8
  go_wp2_with fail
  refine (c_parked hc9 hx9 false rfl).mono ?_
  rintro e w10 ⟨rfl, hc10, hx10, _⟩
  have cv10 := hc10.ev.cell
  clear cv9 hc9 hx9
  go_wp2_with fail
  refine (c_park hc10 hx10).mono ?_
  rintro e w11 ⟨rfl, hc11, hx11, _⟩
  have cv11 := hc11.ev.cell
  clear cv10 hc10 hx10
  go_wp2_with fail
  refine (c_parked hc11 hx11 true rfl).mono ?_
  rintro e w12 ⟨rfl, hc12, hx12, _⟩
  have cv12 := hc12.ev.cell
  clear cv11 hc11 hx11
  go_wp2_with fail
  refine (c_read hc12 0 (by omega) (by omega)).mono ?_
  rintro e w13 ⟨rfl, hc13, _⟩
  clear cv12 hx12
  go_wp2
  go_ret
  exact ⟨rfl, hc13.bel⟩
end Go.Proofs.Ytelphbfdibfmoaa
