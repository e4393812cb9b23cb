/-
  WHAT IS PROVED HERE: what a law of spares keeps in memory (a machine of two cells, and operations in slots), and its calls in these words. Conditions: as in the contracts.
-/
import Derived.Test.YtkilghhknimolaaDoorSpareH
namespace Go.Proofs.YtkilghhknimolaaDoor
open Go.RowKit

/-- A machine of two cells, operations in slots. -/
structure SpW (w0 w : World) (mb : MB) (b : Nat) (m sz : Int) (l : List Int) (wt on : Int) (ops : List (Option (Nat × OS))) : Prop where
  mach : MachP w mb (spM sz l wt on)
  op : ∀ (k o : Nat) (q : OS), ops[k]? = some (some (o, q)) → OpQ w o b m q ∧ ¬ mb.has o ∧ w0.heap.size ≤ o
  dist : ∀ (k k' o : Nat) (q q' : OS), k ≠ k' → ops[k]? = some (some (o, q)) → ops[k']? = some (some (o, q')) → False
  tab : Tab w
  mbw : ∀ q, mb.has q → w0.heap.size ≤ q
  bel : Below w0.heap.size w0 w
  pos : 0 < w0.heap.size
  right : rightB b m = true
section
variable {w0 w w' : World} {mb : MB} {b : Nat} {m sz : Int} {l : List Int} {wt on : Int} {ops : List (Option (Nat × OS))}
theorem SpW.nums (h : SpW w0 w mb b m sz l wt on ops) : 1 ≤ b ∧ b ≤ 16 ∧ 0 ≤ m ∧ (b : Int) + m ≤ 16 ∧ i64B m := by
  have := h.right
  unfold rightB at this
  rw [decide_eq_true_iff] at this
  unfold i64B
  omega
theorem SpW.below (h : SpW w0 w mb b m sz l wt on ops) (hb : Below w.heap.size w w') : SpW w0 w' mb b m sz l wt on ops where
  mach := h.mach.kept (Kept.of_below (S := fun _ => False) hb) (fun _ _ e => e)
  op k o q e := by
    obtain ⟨h1, h2, h3⟩ := h.op k o q e
    exact ⟨h1.below hb h1.lt, h2, h3⟩
  dist := h.dist
  tab := h.tab.below hb h.tab.lt
  mbw := h.mbw
  bel := h.bel.trans (hb.mono h.bel.size)
  pos := h.pos
  right := h.right
/-- A new operation in a slot. -/
theorem SpW.lay (h : SpW w0 w mb b m sz l wt on ops) (hb : Below w.heap.size w w') {o : Nat} {q : OS} (ho : w.heap.size ≤ o) (hq : OpQ w' o b m q) (k : Nat) : SpW w0 w' mb b m sz l wt on (ops.set k (some (o, q))) where
  mach := (h.below hb).mach
  op j o' q' e := by
    rw [List.getElem?_set] at e
    split at e
    · split at e
      · cases e
        exact ⟨hq, fun e => by have := h.mach.lt _ e; omega, Nat.le_trans h.bel.size ho⟩
      · cases e
    · exact (h.below hb).op j o' q' e
  dist j j' o' q1 q2 hne e1 e2 := by
    rw [List.getElem?_set] at e1 e2
    split at e1
    · split at e1
      · cases e1
        split at e2
        · omega
        · have := (h.op _ _ _ e2).1.lt
          omega
      · cases e1
    · split at e2
      · split at e2
        · cases e2
          have := (h.op _ _ _ e1).1.lt
          omega
        · cases e2
      · exact h.dist j j' o' q1 q2 hne e1 e2
  tab := (h.below hb).tab
  mbw := h.mbw
  bel := (h.below hb).bel
  pos := h.pos
  right := h.right
/-- An operation's step. -/
theorem SpW.turn (h : SpW w0 w mb b m sz l wt on ops) {k o : Nat} {q q' : OS} (e : ops[k]? = some (some (o, q))) (hk : Kept (fun k => mb.has k ∨ k = o) w w') {l' : List Int} {wt' on' : Int} (hm : MachP w' mb (spM sz l' wt' on')) (hq : OpQ w' o b m q') : SpW w0 w' mb b m sz l' wt' on' (ops.set k (some (o, q'))) where
  mach := hm
  op j o' q2 e' := by
    rw [List.getElem?_set] at e'
    obtain ⟨h1, h2, h3⟩ := h.op k o q e
    split at e'
    · split at e'
      · cases e'
        exact ⟨hq, h2, h3⟩
      · cases e'
    · rename_i hne
      obtain ⟨g1, g2, g3⟩ := h.op j o' q2 e'
      refine ⟨g1.kept hk ?_, g2, g3⟩
      rintro (e3 | e3)
      · exact g2 e3
      · subst e3
        exact h.dist k j _ _ _ hne e e'
  dist j j' o' q1 q2 hne e1 e2 := by
    rw [List.getElem?_set] at e1 e2
    split at e1
    · rename_i hj
      subst hj
      split at e1
      · cases e1
        rw [if_neg hne] at e2
        exact h.dist _ _ _ _ _ hne e e2
      · cases e1
    · split at e2
      · rename_i hj
        subst hj
        split at e2
        · cases e2
          exact h.dist _ _ _ _ _ hne e1 e
        · cases e2
      · exact h.dist j j' o' q1 q2 hne e1 e2
  tab := h.tab.kept hk (by
    have := h.pos
    rintro (e3 | e3)
    · have := h.mbw 0 e3; omega
    · have := (h.op k o q e).2.2; omega)
  mbw := h.mbw
  bel := h.bel.trans (hk.below h.bel.size (by
    rintro i (e3 | e3)
    · exact h.mbw i e3
    · rw [e3]; exact (h.op k o q e).2.2))
  pos := h.pos
  right := h.right
theorem SpW.zero (h : SpW w0 w mb b m sz l wt on ops) {k o : Nat} {q : OS} (e : ops[k]? = some (some (o, q))) : ¬ (mb.has 0 ∨ 0 = o) := by
  have := h.pos
  rintro (e3 | e3)
  · have := h.mbw 0 e3; omega
  · have := (h.op k o q e).2.2; omega
theorem SpW.begin (h : SpW w0 w mb b m sz l wt on ops) (k : Nat) (self dv : Int) (kd : Nat) (hk3 : kd < 3) (hk : (wrap64 (dv.tmod 3 + 3)).tmod 3 = (kd : Int)) :
    Calls Tryd.prog 27 #[spV 0 b m, .int .i64 dv, .int .i64 self] w fun e w' => ∃ o, e = .returned (.pointer (some ⟨o, 0, none⟩)) ∧ w.heap.size ≤ o ∧ Below w.heap.size w w' ∧ SpW w0 w' mb b m sz l wt on (ops.set k (some (o, begQ kd self))) := by
  refine (begin_ok b m self dv kd hk3 hk w).mono ?_
  rintro e w' ⟨o, he, ho, hq, hb⟩
  exact ⟨o, he, ho, hb, h.lay hb ho hq k⟩
theorem SpW.block (h : SpW w0 w mb b m sz l wt on ops) (k : Nat) :
    Calls Tryd.prog 44 #[spV 0 b m] w fun e w' => ∃ o, e = .returned (.pointer (some ⟨o, 0, none⟩)) ∧ w.heap.size ≤ o ∧ Below w.heap.size w w' ∧ SpW w0 w' mb b m sz l wt on (ops.set k (some (o, begQ 0 0))) := by
  refine (block_ok 0 b m w).mono ?_
  rintro e w' ⟨o, he, ho, hq, hb⟩
  exact ⟨o, he, ho, hb, h.lay hb ho hq k⟩
theorem SpW.resume (h : SpW w0 w mb b m sz l wt on ops) (k : Nat) :
    Calls Tryd.prog 46 #[spV 0 b m] w fun e w' => ∃ o, e = .returned (.pointer (some ⟨o, 0, none⟩)) ∧ w.heap.size ≤ o ∧ Below w.heap.size w w' ∧ SpW w0 w' mb b m sz l wt on (ops.set k (some (o, begQ 1 0))) := by
  refine (resume_ok 0 b m w).mono ?_
  rintro e w' ⟨o, he, ho, hq, hb⟩
  exact ⟨o, he, ho, hb, h.lay hb ho hq k⟩
theorem SpW.retire (h : SpW w0 w mb b m sz l wt on ops) (k : Nat) (self : Int) :
    Calls Tryd.prog 45 #[spV 0 b m, .int .i64 self] w fun e w' => ∃ o, e = .returned (.pointer (some ⟨o, 0, none⟩)) ∧ w.heap.size ≤ o ∧ Below w.heap.size w w' ∧ SpW w0 w' mb b m sz l wt on (ops.set k (some (o, begQ 2 self))) := by
  refine (retire_ok 0 b m self w).mono ?_
  rintro e w' ⟨o, he, ho, hq, hb⟩
  exact ⟨o, he, ho, hb, h.lay hb ho hq k⟩
theorem SpW.step (h : SpW w0 w mb b m sz l wt on ops) {k o : Nat} {q : OS} (e : ops[k]? = some (some (o, q))) (hs : OkP ⟨wt, on, q⟩) (i : Int) (g : 0 ≤ i ∧ i < l.length) (s' : PS) (hs' : stepP b m ⟨wt, on, q⟩ = s') (dn : Bool) (hdn : (s'.q.ph == 0) = dn) :
    Calls Tryd.prog 25 #[.pointer (some ⟨o, 0, none⟩), .pointer (some ⟨mb.p, 0, none⟩), .int .i64 i] w fun e w' => e = .returned (.tuple #[.bool dn, .int .i64 0]) ∧ SpW w0 w' mb b m sz (dl l i) s'.wt s'.on (ops.set k (some (o, s'.q))) ∧ Kept (fun k => mb.has k ∨ k = o) w w' := by
  obtain ⟨n1, n2, n3, n4, n5⟩ := h.nums
  refine (opstep_ok b n2 ⟨wt, on, q⟩ hs h.mach (h.op k o q e).1 (h.op k o q e).2.1 h.tab (h.zero e) h.right n5 i (by rw [spM_caller]; exact decide_eq_true g)).mono ?_
  rintro e' w' ⟨he, hm, hq, hk⟩
  rw [hs'] at he hm hq
  rw [hdn] at he
  exact ⟨he, h.turn e hk hm hq, hk⟩
theorem SpW.step_no (h : SpW w0 w mb b m sz l wt on ops) {k o : Nat} {q : OS} (e : ops[k]? = some (some (o, q))) (hs : OkP ⟨wt, on, q⟩) (i : Int) (g : ¬ (0 ≤ i ∧ i < l.length)) :
    Calls Tryd.prog 25 #[.pointer (some ⟨o, 0, none⟩), .pointer (some ⟨mb.p, 0, none⟩), .int .i64 i] w fun e w' => e = .returned (.tuple #[.bool false, .int .i64 10]) ∧ SpW w0 w' mb b m sz l wt on (ops.set k (some (o, q))) ∧ Kept (fun k => mb.has k ∨ k = o) w w' := by
  obtain ⟨n1, n2, n3, n4, n5⟩ := h.nums
  refine (opstep_no b ⟨wt, on, q⟩ hs h.mach (h.op k o q e).1 (h.op k o q e).2.1 h.right n5 i (by rw [spM_caller]; exact decide_eq_false g)).mono ?_
  rintro e' w' ⟨he, hm, hq, hk⟩
  exact ⟨he, h.turn e hk hm hq, hk⟩
/-- A step of an operation that is done. -/
theorem SpW.step_end (h : SpW w0 w mb b m sz l wt on ops) {k o : Nat} {q : OS} (e : ops[k]? = some (some (o, q))) (hs : q.ph = 0) (i : Int) :
    Calls Tryd.prog 25 #[.pointer (some ⟨o, 0, none⟩), .pointer (some ⟨mb.p, 0, none⟩), .int .i64 i] w fun e w' => e = .returned (.tuple #[.bool true, .int .i64 0]) ∧ SpW w0 w' mb b m sz l wt on ops ∧ Below w.heap.size w w' := by
  obtain ⟨n1, n2, n3, n4, n5⟩ := h.nums
  refine (step_done (by rw [hs]; rfl) (h.op k o q e).1 h.right n5 i ⟨mb.p, 0, none⟩).mono ?_
  rintro e' w' ⟨he, hb⟩
  exact ⟨he, h.below hb, hb⟩
theorem SpW.run (h : SpW w0 w mb b m sz l wt on ops) {k o : Nat} {q : OS} (e : ops[k]? = some (some (o, q))) (n : Nat) (s' : PS) (hs' : itP b m n ⟨wt, on, q⟩ = s') (hn : Runs b m ⟨wt, on, q⟩ n) (i : Int) (g : 0 ≤ i ∧ i < l.length) (v : Int) (hv : (n : Int) = v) :
    Calls Tryd.prog 43 #[.pointer (some ⟨mb.p, 0, none⟩), .pointer (some ⟨o, 0, none⟩), .int .i64 i] w fun e w' => e = .returned (.int .i64 v) ∧ SpW w0 w' mb b m sz (dlN l i n) s'.wt s'.on (ops.set k (some (o, s'.q))) ∧ Kept (fun k => mb.has k ∨ k = o) w w' := by
  obtain ⟨n1, n2, n3, n4, n5⟩ := h.nums
  refine (run_ok b n2 ⟨wt, on, q⟩ n hn h.mach (h.op k o q e).1 (h.op k o q e).2.1 h.tab (h.zero e) h.right n5 i (by rw [spM_caller]; exact decide_eq_true g)).mono ?_
  rintro e' w' ⟨he, hm, hq, hk⟩
  rw [hs'] at hm hq
  rw [hv] at he
  exact ⟨he, h.turn e hk hm hq, hk⟩
theorem SpW.moved (h : SpW w0 w mb b m sz l wt on ops) {k o : Nat} {q : OS} (e : ops[k]? = some (some (o, q))) (v : Int) (hv : q.mv = v) :
    Calls Tryd.prog 26 #[.pointer (some ⟨o, 0, none⟩)] w fun e w' => e = .returned (.int .i64 v) ∧ w = w' := by
  subst hv
  exact moved_ok (h.op k o q e).1
theorem SpW.bits (h : SpW w0 w mb b m sz l wt on ops) (v : Int) (hv : bitsV b on = v) :
    Calls Tryd.prog 28 #[spV 0 b m, .pointer (some ⟨mb.p, 0, none⟩)] w fun e w' => e = .returned (.int .i64 v) ∧ SpW w0 w' mb b m sz l wt on ops ∧ Below w.heap.size w w' := by
  obtain ⟨n1, n2, n3, n4, n5⟩ := h.nums
  subst hv
  refine (bits_ok h.mach b n2 m n5 h.right on (spM_cell1 ..)).mono ?_
  rintro e w' ⟨he, hb⟩
  exact ⟨he, h.below hb, hb⟩
theorem SpW.blocked (h : SpW w0 w mb b m sz l wt on ops) :
    Calls Tryd.prog 30 #[spV 0 b m, .pointer (some ⟨mb.p, 0, none⟩)] w fun e w' => e = .returned (.int .i64 wt) ∧ SpW w0 w' mb b m sz l wt on ops ∧ Below w.heap.size w w' := by
  obtain ⟨n1, n2, n3, n4, n5⟩ := h.nums
  refine (blocked_ok h.mach b m n5 h.right wt (spM_cell0 ..)).mono ?_
  rintro e w' ⟨he, hb⟩
  exact ⟨he, h.below hb, hb⟩
theorem SpW.isOn (h : SpW w0 w mb b m sz l wt on ops) (i : Int) (v : Bool) (hv : hasBit (bitsV b on) i = v) :
    Calls Tryd.prog 29 #[spV 0 b m, .pointer (some ⟨mb.p, 0, none⟩), .int .i64 i] w fun e w' => e = .returned (.bool v) ∧ SpW w0 w' mb b m sz l wt on ops ∧ Below w.heap.size w w' := by
  obtain ⟨n1, n2, n3, n4, n5⟩ := h.nums
  subst hv
  refine (on_ok h.mach b n2 m n5 h.right on (spM_cell1 ..) i).mono ?_
  rintro e w' ⟨he, hb⟩
  exact ⟨he, h.below hb, hb⟩
/-- How such a machine begins: New, then spare.New. -/
theorem SpW.first {w1 : World} {p s c : Nat} (w0 : World) (hT : Tab w0) (hb1 : Below w0.heap.size w0 w) (hp : w0.heap.size ≤ p) (hs : w0.heap.size ≤ s) (hc : w.heap.size ≤ c) (hk : Kept (⟨p, p, s⟩ : MB).has w w1) (hr : rightB b m = true) {st : MS} (hst : spM sz l 0 0 = st) (hm : MachP w1 ⟨p, c, s⟩ st) (n : Nat) : SpW w0 w1 ⟨p, c, s⟩ b m sz l 0 0 (List.replicate n none) where
  mach := hst ▸ hm
  op k o q e := by
    rw [List.getElem?_replicate] at e
    split at e <;> cases e
  dist k k' o q q' _ e := by
    rw [List.getElem?_replicate] at e
    split at e <;> cases e
  tab := (hT.below hb1 hT.lt).kept hk (by
    have := hT.lt
    rintro (e | e | e)
    · have e' : 0 = p := e; omega
    · have e' : 0 = p := e; omega
    · have e' : 0 = s := e; omega)
  mbw q e := by
    have := hb1.size
    rcases e with e | e | e
    · have e' : q = p := e; omega
    · have e' : q = c := e; omega
    · have e' : q = s := e; omega
  bel := hb1.trans (hk.below hb1.size (by
    rintro q (e | e | e)
    · have e' : q = p := e; omega
    · have e' : q = p := e; omega
    · have e' : q = s := e; omega))
  pos := hT.lt
  right := hr
end
end Go.Proofs.YtkilghhknimolaaDoor
