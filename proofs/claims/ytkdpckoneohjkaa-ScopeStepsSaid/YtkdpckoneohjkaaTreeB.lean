/-
  WHAT IS PROVED HERE: a machine with a tree of scopes on it ('SW'), and contracts of the tree's operations in the words of its scopes: Enter, Leave, Live, Ask, Asked, Peek. Conditions: the pointers are theirs.
-/
import Derived.Test.YtkdpckoneohjkaaTreeA
namespace Go.Proofs.Ytkdpckoneohjkaa
open Go.RowKit

/-- A scope: the one around it, how many are around it, whether it was asked to be cancelled, how many live in it. -/
structure Sc where
  par : Int
  nest : Int
  ask : Int
  live : Int

def scN (l : List Sc) : List Nd := l.mapIdx fun i n => ⟨n.par, n.nest, 2 * (i : Int)⟩
def scC (l : List Sc) : List Int := l.flatMap fun n => [n.ask, n.live]
theorem length_scN (l : List Sc) : (scN l).length = l.length := by simp [scN]
theorem get_scN (l : List Sc) (i : Nat) (hi : i < (scN l).length) : (scN l)[i] = ⟨(l[i]'(by simpa [scN] using hi)).par, (l[i]'(by simpa [scN] using hi)).nest, 2 * (i : Int)⟩ := by simp [scN]
theorem scN_append (l : List Sc) (n : Sc) : scN (l ++ [n]) = scN l ++ [⟨n.par, n.nest, 2 * (l.length : Int)⟩] := by simp [scN, List.mapIdx_append]
theorem scC_append (l m : List Sc) : scC (l ++ m) = scC l ++ scC m := by simp [scC]
theorem length_scC (l : List Sc) : (scC l).length = 2 * l.length := by
  induction l with
  | nil => rfl
  | cons n l ih =>
    have : scC (n :: l) = [n.ask, n.live] ++ scC l := rfl
    rw [this, List.length_append, ih]; simp; omega
theorem get_scC (l : List Sc) (i : Nat) (hi : i < l.length) : (scC l)[2 * i]? = some (l[i]'hi).ask ∧ (scC l)[2 * i + 1]? = some (l[i]'hi).live := by
  induction l generalizing i with
  | nil => simp at hi
  | cons n l ih =>
    have hc : scC (n :: l) = [n.ask, n.live] ++ scC l := rfl
    rw [hc]
    cases i with
    | zero => simp
    | succ i =>
      have hd : ∀ j, ([n.ask, n.live] ++ scC l)[j + 2]? = (scC l)[j]? := fun j => by simp
      rw [show 2 * (i + 1) + 1 = 2 * i + 1 + 2 by omega, show 2 * (i + 1) = 2 * i + 2 by omega, hd, hd]
      simpa using ih i (by simpa using hi)
theorem set_scC_ask (l : List Sc) (i : Nat) (hi : i < l.length) (x : Int) : (scC l).set (2 * i) x = scC (l.set i { l[i]'hi with ask := x }) := by
  induction l generalizing i with
  | nil => simp at hi
  | cons n l ih =>
    have hc : ∀ n : Sc, ∀ l, scC (n :: l) = [n.ask, n.live] ++ scC l := fun _ _ => rfl
    cases i with
    | zero => simp [hc]
    | succ i =>
      have := ih i (by simpa using hi)
      rw [hc, show 2 * (i + 1) = 2 * i + 2 by omega]
      simp only [List.cons_append, List.nil_append, List.set_cons_succ, List.getElem_cons_succ]
      rw [this, hc]
      rfl
theorem set_scC_live (l : List Sc) (i : Nat) (hi : i < l.length) (x : Int) : (scC l).set (2 * i + 1) x = scC (l.set i { l[i]'hi with live := x }) := by
  induction l generalizing i with
  | nil => simp at hi
  | cons n l ih =>
    have hc : ∀ n : Sc, ∀ l, scC (n :: l) = [n.ask, n.live] ++ scC l := fun _ _ => rfl
    cases i with
    | zero => simp [hc]
    | succ i =>
      have := ih i (by simpa using hi)
      rw [hc, show 2 * (i + 1) + 1 = (2 * i + 1) + 2 by omega]
      simp only [List.cons_append, List.nil_append, List.set_cons_succ, List.getElem_cons_succ]
      rw [this, hc]
      rfl
theorem scN_set (l : List Sc) (i : Nat) (hi : i < l.length) (n : Sc) (h1 : n.par = (l[i]'hi).par) (h2 : n.nest = (l[i]'hi).nest) : scN (l.set i n) = scN l := by
  apply List.ext_getElem?
  intro j
  simp only [scN, List.getElem?_mapIdx, List.getElem?_set]
  by_cases e : i = j
  · subst e; simp [hi, h1, h2]
  · simp [e]

/-- A machine with a tree on it: cells 2s and 2s+1 are scope s's. -/
structure SW (W0 w : World) (mb : MB) (p g : Nat) (size : Int) (steps : List Int) (l : List Sc) : Prop where
  m : MachP w mb ⟨scC l, size, steps⟩
  t : Tr w p g (scN l)
  sp : ¬ mb.has p
  sg : ¬ mb.has g
  from_ : mb.from_ W0.heap.size
  fp : W0.heap.size ≤ p
  fg : W0.heap.size ≤ g
  few : l.length ≤ 1000 ∧ 0 ≤ size ∧ size ≤ 1048576
  bel : Below W0.heap.size W0 w
/-- A step more of worker i. -/
def stepUp (steps : List Int) (i : Int) : List Int := steps.set i.toNat (wrap64 (steps[i.toNat]?.getD 0 + 1))
def hasSW (mb : MB) (p g k : Nat) : Prop := mb.has k ∨ k = p ∨ k = g
section
variable {W0 w w' : World} {mb : MB} {p g : Nat} {size : Int} {steps : List Int} {l : List Sc}
theorem SW.kept {S : Nat → Prop} (h : SW W0 w mb p g size steps l) (hk : Kept S w w') (hs : ∀ k, hasSW mb p g k → ¬ S k) (hb : Below W0.heap.size W0 w') : SW W0 w' mb p g size steps l :=
  ⟨h.m.kept hk (fun k e => hs k (.inl e)), h.t.kept hk (hs _ (.inr (.inl rfl))) (hs _ (.inr (.inr rfl))), h.sp, h.sg, h.from_, h.fp, h.fg, h.few, hb⟩
theorem SW.lt (h : SW W0 w mb p g size steps l) : ∀ k, hasSW mb p g k → k < w.heap.size := by
  rintro k (e | rfl | rfl)
  · exact h.m.lt k e
  · exact h.t.lt.1
  · exact h.t.lt.2
theorem SW.new (h : SW W0 w mb p g size steps l) : ∀ k, hasSW mb p g k → W0.heap.size ≤ k := by
  rintro k (e | rfl | rfl)
  · exact MB.from_has h.from_ k e
  · exact h.fp
  · exact h.fg
theorem SW.below (h : SW W0 w mb p g size steps l) (hb : Below w.heap.size w w') : SW W0 w' mb p g size steps l :=
  h.kept (Kept.of_below (S := fun k => w.heap.size ≤ k) hb) (fun k e e' => by have := h.lt k e; omega) (h.bel.trans (hb.mono h.bel.size))
theorem SW.drew (h : SW W0 w mb p g size steps l) : SW W0 w.drew mb p g size steps l := h.kept (Kept.refl (fun _ => False) w).drew (fun _ _ => id) ⟨h.bel.os, h.bel.tape, h.bel.output, h.bel.size, h.bel.block⟩
theorem SW.drewN (h : SW W0 w mb p g size steps l) (n : Nat) : SW W0 (w.drewN n) mb p g size steps l := h.kept ((Kept.refl (fun _ => False) w).drewN n) (fun _ _ => id) ⟨h.bel.os, h.bel.tape, h.bel.output, h.bel.size, h.bel.block⟩
/-- An operation turned the machine alone. -/
theorem SW.op (h : SW W0 w mb p g size steps l) {steps' : List Int} {l' : List Sc} (hn : scN l' = scN l) (hk : Kept mb.has w w') (hm : MachP w' mb ⟨scC l', size, steps'⟩) : SW W0 w' mb p g size steps' l' :=
  ⟨hm, by rw [hn]; exact h.t.kept hk h.sp h.sg, h.sp, h.sg, h.from_, h.fp, h.fg, by have := h.few; have e := congrArg List.length hn; simp only [length_scN] at e; rw [e]; exact this, h.bel.trans (hk.under (B := W0.heap.size) h.from_ h.bel.size)⟩
/-- What an operation about scope s reads of the tree. -/
theorem SW.opens (h : SW W0 w mb p g size steps l) {s : Int} (hs : inT l.length s = true) :
    ∃ cap a, w.cell? ⟨p, 0, none⟩ = some (.slice (some ⟨g, 0, none⟩) l.length cap) ∧ w.cell? ⟨g, s.toNat * 3 + 2, none⟩ = some (.int .i64 a) ∧ 0 ≤ s ∧ s < l.length ∧ l.length ≤ cap ∧ cap ≤ maxLen ∧ Hid (a = 2 * s) ∧ 0 ≤ a ∧ a ≤ 2000000000000000 := by
  obtain ⟨s0, s1⟩ : 0 ≤ s ∧ s < l.length := by simpa [inT] using hs
  obtain ⟨cap, c0, h1, h2⟩ := h.t.head
  rw [length_scN] at c0 h1
  have hl : s.toNat < (scN l).length := by rw [length_scN]; omega
  have hn := (h.t.node s.toNat hl).2.2
  rw [get_scN] at hn
  refine ⟨cap, _, c0, hn, s0, s1, h1, h2, Lib.hid ?_, ?_, ?_⟩
  · show 2 * ((s.toNat : Nat) : Int) = 2 * s
    omega
  · show 0 ≤ 2 * ((s.toNat : Nat) : Int)
    omega
  · show 2 * ((s.toNat : Nat) : Int) ≤ 2000000000000000
    have := h.few.1
    omega
theorem scMS_given (s : Int) (hs : inT l.length s = true) : (⟨scC l, size, steps⟩ : MS).isGiven (2 * s) = true ∧ (⟨scC l, size, steps⟩ : MS).isGiven (2 * s + 1) = true := by
  obtain ⟨s0, s1⟩ : 0 ≤ s ∧ s < l.length := by simpa [inT] using hs
  simp only [MS.isGiven, length_scC, decide_eq_true_eq]
  omega
theorem scMS_ask (s : Nat) (hs : s < l.length) : (⟨scC l, size, steps⟩ : MS).cellOf (2 * (s : Int)) = (l[s]'hs).ask := by
  unfold MS.cellOf
  rw [if_pos (by simp only [length_scC]; omega), show (2 * (s : Int)).toNat = 2 * s by omega]
  simp only [(get_scC l s hs).1, Option.getD_some]
theorem scMS_live (s : Nat) (hs : s < l.length) : (⟨scC l, size, steps⟩ : MS).cellOf (2 * (s : Int) + 1) = (l[s]'hs).live := by
  unfold MS.cellOf
  rw [if_pos (by simp only [length_scC]; omega), show (2 * (s : Int) + 1).toNat = 2 * s + 1 by omega]
  simp only [(get_scC l s hs).2, Option.getD_some]
theorem scMS_did (i : Int) : (⟨scC l, size, steps⟩ : MS).did i = ⟨scC l, size, stepUp steps i⟩ := rfl
theorem scMS_setAsk (i : Int) (s : Nat) (hs : s < l.length) (x : Int) : ((⟨scC l, size, steps⟩ : MS).did i).putAt (2 * (s : Int)) x = ⟨scC (l.set s { l[s]'hs with ask := x }), size, stepUp steps i⟩ := by
  simp only [MS.putAt, MS.did]
  rw [show (2 * (s : Int)).toNat = 2 * s by omega, set_scC_ask l s hs]
  rfl
theorem scMS_setLive (i : Int) (s : Nat) (hs : s < l.length) (x : Int) : ((⟨scC l, size, steps⟩ : MS).did i).putAt (2 * (s : Int) + 1) x = ⟨scC (l.set s { l[s]'hs with live := x }), size, stepUp steps i⟩ := by
  simp only [MS.putAt, MS.did]
  rw [show (2 * (s : Int) + 1).toNat = 2 * s + 1 by omega, set_scC_live l s hs]
  rfl
theorem sc_lt {s : Nat} {n : Sc} (hn : l[s]? = some n) : s < l.length := (List.getElem?_eq_some_iff.1 hn).1
theorem sc_in {s : Nat} {n : Sc} (hn : l[s]? = some n) : inT l.length s = true := by simp [inT]; exact sc_lt hn
theorem sc_inN {s : Nat} {n : Sc} (hn : l[s]? = some n) : inT (scN l).length s = true := by rw [length_scN]; exact sc_in hn
theorem sc_ask {s : Nat} {n : Sc} (hn : l[s]? = some n) : (⟨scC l, size, steps⟩ : MS).cellOf (2 * (s : Int)) = n.ask := by
  rw [scMS_ask s (sc_lt hn), (List.getElem?_eq_some_iff.1 hn).2]
theorem sc_live {s : Nat} {n : Sc} (hn : l[s]? = some n) : (⟨scC l, size, steps⟩ : MS).cellOf (2 * (s : Int) + 1) = n.live := by
  rw [scMS_live s (sc_lt hn), (List.getElem?_eq_some_iff.1 hn).2]
theorem sc_setAsk {s : Nat} {n : Sc} (hn : l[s]? = some n) (i x : Int) : ((⟨scC l, size, steps⟩ : MS).did i).putAt (2 * (s : Int)) x = ⟨scC (l.set s { n with ask := x }), size, stepUp steps i⟩ := by
  rw [scMS_setAsk i s (sc_lt hn), (List.getElem?_eq_some_iff.1 hn).2]
theorem sc_setLive {s : Nat} {n : Sc} (hn : l[s]? = some n) (i x : Int) : ((⟨scC l, size, steps⟩ : MS).did i).putAt (2 * (s : Int) + 1) x = ⟨scC (l.set s { n with live := x }), size, stepUp steps i⟩ := by
  rw [scMS_setLive i s (sc_lt hn), (List.getElem?_eq_some_iff.1 hn).2]
theorem scN_setAsk {s : Nat} {n : Sc} (hn : l[s]? = some n) (x : Int) : scN (l.set s { n with ask := x }) = scN l := scN_set l s (sc_lt hn) _ (by rw [(List.getElem?_eq_some_iff.1 hn).2]) (by rw [(List.getElem?_eq_some_iff.1 hn).2])
theorem scN_setLive {s : Nat} {n : Sc} (hn : l[s]? = some n) (x : Int) : scN (l.set s { n with live := x }) = scN l := scN_set l s (sc_lt hn) _ (by rw [(List.getElem?_eq_some_iff.1 hn).2]) (by rw [(List.getElem?_eq_some_iff.1 hn).2])
theorem sc_g0 {s : Nat} {n : Sc} (hn : l[s]? = some n) : (⟨scC l, size, steps⟩ : MS).isGiven (2 * (s : Int)) = true := (scMS_given _ (sc_in hn)).1
theorem sc_g1 {s : Nat} {n : Sc} (hn : l[s]? = some n) : (⟨scC l, size, steps⟩ : MS).isGiven (2 * (s : Int) + 1) = true := (scMS_given _ (sc_in hn)).2
theorem scMS_caller {i : Int} (h0 : 0 ≤ i) (h1 : i < steps.length) : (⟨scC l, size, steps⟩ : MS).isCaller i = true := by simp [MS.isCaller]; omega
theorem scMS_nocaller {i : Int} (h0 : ¬ (0 ≤ i ∧ i < steps.length)) : (⟨scC l, size, steps⟩ : MS).isCaller i = false := by simp [MS.isCaller]; omega
theorem inT_nat {n s : Nat} (hs : s < n) : inT n (s : Int) = true := by simp [inT]; omega
end

section
variable {W0 w : World} {mb : MB} {p g : Nat} {size : Int} {steps : List Int} {l : List Sc}
set_option maxHeartbeats 1000000 in
theorem sw_enter_ok (h : SW W0 w mb p g size steps l) (i : Int) (h0 : 0 ≤ i) (h1 : i < steps.length) (s : Nat) (n : Sc) (hn : l[s]? = some n) :
    Calls Try.prog 46 #[.pointer (some ⟨p, 0, none⟩), .pointer (some ⟨mb.p, 0, none⟩), .int .i64 i, .int .i64 s] w fun e w' =>
      e = .returned (.int .i64 0) ∧ SW W0 w' mb p g size (stepUp steps i) (l.set s { n with live := wrap64 (n.live + 1) }) ∧ Kept mb.has w w' := by
  have hin := sc_in hn
  go_enter Try.func46, Try.ntmps46
  go_wp2_with fail
  refine (may_ok p g (scN l) ⟨mb.p, 0, none⟩ s _ h.t (sc_inN hn)).mono ?_
  rintro e w2 ⟨rfl, hb⟩
  have h2 := h.below hb
  have hk2 : Kept mb.has w w2 := Kept.of_below hb
  obtain ⟨cap, a, c0, c1, s0, s1, l1, l2, HA, a0, a1⟩ := h2.opens hin
  rw [Int.toNat_natCast] at c1
  have HH := Lib.hid h2
  have HN := Lib.hid hn
  clear h h2 hb hn hin
  go_wp2_with fail
  have ea : a = 2 * (s : Int) := HA.out
  refine (add_v mb ⟨scC l, size, steps⟩ i (a + 1) 1 n.live _ HH.out.m (scMS_caller h0 h1) (by rw [ea]; exact sc_g1 HN.out) (by rw [ea]; exact sc_live HN.out)).mono ?_
  rw [ea, sc_setLive HN.out i]
  rintro e w3 ⟨rfl, hm3, hk3⟩
  go_wp2
  go_ret
  exact ⟨rfl, HH.out.op (scN_setLive HN.out _) hk3 hm3, hk2.trans hk3 (fun _ _ e => e)⟩
set_option maxHeartbeats 1000000 in
theorem sw_leave_ok (h : SW W0 w mb p g size steps l) (i : Int) (h0 : 0 ≤ i) (h1 : i < steps.length) (s : Nat) (n : Sc) (hn : l[s]? = some n) :
    Calls Try.prog 47 #[.pointer (some ⟨p, 0, none⟩), .pointer (some ⟨mb.p, 0, none⟩), .int .i64 i, .int .i64 s] w fun e w' =>
      e = .returned (.tuple #[.bool (decide (n.live = 1)), .int .i64 0]) ∧ SW W0 w' mb p g size (stepUp steps i) (l.set s { n with live := wrap64 (n.live + -1) }) ∧ Kept mb.has w w' := by
  have hin := sc_in hn
  go_enter Try.func47, Try.ntmps47
  go_wp2_with fail
  refine (may_ok p g (scN l) ⟨mb.p, 0, none⟩ s _ h.t (sc_inN hn)).mono ?_
  rintro e w2 ⟨rfl, hb⟩
  have h2 := h.below hb
  have hk2 : Kept mb.has w w2 := Kept.of_below hb
  obtain ⟨cap, a, c0, c1, s0, s1, l1, l2, HA, a0, a1⟩ := h2.opens hin
  rw [Int.toNat_natCast] at c1
  have HH := Lib.hid h2
  have HN := Lib.hid hn
  clear h h2 hb hn hin
  go_wp2_with fail
  have ea : a = 2 * (s : Int) := HA.out
  refine (add_v mb ⟨scC l, size, steps⟩ i (a + 1) (-1) n.live _ HH.out.m (scMS_caller h0 h1) (by rw [ea]; exact sc_g1 HN.out) (by rw [ea]; exact sc_live HN.out)).mono ?_
  rw [ea, sc_setLive HN.out i]
  rintro e w3 ⟨rfl, hm3, hk3⟩
  by_cases e1 : n.live = 1
  all_goals
    first
    | have e2 : decide (n.live = 1) = true := by simp [e1]
      clear e2
      go_wp2
      go_ret2
      exact ⟨by first | rfl | (simp [e1]), HH.out.op (scN_setLive HN.out _) hk3 hm3, hk2.trans hk3 (fun _ _ e => e)⟩
    | have e2 : decide (n.live = 1) = false := by simp [e1]
      clear e2
      go_wp2
      go_ret2
      exact ⟨by first | rfl | (simp [e1]), HH.out.op (scN_setLive HN.out _) hk3 hm3, hk2.trans hk3 (fun _ _ e => e)⟩
set_option maxHeartbeats 1000000 in
theorem sw_live_ok (h : SW W0 w mb p g size steps l) (i : Int) (h0 : 0 ≤ i) (h1 : i < steps.length) (s : Nat) (n : Sc) (hn : l[s]? = some n) :
    Calls Try.prog 48 #[.pointer (some ⟨p, 0, none⟩), .pointer (some ⟨mb.p, 0, none⟩), .int .i64 i, .int .i64 s] w fun e w' =>
      e = .returned (.tuple #[.int .i64 n.live, .int .i64 0]) ∧ SW W0 w' mb p g size (stepUp steps i) l ∧ Kept mb.has w w' := by
  have hin := sc_in hn
  go_enter Try.func48, Try.ntmps48
  go_wp2_with fail
  refine (may_ok p g (scN l) ⟨mb.p, 0, none⟩ s _ h.t (sc_inN hn)).mono ?_
  rintro e w2 ⟨rfl, hb⟩
  have h2 := h.below hb
  have hk2 : Kept mb.has w w2 := Kept.of_below hb
  obtain ⟨cap, a, c0, c1, s0, s1, l1, l2, HA, a0, a1⟩ := h2.opens hin
  rw [Int.toNat_natCast] at c1
  have HH := Lib.hid h2
  have HN := Lib.hid hn
  clear h h2 hb hn hin
  go_wp2_with fail
  have ea : a = 2 * (s : Int) := HA.out
  refine (load_v mb ⟨scC l, size, steps⟩ i (a + 1) n.live _ HH.out.m (scMS_caller h0 h1) (by rw [ea]; exact sc_g1 HN.out) (by rw [ea]; exact sc_live HN.out)).mono ?_
  rw [ea, scMS_did]
  rintro e w3 ⟨rfl, hm3, hk3⟩
  go_wp2
  go_ret2
  exact ⟨rfl, HH.out.op rfl hk3 hm3, hk2.trans hk3 (fun _ _ e => e)⟩
set_option maxHeartbeats 1000000 in
theorem sw_ask_hit (h : SW W0 w mb p g size steps l) (i : Int) (h0 : 0 ≤ i) (h1 : i < steps.length) (s : Nat) (n : Sc) (hn : l[s]? = some n) (ha : n.ask = 0) :
    Calls Try.prog 28 #[.pointer (some ⟨p, 0, none⟩), .pointer (some ⟨mb.p, 0, none⟩), .int .i64 i, .int .i64 s] w fun e w' =>
      e = .returned (.tuple #[.bool true, .int .i64 0]) ∧ SW W0 w' mb p g size (stepUp steps i) (l.set s { n with ask := 1 }) ∧ Kept mb.has w w' := by
  have hin := sc_in hn
  go_enter Try.func28, Try.ntmps28
  go_wp2_with fail
  refine (may_ok p g (scN l) ⟨mb.p, 0, none⟩ s _ h.t (sc_inN hn)).mono ?_
  rintro e w2 ⟨rfl, hb⟩
  have h2 := h.below hb
  have hk2 : Kept mb.has w w2 := Kept.of_below hb
  obtain ⟨cap, a, c0, c1, s0, s1, l1, l2, HA, a0, a1⟩ := h2.opens hin
  rw [Int.toNat_natCast] at c1
  have HH := Lib.hid h2
  have HN := Lib.hid hn
  clear h h2 hb hn hin
  go_wp2_with fail
  have ea : a = 2 * (s : Int) := HA.out
  refine (cas_hit mb ⟨scC l, size, steps⟩ i a 0 1 _ HH.out.m (scMS_caller h0 h1) (by rw [ea]; exact sc_g0 HN.out) (by rw [ea]; exact (sc_ask HN.out).trans ha)).mono ?_
  rw [ea, sc_setAsk HN.out i]
  rintro e w3 ⟨rfl, hm3, hk3⟩
  go_wp2
  go_ret2
  exact ⟨rfl, HH.out.op (scN_setAsk HN.out _) hk3 hm3, hk2.trans hk3 (fun _ _ e => e)⟩
set_option maxHeartbeats 1000000 in
theorem sw_ask_miss (h : SW W0 w mb p g size steps l) (i : Int) (h0 : 0 ≤ i) (h1 : i < steps.length) (s : Nat) (n : Sc) (hn : l[s]? = some n) (ha : ¬ n.ask = 0) :
    Calls Try.prog 28 #[.pointer (some ⟨p, 0, none⟩), .pointer (some ⟨mb.p, 0, none⟩), .int .i64 i, .int .i64 s] w fun e w' =>
      e = .returned (.tuple #[.bool false, .int .i64 0]) ∧ SW W0 w' mb p g size (stepUp steps i) l ∧ Kept mb.has w w' := by
  have hin := sc_in hn
  go_enter Try.func28, Try.ntmps28
  go_wp2_with fail
  refine (may_ok p g (scN l) ⟨mb.p, 0, none⟩ s _ h.t (sc_inN hn)).mono ?_
  rintro e w2 ⟨rfl, hb⟩
  have h2 := h.below hb
  have hk2 : Kept mb.has w w2 := Kept.of_below hb
  obtain ⟨cap, a, c0, c1, s0, s1, l1, l2, HA, a0, a1⟩ := h2.opens hin
  rw [Int.toNat_natCast] at c1
  have HH := Lib.hid h2
  have HN := Lib.hid hn
  clear h h2 hb hn hin
  go_wp2_with fail
  have ea : a = 2 * (s : Int) := HA.out
  refine (cas_miss mb ⟨scC l, size, steps⟩ i a 0 1 _ HH.out.m (scMS_caller h0 h1) (by rw [ea]; exact sc_g0 HN.out) (by rw [ea]; exact fun e => ha ((sc_ask HN.out).symm.trans e))).mono ?_
  rw [ea, scMS_did]
  rintro e w3 ⟨rfl, hm3, hk3⟩
  go_wp2
  go_ret2
  exact ⟨rfl, HH.out.op rfl hk3 hm3, hk2.trans hk3 (fun _ _ e => e)⟩
set_option maxHeartbeats 1000000 in
theorem sw_asked_ok (h : SW W0 w mb p g size steps l) (i : Int) (h0 : 0 ≤ i) (h1 : i < steps.length) (s : Nat) (n : Sc) (hn : l[s]? = some n) :
    Calls Try.prog 50 #[.pointer (some ⟨p, 0, none⟩), .pointer (some ⟨mb.p, 0, none⟩), .int .i64 i, .int .i64 s] w fun e w' =>
      e = .returned (.tuple #[.bool (decide (¬ n.ask = 0)), .int .i64 0]) ∧ SW W0 w' mb p g size (stepUp steps i) l ∧ Kept mb.has w w' := by
  have hin := sc_in hn
  go_enter Try.func50, Try.ntmps50
  go_wp2_with fail
  refine (may_ok p g (scN l) ⟨mb.p, 0, none⟩ s _ h.t (sc_inN hn)).mono ?_
  rintro e w2 ⟨rfl, hb⟩
  have h2 := h.below hb
  have hk2 : Kept mb.has w w2 := Kept.of_below hb
  obtain ⟨cap, a, c0, c1, s0, s1, l1, l2, HA, a0, a1⟩ := h2.opens hin
  rw [Int.toNat_natCast] at c1
  have HH := Lib.hid h2
  have HN := Lib.hid hn
  clear h h2 hb hn hin
  go_wp2_with fail
  have ea : a = 2 * (s : Int) := HA.out
  refine (load_v mb ⟨scC l, size, steps⟩ i a n.ask _ HH.out.m (scMS_caller h0 h1) (by rw [ea]; exact sc_g0 HN.out) (by rw [ea]; exact sc_ask HN.out)).mono ?_
  rw [ea, scMS_did]
  rintro e w3 ⟨rfl, hm3, hk3⟩
  by_cases e1 : n.ask = 0
  all_goals
    first
    | have e2 : decide (¬ n.ask = 0) = true := by simp [e1]
      clear e2
      go_wp2
      go_ret2
      exact ⟨by first | rfl | (simp [e1]), HH.out.op rfl hk3 hm3, hk2.trans hk3 (fun _ _ e => e)⟩
    | have e2 : decide (¬ n.ask = 0) = false := by simp [e1]
      clear e2
      go_wp2
      go_ret2
      exact ⟨by first | rfl | (simp [e1]), HH.out.op rfl hk3 hm3, hk2.trans hk3 (fun _ _ e => e)⟩
end
end Go.Proofs.Ytkdpckoneohjkaa
