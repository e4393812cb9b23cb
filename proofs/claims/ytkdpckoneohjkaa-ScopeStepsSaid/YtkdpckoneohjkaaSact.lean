/-
  WHAT IS PROVED HERE: what the laws pelotonlaw14.ScopeActs and ScopeSteps keep in memory ('AS': a tree on a machine, and the reference's tree); the operations that are refused, by the reference's answer. Conditions: none beyond what each theorem names.
-/
import Derived.Test.YtkdpckoneohjkaaQuiet
namespace Go.Proofs.Ytkdpckoneohjkaa
open Go.RowKit

theorem map_same' {α β : Type} {l : List α} {i : Nat} {a a' : α} (f : α → β) (h : l[i]? = some a) (e : f a' = f a) : (l.set i a').map f = l.map f := by
  rw [List.map_set, e]
  apply List.ext_getElem?
  intro j
  by_cases hj : i = j
  · subst hj
    have := (List.getElem?_eq_some_iff.1 h).1
    rw [List.getElem?_set_self (by simpa using this), List.getElem?_map, h]; rfl
  · rw [List.getElem?_set_ne hj]
/-- A tree on a machine of two workers, and the reference's tree. -/
structure AS (W w : World) (mb : MB) (t g : Nat) (size did : Int) (L : List Sc) (R : RB) : Prop where
  sd : SD W w mb t g size 3 did L
  rt : RT w R L
  wf : WfS L
  ap : ∀ q, R.has q → ¬ hasSW mb t g q
  rw_ : ∀ q, R.has q → W.heap.size ≤ q
section
variable {W w w' : World} {mb : MB} {t g : Nat} {size did d' : Int} {L L' : List Sc} {R : RB} {k : Nat} {n : Sc}
theorem AS.below (h : AS W w mb t g size did L R) (hb : Below w.heap.size w w') : AS W w' mb t g size did L R :=
  ⟨h.sd.below hb, h.rt.below hb, h.wf, h.ap, h.rw_⟩
theorem AS.kept {S : Nat → Prop} (h : AS W w mb t g size did L R) (hk : Kept S w w') (h1 : ∀ q, hasSW mb t g q → ¬ S q) (h2 : ∀ q, R.has q → ¬ S q) (hb : Below W.heap.size W w') : AS W w' mb t g size did L R :=
  ⟨h.sd.kept hk h1 hb, h.rt.kept hk h2, h.wf, h.ap, h.rw_⟩
theorem AS.same (h : AS W w mb t g size did L R) (h2 : SD W w' mb t g size 3 d' L) (hk : Kept mb.has w w') : AS W w' mb t g size d' L R :=
  ⟨h2, h.rt.kept hk (fun q hq e => h.ap q hq (.inl e)), h.wf, h.ap, h.rw_⟩
theorem AS.cells (h : AS W w mb t g size did L R) : w.cell? ⟨R.r, 0, none⟩ = some (.slice (some ⟨R.pb, 0, none⟩) L.length R.pc) ∧ w.cell? ⟨R.r, 1, none⟩ = some (.slice (some ⟨R.ab, 0, none⟩) L.length R.ac) ∧ w.cell? ⟨R.r, 2, none⟩ = some (.slice (some ⟨R.lb, 0, none⟩) L.length R.lc) := h.rt.cells
theorem AS.live (h : AS W w mb t g size did L R) (hn : L[k]? = some n) (x : Int) (h2 : SD W w' mb t g size 3 d' (L.set k { n with live := x })) (hk : Kept mb.has w w') :
    AS W (w'.setCell ⟨R.lb, k, none⟩ (.int .i64 x)) mb t g size d' (L.set k { n with live := x }) R := by
  have hkl := sc_lt hn
  have hr := h.rt.kept hk (fun q hq e => h.ap q hq (.inl e))
  have hl : R.has R.lb := .inr (.inr (.inr rfl))
  have hst : Kept (fun q => q = R.lb) w' (w'.setCell ⟨R.lb, k, none⟩ (.int .i64 x)) := (Kept.refl (fun q => q = R.lb) w').setCell (p := ⟨R.lb, k, none⟩) (.inl rfl) _
  have n1 : R.r ≠ R.lb := Ne.symm (Rw.apart hr.rl hr.box (by decide))
  have n2 : R.pb ≠ R.lb := Rw.apart2 hr.rp hr.rl (by decide)
  have n3 : R.ab ≠ R.lb := Rw.apart2 hr.ra hr.rl (by decide)
  refine ⟨h2.kept hst (fun q hq e => h.ap _ hl (e ▸ hq)) (h2.bel.trans (hst.below h2.bel.size (fun q e => by rw [e]; exact h.rw_ _ hl))), ⟨?_, ?_, ?_, ?_⟩, h.wf.set hn _ rfl rfl, h.ap, h.rw_⟩
  · rw [List.length_set]; exact hr.box.kept hst n1
  · rw [map_same' (a' := { n with live := x }) Sc.par hn rfl]; exact hr.rp.kept hst n2
  · unfold askVs; rw [map_same' (a' := { n with live := x }) (fun n => Value.bool (askB n)) hn rfl]; exact hr.ra.kept hst n3
  · have := hr.rl.set k (by rw [len_row]; exact hkl) (.int .i64 x)
    rw [set_ints] at this
    rw [List.map_set]; exact this
theorem AS.ask (h : AS W w mb t g size did L R) (hn : L[k]? = some n) (h2 : SD W w' mb t g size 3 d' (askS L k n)) (hk : Kept mb.has w w') :
    AS W (w'.setCell ⟨R.ab, k, none⟩ (.bool true)) mb t g size d' (askS L k n) R := by
  have hkl := sc_lt hn
  have hr := h.rt.kept hk (fun q hq e => h.ap q hq (.inl e))
  have hl : R.has R.ab := .inr (.inr (.inl rfl))
  have hst : Kept (fun q => q = R.ab) w' (w'.setCell ⟨R.ab, k, none⟩ (.bool true)) := (Kept.refl (fun q => q = R.ab) w').setCell (p := ⟨R.ab, k, none⟩) (.inl rfl) _
  have n1 : R.r ≠ R.ab := Ne.symm (Rw.apart hr.ra hr.box (by decide))
  have n2 : R.pb ≠ R.ab := Rw.apart2 hr.rp hr.ra (by decide)
  have n3 : R.lb ≠ R.ab := Rw.apart2 hr.rl hr.ra (by decide)
  have hra := hr.ra.set k (by unfold askVs; rw [List.length_map]; exact hkl) (.bool true)
  have e2 : (askVs L).set k (.bool true) = askVs (askS L k n) := by
    unfold askS
    by_cases e : n.ask = 0
    · rw [if_pos e]; unfold askVs; rw [List.map_set]; rfl
    · rw [if_neg e]
      unfold askVs
      apply List.ext_getElem?
      intro j
      by_cases hj : k = j
      · subst hj
        rw [List.getElem?_set_self (by rw [List.length_map]; exact hkl), List.getElem?_map, hn]
        simp [askB, e]
      · rw [List.getElem?_set_ne hj]
  have hlen : (askS L k n).length = L.length := by unfold askS; split <;> simp
  have hpar : (askS L k n).map Sc.par = L.map Sc.par := by
    unfold askS; split
    · exact map_same' Sc.par hn rfl
    · rfl
  have hliv : (askS L k n).map Sc.live = L.map Sc.live := by
    unfold askS; split
    · exact map_same' Sc.live hn rfl
    · rfl
  have hwf : WfS (askS L k n) := by
    unfold askS; split
    · exact h.wf.set hn _ rfl rfl
    · exact h.wf
  refine ⟨h2.kept hst (fun q hq e => h.ap _ hl (e ▸ hq)) (h2.bel.trans (hst.below h2.bel.size (fun q e => by rw [e]; exact h.rw_ _ hl))), ⟨?_, ?_, ?_, ?_⟩, hwf, h.ap, h.rw_⟩
  · rw [hlen]; exact hr.box.kept hst n1
  · rw [hpar]; exact hr.rp.kept hst n2
  · rw [← e2]; exact hra
  · rw [hliv]; exact hr.rl.kept hst n3

theorem may_cases {i s c : Int} (hc : mayC L i 2 s = c) : (c = 17 ∧ inT L.length s = false) ∨ (c = 10 ∧ ∃ (k : Nat) (n : Sc), s = k ∧ L[k]? = some n ∧ ¬ (0 ≤ i ∧ i < 3)) ∨ (c = 0 ∧ ∃ (k : Nat) (n : Sc), s = k ∧ L[k]? = some n ∧ 0 ≤ i ∧ i < 3) := by
  unfold mayC at hc
  cases hs : inT L.length s with
  | false => rw [hs, if_pos rfl] at hc; exact .inl ⟨hc.symm, rfl⟩
  | true =>
    obtain ⟨k, n, e, hn⟩ := inT_get hs
    rw [hs, if_neg (by simp)] at hc
    by_cases hi : i < 0 ∨ 2 < i
    · rw [if_pos hi] at hc
      exact .inr (.inl ⟨hc.symm, k, n, e, hn, by omega⟩)
    · rw [if_neg hi] at hc
      exact .inr (.inr ⟨hc.symm, k, n, e, hn, by omega, by omega⟩)
theorem sd_may_none (h : SD W w mb t g size 3 did L) {s : Int} (hs : inT L.length s = false) : Calls Try.prog 60 #[.pointer (some ⟨t, 0, none⟩), .pointer (some ⟨mb.p, 0, none⟩), .int .i64 s] w fun e w' => e = .returned (.int .i64 17) ∧ Below w.heap.size w w' := by
  obtain ⟨steps, h1, h2, h3, h4⟩ := h
  exact may_none t g (scN L) ⟨mb.p, 0, none⟩ s w h4.t (by rw [length_scN]; exact hs)
theorem s_enter_no (h : SD W w mb t g size 3 did L) (i s c : Int) (hc : mayC L i 2 s = c) (h0 : ¬ c = 0) :
    Calls Try.prog 46 #[.pointer (some ⟨t, 0, none⟩), .pointer (some ⟨mb.p, 0, none⟩), .int .i64 i, .int .i64 s] w fun e w' => e = .returned (.int .i64 c) ∧ SD W w' mb t g size 3 did L ∧ Kept mb.has w w' := by
  rcases may_cases hc with ⟨rfl, hs⟩ | ⟨rfl, k, n, rfl, hn, hi⟩ | ⟨e, _⟩
  · exact (enter_stop _ _ i s 17 w h0 (sd_may_none h hs)).mono fun _ _ ⟨e, hb⟩ => ⟨e, h.below hb, Kept.of_below hb⟩
  · obtain ⟨steps, h1, h2, h3, h4⟩ := h
    exact (sw_enter_no h4 i (by rw [h1]; exact hi) k n hn).mono fun _ _ ⟨e, hw, hk⟩ => ⟨e, ⟨steps, h1, h2, h3, hw⟩, hk⟩
  · exact absurd e h0
theorem s_leave_no (h : SD W w mb t g size 3 did L) (i s c : Int) (hc : mayC L i 2 s = c) (h0 : ¬ c = 0) :
    Calls Try.prog 47 #[.pointer (some ⟨t, 0, none⟩), .pointer (some ⟨mb.p, 0, none⟩), .int .i64 i, .int .i64 s] w fun e w' => e = .returned (.tuple #[.bool false, .int .i64 c]) ∧ SD W w' mb t g size 3 did L ∧ Kept mb.has w w' := by
  rcases may_cases hc with ⟨rfl, hs⟩ | ⟨rfl, k, n, rfl, hn, hi⟩ | ⟨e, _⟩
  · exact (leave_stop _ _ i s 17 w h0 (sd_may_none h hs)).mono fun _ _ ⟨e, hb⟩ => ⟨e, h.below hb, Kept.of_below hb⟩
  · obtain ⟨steps, h1, h2, h3, h4⟩ := h
    exact (sw_leave_no h4 i (by rw [h1]; exact hi) k n hn).mono fun _ _ ⟨e, hw, hk⟩ => ⟨e, ⟨steps, h1, h2, h3, hw⟩, hk⟩
  · exact absurd e h0
theorem s_live_no (h : SD W w mb t g size 3 did L) (i s c : Int) (hc : mayC L i 2 s = c) (h0 : ¬ c = 0) :
    Calls Try.prog 48 #[.pointer (some ⟨t, 0, none⟩), .pointer (some ⟨mb.p, 0, none⟩), .int .i64 i, .int .i64 s] w fun e w' => e = .returned (.tuple #[.int .i64 0, .int .i64 c]) ∧ SD W w' mb t g size 3 did L ∧ Kept mb.has w w' := by
  rcases may_cases hc with ⟨rfl, hs⟩ | ⟨rfl, k, n, rfl, hn, hi⟩ | ⟨e, _⟩
  · exact (live_stop _ _ i s 17 w h0 (sd_may_none h hs)).mono fun _ _ ⟨e, hb⟩ => ⟨e, h.below hb, Kept.of_below hb⟩
  · obtain ⟨steps, h1, h2, h3, h4⟩ := h
    exact (sw_live_no h4 i (by rw [h1]; exact hi) k n hn).mono fun _ _ ⟨e, hw, hk⟩ => ⟨e, ⟨steps, h1, h2, h3, hw⟩, hk⟩
  · exact absurd e h0
theorem s_ask_no (h : SD W w mb t g size 3 did L) (i s c : Int) (hc : mayC L i 2 s = c) (h0 : ¬ c = 0) :
    Calls Try.prog 28 #[.pointer (some ⟨t, 0, none⟩), .pointer (some ⟨mb.p, 0, none⟩), .int .i64 i, .int .i64 s] w fun e w' => e = .returned (.tuple #[.bool false, .int .i64 c]) ∧ SD W w' mb t g size 3 did L ∧ Kept mb.has w w' := by
  rcases may_cases hc with ⟨rfl, hs⟩ | ⟨rfl, k, n, rfl, hn, hi⟩ | ⟨e, _⟩
  · exact (ask_stop _ _ i s 17 w h0 (sd_may_none h hs)).mono fun _ _ ⟨e, hb⟩ => ⟨e, h.below hb, Kept.of_below hb⟩
  · obtain ⟨steps, h1, h2, h3, h4⟩ := h
    exact (sw_ask_no h4 i (by rw [h1]; exact hi) k n hn).mono fun _ _ ⟨e, hw, hk⟩ => ⟨e, ⟨steps, h1, h2, h3, hw⟩, hk⟩
  · exact absurd e h0
theorem s_asked_no (h : SD W w mb t g size 3 did L) (i s c : Int) (hc : mayC L i 2 s = c) (h0 : ¬ c = 0) :
    Calls Try.prog 50 #[.pointer (some ⟨t, 0, none⟩), .pointer (some ⟨mb.p, 0, none⟩), .int .i64 i, .int .i64 s] w fun e w' => e = .returned (.tuple #[.bool false, .int .i64 c]) ∧ SD W w' mb t g size 3 did L ∧ Kept mb.has w w' := by
  rcases may_cases hc with ⟨rfl, hs⟩ | ⟨rfl, k, n, rfl, hn, hi⟩ | ⟨e, _⟩
  · exact (asked_stop _ _ i s 17 w h0 (sd_may_none h hs)).mono fun _ _ ⟨e, hb⟩ => ⟨e, h.below hb, Kept.of_below hb⟩
  · obtain ⟨steps, h1, h2, h3, h4⟩ := h
    exact (sw_asked_no h4 i (by rw [h1]; exact hi) k n hn).mono fun _ _ ⟨e, hw, hk⟩ => ⟨e, ⟨steps, h1, h2, h3, hw⟩, hk⟩
  · exact absurd e h0
theorem open_cases {i left s c : Int} (hw : WfS L) (hc : openC L i 2 left s = c) : (c = 17 ∧ inT L.length s = false) ∨ ∃ (k : Nat) (n : Sc), s = k ∧ L[k]? = some n ∧ 0 ≤ n.nest ∧ n.nest ≤ 32 ∧
    ((c = 23 ∧ 32 ≤ n.nest) ∨ (c = 10 ∧ n.nest < 32 ∧ ¬ (0 ≤ i ∧ i < 3)) ∨ (c = 21 ∧ n.nest < 32 ∧ 0 ≤ i ∧ i < 3 ∧ left < 2) ∨ (c = 0 ∧ n.nest < 32 ∧ 0 ≤ i ∧ i < 3 ∧ 2 ≤ left)) := by
  unfold openC at hc
  cases hs : inT L.length s with
  | false => rw [hs, if_pos rfl] at hc; exact .inl ⟨hc.symm, rfl⟩
  | true =>
    obtain ⟨k, n, e, hn⟩ := inT_get hs
    have hd := hw.deep k n hn
    subst e
    rw [hs, if_neg (by simp), nestOf_sc hn] at hc
    refine .inr ⟨k, n, rfl, hn, hd.1, hd.2, ?_⟩
    by_cases h1 : 32 ≤ n.nest
    · rw [if_pos h1] at hc; exact .inl ⟨hc.symm, h1⟩
    · rw [if_neg h1] at hc
      by_cases h2 : i < 0 ∨ 2 < i
      · rw [if_pos h2] at hc; exact .inr (.inl ⟨hc.symm, by omega, by omega⟩)
      · rw [if_neg h2] at hc
        by_cases h3 : left < 2
        · rw [if_pos h3] at hc; exact .inr (.inr (.inl ⟨hc.symm, by omega, by omega, by omega, h3⟩))
        · rw [if_neg h3] at hc; exact .inr (.inr (.inr ⟨hc.symm, by omega, by omega, by omega, by omega⟩))
theorem s_open_no (h : SD W w mb t g size 3 did L) (hw : WfS L) (i s c : Int) (hc : openC L i 2 (size - 2 * (L.length : Int)) s = c) (h0 : ¬ c = 0) :
    Calls Try.prog 45 #[.pointer (some ⟨t, 0, none⟩), .pointer (some ⟨mb.p, 0, none⟩), .int .i64 i, .int .i64 s] w fun e w' => e = .returned (.tuple #[.int .i64 0, .int .i64 c]) ∧ Below w.heap.size w w' := by
  rcases open_cases hw hc with ⟨rfl, hs⟩ | ⟨k, n, rfl, hn, n0, n1, hcase⟩
  · exact open_stop _ _ i s 17 w h0 (sd_may_none h hs)
  · obtain ⟨steps, h1, h2, h3, h4⟩ := h
    have hfew := h4.few
    rcases hcase with ⟨rfl, hd⟩ | ⟨rfl, hd, hi⟩ | ⟨rfl, hd, i0, i1, hl⟩ | ⟨e, _⟩
    · exact sw_open_deep h4 i k n hn hd (by omega)
    · exact sw_open_refused h4 i 10 k n hn hd n0 h0 (sw_alloc_no i (by rw [h1]; exact hi))
    · exact sw_open_refused h4 i 21 k n hn hd n0 h0 (sw_alloc_full i i0 (by rw [h1]; exact i1) (by omega) hfew.2)
    · exact absurd e h0
/-- A scope more, on both sides. -/
theorem AS.opened (h : AS W w mb t g size did L R) (hn : L[k]? = some n) (hd : n.nest < 32) {c' g' : Nat} {w2 w3 : World} {R' : RB} (h2 : SD W w2 ⟨mb.p, c', mb.s⟩ t g' size 3 d' (L ++ [⟨k, n.nest + 1, 0, 0⟩])) (hk : Kept (hasSW mb t g) w w2) (hnew : ∀ q, hasSW ⟨mb.p, c', mb.s⟩ t g' q → hasSW mb t g q ∨ w.heap.size ≤ q)
    (hR : RT w3 R' (L ++ [⟨k, n.nest + 1, 0, 0⟩])) (hk3 : Kept R.has w2 w3) (hnR : ∀ q, R'.has q → R.has q ∨ w2.heap.size ≤ q) : AS W w3 ⟨mb.p, c', mb.s⟩ t g' size d' (L ++ [⟨k, n.nest + 1, 0, 0⟩]) R' := by
  have hlt := h.rt.lt
  have h2lt := h2.lt
  have hs := hk.size
  have hap : ∀ q, R.has q → ¬ hasSW ⟨mb.p, c', mb.s⟩ t g' q := fun q hq e => by
    rcases hnew q e with e' | e'
    · exact h.ap q hq e'
    · have := hlt q hq; omega
  refine ⟨h2.kept hk3 (fun q hq e => hap q e hq) (h2.bel.trans (hk3.below h2.bel.size (fun q e => h.rw_ q e))), hR, h.wf.add hn hd 0 0, ?_, ?_⟩
  · intro q hq e
    rcases hnR q hq with e' | e'
    · exact hap q e' e
    · have := h2lt q e; omega
  · intro q hq
    rcases hnR q hq with e' | e'
    · exact h.rw_ q e'
    · have := h2.bel.size; omega
end
end Go.Proofs.Ytkdpckoneohjkaa
