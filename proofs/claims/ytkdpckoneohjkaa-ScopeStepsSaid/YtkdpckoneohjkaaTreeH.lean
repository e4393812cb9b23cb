/-
  WHAT IS PROVED HERE: contracts of scope's operations that tell how many operations there were in all ('SD'). Conditions: as in the contracts.
-/
import Derived.Test.YtkdpckoneohjkaaInside
import Derived.Test.YtkdpckoneohjkaaTreeC
namespace Go.Proofs.Ytkdpckoneohjkaa
open Go.RowKit

theorem sum_set (l : List Int) (k : Nat) (v : Int) (hk : k < l.length) : (l.set k v).sum = l.sum - l[k]'hk + v := by
  induction l generalizing k with
  | nil => simp at hk
  | cons a l ih =>
    cases k with
    | zero => simp; omega
    | succ k =>
      have := ih k (by simpa using hk)
      simp only [List.set_cons_succ, List.sum_cons, List.getElem_cons_succ]
      omega
theorem sum_nonneg (l : List Int) (h : ∀ x ∈ l, 0 ≤ x) : 0 ≤ l.sum := by
  induction l with
  | nil => simp
  | cons a l ih =>
    have := ih (fun x hx => h x (List.mem_cons_of_mem _ hx))
    have := h a (by simp)
    simp only [List.sum_cons]
    omega
theorem le_sum (l : List Int) (k : Nat) (hk : k < l.length) (h : ∀ x ∈ l, 0 ≤ x) : l[k]'hk ≤ l.sum := by
  induction l generalizing k with
  | nil => simp at hk
  | cons a l ih =>
    have h0 := sum_nonneg l (fun x hx => h x (List.mem_cons_of_mem _ hx))
    have ha := h a (by simp)
    cases k with
    | zero => simp; omega
    | succ k =>
      have := ih k (by simpa using hk) (fun x hx => h x (List.mem_cons_of_mem _ hx))
      simp only [List.getElem_cons_succ, List.sum_cons]
      omega
theorem length_stepUp (steps : List Int) (i : Int) : (stepUp steps i).length = steps.length := by simp [stepUp]
theorem stepUp_sum {steps : List Int} {i : Int} (h0 : 0 ≤ i) (h1 : i < steps.length) (hp : ∀ x ∈ steps, 0 ≤ x) (hb : steps.sum < 4611686018427387904) :
    (stepUp steps i).sum = steps.sum + 1 ∧ ∀ x ∈ stepUp steps i, 0 ≤ x := by
  have hi : i.toNat < steps.length := by omega
  have e : steps[i.toNat]?.getD 0 = steps[i.toNat] := by simp [hi]
  have h2 := le_sum steps i.toNat hi hp
  have h3 : 0 ≤ steps[i.toNat] := hp _ (List.getElem_mem hi)
  have e2 : wrap64 (steps[i.toNat] + 1) = steps[i.toNat] + 1 := by unfold wrap64; omega
  unfold stepUp
  rw [e, e2]
  refine ⟨by rw [sum_set _ _ _ hi]; omega, fun x hx => ?_⟩
  rcases List.mem_or_eq_of_mem_set hx with h | h
  · exact hp x h
  · omega

/-- A machine of k workers with a tree on it, and how many operations there were. -/
def SD (W0 w : World) (mb : MB) (p g : Nat) (size : Int) (k : Nat) (did : Int) (l : List Sc) : Prop :=
  ∃ steps, steps.length = k ∧ (∀ x ∈ steps, 0 ≤ x) ∧ steps.sum = did ∧ SW W0 w mb p g size steps l

section
variable {W0 w w' : World} {mb : MB} {p g : Nat} {size : Int} {k : Nat} {did : Int} {l : List Sc}
theorem SD.kept {S : Nat → Prop} (h : SD W0 w mb p g size k did l) (hk : Kept S w w') (hs : ∀ q, hasSW mb p g q → ¬ S q) (hb : Below W0.heap.size W0 w') : SD W0 w' mb p g size k did l := by
  obtain ⟨steps, h1, h2, h3, h4⟩ := h
  exact ⟨steps, h1, h2, h3, h4.kept hk hs hb⟩
theorem SD.below (h : SD W0 w mb p g size k did l) (hb : Below w.heap.size w w') : SD W0 w' mb p g size k did l := by
  obtain ⟨steps, h1, h2, h3, h4⟩ := h
  exact ⟨steps, h1, h2, h3, h4.below hb⟩
theorem SD.drew (h : SD W0 w mb p g size k did l) : SD W0 w.drew mb p g size k did l := by
  obtain ⟨steps, h1, h2, h3, h4⟩ := h
  exact ⟨steps, h1, h2, h3, h4.drew⟩
theorem SD.drewN (h : SD W0 w mb p g size k did l) (n : Nat) : SD W0 (w.drewN n) mb p g size k did l := by
  obtain ⟨steps, h1, h2, h3, h4⟩ := h
  exact ⟨steps, h1, h2, h3, h4.drewN n⟩
theorem SD.lt (h : SD W0 w mb p g size k did l) : ∀ q, hasSW mb p g q → q < w.heap.size := by
  obtain ⟨steps, h1, h2, h3, h4⟩ := h
  exact h4.lt
theorem SD.new (h : SD W0 w mb p g size k did l) : ∀ q, hasSW mb p g q → W0.heap.size ≤ q := by
  obtain ⟨steps, h1, h2, h3, h4⟩ := h
  exact h4.new
theorem SD.bel (h : SD W0 w mb p g size k did l) : Below W0.heap.size W0 w := by
  obtain ⟨steps, h1, h2, h3, h4⟩ := h
  exact h4.bel
theorem SD.few (h : SD W0 w mb p g size k did l) : l.length ≤ 1000 ∧ 0 ≤ size ∧ size ≤ 1048576 := by
  obtain ⟨steps, h1, h2, h3, h4⟩ := h
  exact h4.few
theorem SD.tr (h : SD W0 w mb p g size k did l) : Tr w p g (scN l) := by
  obtain ⟨steps, h1, h2, h3, h4⟩ := h
  exact h4.t
theorem sd_up {steps : List Int} {i : Int} {l' : List Sc} (h1 : steps.length = k) (h2 : ∀ x ∈ steps, 0 ≤ x) (h3 : steps.sum = did) (i0 : 0 ≤ i) (i1 : i < k) (hb : did < 4611686018427387904) {mb' : MB} {g' : Nat} (h : SW W0 w' mb' p g' size (stepUp steps i) l') : SD W0 w' mb' p g' size k (did + 1) l' := by
  obtain ⟨a, b⟩ := stepUp_sum (i := i) i0 (by omega) h2 (by omega)
  exact ⟨_, by rw [length_stepUp, h1], b, by rw [a, h3], h⟩

theorem sd_enter (h : SD W0 w mb p g size k did l) (i : Int) (h0 : 0 ≤ i) (h1 : i < k) (hb : did < 4611686018427387904) (s : Nat) (n : Sc) (hn : l[s]? = some n) :
    Calls Try.prog 46 #[.pointer (some ⟨p, 0, none⟩), .pointer (some ⟨mb.p, 0, none⟩), .int .i64 i, .int .i64 s] w fun e w' =>
      e = .returned (.int .i64 0) ∧ SD W0 w' mb p g size k (did + 1) (l.set s { n with live := wrap64 (n.live + 1) }) ∧ Kept mb.has w w' := by
  obtain ⟨steps, e1, e2, e3, e4⟩ := h
  refine (sw_enter_ok e4 i h0 (by omega) s n hn).mono ?_
  rintro e w' ⟨rfl, h', hk⟩
  exact ⟨rfl, sd_up e1 e2 e3 h0 h1 hb h', hk⟩
theorem sd_leave (h : SD W0 w mb p g size k did l) (i : Int) (h0 : 0 ≤ i) (h1 : i < k) (hb : did < 4611686018427387904) (s : Nat) (n : Sc) (hn : l[s]? = some n) :
    Calls Try.prog 47 #[.pointer (some ⟨p, 0, none⟩), .pointer (some ⟨mb.p, 0, none⟩), .int .i64 i, .int .i64 s] w fun e w' =>
      e = .returned (.tuple #[.bool (decide (n.live = 1)), .int .i64 0]) ∧ SD W0 w' mb p g size k (did + 1) (l.set s { n with live := wrap64 (n.live + -1) }) ∧ Kept mb.has w w' := by
  obtain ⟨steps, e1, e2, e3, e4⟩ := h
  refine (sw_leave_ok e4 i h0 (by omega) s n hn).mono ?_
  rintro e w' ⟨rfl, h', hk⟩
  exact ⟨rfl, sd_up e1 e2 e3 h0 h1 hb h', hk⟩
theorem sd_live (h : SD W0 w mb p g size k did l) (i : Int) (h0 : 0 ≤ i) (h1 : i < k) (hb : did < 4611686018427387904) (s : Nat) (n : Sc) (hn : l[s]? = some n) :
    Calls Try.prog 48 #[.pointer (some ⟨p, 0, none⟩), .pointer (some ⟨mb.p, 0, none⟩), .int .i64 i, .int .i64 s] w fun e w' =>
      e = .returned (.tuple #[.int .i64 n.live, .int .i64 0]) ∧ SD W0 w' mb p g size k (did + 1) l ∧ Kept mb.has w w' := by
  obtain ⟨steps, e1, e2, e3, e4⟩ := h
  refine (sw_live_ok e4 i h0 (by omega) s n hn).mono ?_
  rintro e w' ⟨rfl, h', hk⟩
  exact ⟨rfl, sd_up e1 e2 e3 h0 h1 hb h', hk⟩
theorem sd_asked (h : SD W0 w mb p g size k did l) (i : Int) (h0 : 0 ≤ i) (h1 : i < k) (hb : did < 4611686018427387904) (s : Nat) (n : Sc) (hn : l[s]? = some n) :
    Calls Try.prog 50 #[.pointer (some ⟨p, 0, none⟩), .pointer (some ⟨mb.p, 0, none⟩), .int .i64 i, .int .i64 s] w fun e w' =>
      e = .returned (.tuple #[.bool (decide (¬ n.ask = 0)), .int .i64 0]) ∧ SD W0 w' mb p g size k (did + 1) l ∧ Kept mb.has w w' := by
  obtain ⟨steps, e1, e2, e3, e4⟩ := h
  refine (sw_asked_ok e4 i h0 (by omega) s n hn).mono ?_
  rintro e w' ⟨rfl, h', hk⟩
  exact ⟨rfl, sd_up e1 e2 e3 h0 h1 hb h', hk⟩
/-- A scope is asked, if it was not. -/
def askS (l : List Sc) (s : Nat) (n : Sc) : List Sc := if n.ask = 0 then l.set s { n with ask := 1 } else l
theorem sd_ask (h : SD W0 w mb p g size k did l) (i : Int) (h0 : 0 ≤ i) (h1 : i < k) (hb : did < 4611686018427387904) (s : Nat) (n : Sc) (hn : l[s]? = some n) :
    Calls Try.prog 28 #[.pointer (some ⟨p, 0, none⟩), .pointer (some ⟨mb.p, 0, none⟩), .int .i64 i, .int .i64 s] w fun e w' =>
      e = .returned (.tuple #[.bool (decide (n.ask = 0)), .int .i64 0]) ∧ SD W0 w' mb p g size k (did + 1) (askS l s n) ∧ Kept mb.has w w' := by
  obtain ⟨steps, e1, e2, e3, e4⟩ := h
  unfold askS
  by_cases ha : n.ask = 0
  · rw [if_pos ha]
    refine (sw_ask_hit e4 i h0 (by omega) s n hn ha).mono ?_
    rintro e w' ⟨rfl, h', hk⟩
    exact ⟨by rw [decide_eq_true ha], sd_up e1 e2 e3 h0 h1 hb h', hk⟩
  · rw [if_neg ha]
    refine (sw_ask_miss e4 i h0 (by omega) s n hn ha).mono ?_
    rintro e w' ⟨rfl, h', hk⟩
    exact ⟨by rw [decide_eq_false ha], sd_up e1 e2 e3 h0 h1 hb h', hk⟩
theorem sd_open (h : SD W0 w mb p g size k did l) (i : Int) (h0 : 0 ≤ i) (h1 : i < k) (hb : did < 4611686018427387904) (s : Nat) (n : Sc) (hn : l[s]? = some n) (hd : n.nest < 32) (hd2 : 0 ≤ n.nest) (hr : 2 * (l.length : Int) + 2 ≤ size) (hl : l.length < 1000) :
    Calls Try.prog 45 #[.pointer (some ⟨p, 0, none⟩), .pointer (some ⟨mb.p, 0, none⟩), .int .i64 i, .int .i64 s] w fun e w' => ∃ c g',
      e = .returned (.tuple #[.int .i64 l.length, .int .i64 0]) ∧ SD W0 w' ⟨mb.p, c, mb.s⟩ p g' size k (did + 1) (l ++ [⟨s, n.nest + 1, 0, 0⟩]) ∧ Kept (hasSW mb p g) w w' ∧ (∀ q, hasSW ⟨mb.p, c, mb.s⟩ p g' q → hasSW mb p g q ∨ w.heap.size ≤ q) := by
  obtain ⟨steps, e1, e2, e3, e4⟩ := h
  refine (sw_open_ok e4 i h0 (by omega) s n hn hd hd2 hr hl).mono ?_
  rintro e w' ⟨c, g', rfl, h', hk, hc, hg⟩
  refine ⟨c, g', rfl, sd_up e1 e2 e3 h0 h1 hb h', hk, ?_⟩
  rintro q ((e | e | e) | e | e)
  · exact .inl (.inl (.inl e))
  · right; have e' : q = c := e; omega
  · exact .inl (.inl (.inr (.inr e)))
  · exact .inl (.inr (.inl e))
  · rcases hg with hg | hg
    · exact .inl (.inr (.inr (by rw [e, hg])))
    · right; omega
theorem sd_step (h : SD W0 w mb p g size k did l) (i : Int) (h0 : 0 ≤ i) (h1 : i < k) (hb : did < 4611686018427387904) (b : Nat) (s : Nat) (n : Sc) (is0 : Bool) (hL : Lk w b p s false is0) (hk : ¬ hasSW mb p g b) (hW0 : W0.heap.size ≤ b) (hn : l[s]? = some n)
    (is dn : Bool) (his : is = decide (¬ n.ask = 0)) (hdn : dn = (is || decide (s = 0))) :
    Calls Try.prog 30 #[.pointer (some ⟨b, 0, none⟩), .pointer (some ⟨mb.p, 0, none⟩), .int .i64 i] w fun e w' =>
      e = .returned (.tuple #[.bool dn, .bool is, .int .i64 0]) ∧ SD W0 w' mb p g size k (did + 1) l ∧ Lk w' b p n.par dn is ∧ Kept (fun q => mb.has q ∨ q = b) w w' := by
  obtain ⟨steps, e1, e2, e3, e4⟩ := h
  refine (sw_step_ok e4 i h0 (by omega) b s n is0 hL hk hW0 hn is dn his hdn).mono ?_
  rintro e w' ⟨rfl, h', hL', hk'⟩
  exact ⟨rfl, sd_up e1 e2 e3 h0 h1 hb h', hL', hk'⟩
theorem sd_nest (h : SD W0 w mb p g size k did l) (s : Int) :
    Calls Try.prog 31 #[.pointer (some ⟨p, 0, none⟩), .int .i64 s] w fun e w' => e = .returned (.int .i64 (nestOf (scN l) s)) ∧ SD W0 w' mb p g size k did l ∧ Below w.heap.size w w' := by
  refine (nest_any p g (scN l) s w h.tr).mono ?_
  rintro e w' ⟨rfl, hb⟩
  exact ⟨rfl, h.below hb, hb⟩
theorem sd_parent (h : SD W0 w mb p g size k did l) (s : Int) :
    Calls Try.prog 36 #[.pointer (some ⟨p, 0, none⟩), .int .i64 s] w fun e w' => e = .returned (.int .i64 (parOf (scN l) s)) ∧ SD W0 w' mb p g size k did l ∧ Below w.heap.size w w' := by
  refine (parent_any p g (scN l) s w h.tr).mono ?_
  rintro e w' ⟨rfl, hb⟩
  exact ⟨rfl, h.below hb, hb⟩
theorem sd_inside (h : SD W0 w mb p g size k did l) (hw : WfS l) (s o : Int) (b : Bool) (hb : b = insS l s o) :
    Calls Try.prog 39 #[.pointer (some ⟨p, 0, none⟩), .int .i64 s, .int .i64 o] w fun e w' => e = .returned (.bool b) ∧ SD W0 w' mb p g size k did l ∧ Below w.heap.size w w' := by
  have h' := h
  obtain ⟨steps, e1, e2, e3, e4⟩ := h'
  refine (sw_inside e4 hw s o).mono ?_
  rintro e w' ⟨rfl, hb'⟩
  exact ⟨by rw [hb], h.below hb', hb'⟩
theorem sd_look (h : SD W0 w mb p g size k did l) (s : Nat) (n : Sc) (hn : l[s]? = some n) :
    Calls Try.prog 29 #[.pointer (some ⟨p, 0, none⟩), .int .i64 s] w fun e w' => ∃ b, e = .returned (.tuple #[.pointer (some ⟨b, 0, none⟩), .int .i64 0]) ∧ w.heap.size ≤ b ∧ ¬ hasSW mb p g b ∧ W0.heap.size ≤ b ∧ Lk w' b p s false false ∧ SD W0 w' mb p g size k did l ∧ Below w.heap.size w w' := by
  refine (look_ok p g (scN l) s w h.tr (sc_inN hn)).mono ?_
  rintro e w' ⟨b, rfl, hb, hL, hbel⟩
  exact ⟨b, rfl, hb, fun e => by have := h.lt b e; omega, Nat.le_trans h.bel.size hb, hL, h.below hbel, hbel⟩
theorem sd_peek (h : SD W0 w mb p g size k did l) (s : Nat) (n : Sc) (hn : l[s]? = some n) :
    Calls Try.prog 49 #[.pointer (some ⟨p, 0, none⟩), .pointer (some ⟨mb.p, 0, none⟩), .int .i64 s] w fun e w' =>
      e = .returned (.tuple #[.bool (decide (¬ n.ask = 0)), .int .i64 n.live]) ∧ SD W0 w' mb p g size k did l ∧ Below w.heap.size w w' := by
  have h' := h
  obtain ⟨steps, e1, e2, e3, e4⟩ := h'
  refine (sw_peek_ok e4 s n hn).mono ?_
  rintro e w' ⟨rfl, _, hb'⟩
  exact ⟨rfl, h.below hb', hb'⟩
end
/-- A tree of the world alone. -/
theorem sd_new {W0 : World} (p s : Nat) (size : Int) (nw : Nat) (i : Int) (w : World) (hm : MachP w ⟨p, p, s⟩ (MS.fresh size nw)) (hb : Below W0.heap.size W0 w) (hp : W0.heap.size ≤ p) (hs : W0.heap.size ≤ s) (h3 : 2 ≤ size) (h4 : size ≤ 1048576) (i0 : 0 ≤ i) (i1 : i ≤ nw) :
    Calls Try.prog 44 #[.pointer (some ⟨p, 0, none⟩), .int .i64 i] w fun e w' => ∃ c tp g,
      e = .returned (.tuple #[.pointer (some ⟨tp, 0, none⟩), .int .i64 0]) ∧ SD W0 w' ⟨p, c, s⟩ tp g size (nw + 1) 1 [⟨-1, 0, 0, 0⟩] := by
  refine (tree_new p s size nw i w hm hb hp hs h3 h4 i0 i1).mono ?_
  rintro e w' ⟨c, tp, g, rfl, h⟩
  have hl : (MS.fresh size nw).steps.length = nw + 1 := by simp [MS.fresh]
  have hz : ∀ x ∈ (MS.fresh size nw).steps, 0 ≤ x := by
    intro x hx
    simp [MS.fresh] at hx
    omega
  have hsum : (MS.fresh size nw).steps.sum = 0 := by simp [MS.fresh]
  exact ⟨c, tp, g, rfl, sd_up (did := 0) hl hz hsum i0 (by omega) (by omega) h⟩
end Go.Proofs.Ytkdpckoneohjkaa
