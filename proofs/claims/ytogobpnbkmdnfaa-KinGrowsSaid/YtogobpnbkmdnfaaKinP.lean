/-
  WHAT IS PROVED HERE: plain laws of tasks that are told by their parents: who is whose kid, who descends of whom, the way to a task, the order. No program in sight. Conditions: the parents are as a tree's ('WfP').
-/
import Derived.Test.YtogobpnbkmdnfaaRow
namespace Go.Proofs.Ytogobpnbkmdnfaa
open Go.RowKit

/-- Is a number a task's, among n? -/
def inK (n : Nat) (s : Int) : Bool := decide (0 ≤ s ∧ s < n)
theorem inK_iff {n : Nat} {s : Int} : inK n s = true ↔ 0 ≤ s ∧ s < n := by simp [inK]
theorem inK_nat {n s : Nat} (h : s < n) : inK n (s : Int) = true := by simp [inK]; exact h
theorem inK_get {n : Nat} {s : Int} (h : inK n s = true) : ∃ k : Nat, s = k ∧ k < n := by
  obtain ⟨h0, h1⟩ := inK_iff.1 h
  exact ⟨s.toNat, by omega, by omega⟩

/-- The numbers as the program has them. -/
def nI (l : List Nat) : List Int := l.map fun (n : Nat) => (n : Int)
@[simp] theorem length_nI (l : List Nat) : (nI l).length = l.length := by simp [nI]
theorem nI_append (l m : List Nat) : nI (l ++ m) = nI l ++ nI m := by simp [nI]
theorem nI_inj {l m : List Nat} (h : nI l = nI m) : l = m := by
  induction l generalizing m with
  | nil => cases m with
    | nil => rfl
    | cons b m => simp [nI] at h
  | cons a l ih => cases m with
    | nil => simp [nI] at h
    | cons b m =>
      simp only [nI, List.map_cons, List.cons.injEq] at h
      rw [Int.ofNat_inj.1 h.1, ih h.2]
theorem get_nI (l : List Nat) (i : Nat) : (nI l)[i]? = l[i]?.map fun (n : Nat) => (n : Int) := by simp [nI]

/-- The parents of a tree. -/
def WfP (l : List Int) : Prop := ∀ (i : Nat) (h : i < l.length), (i = 0 → l[i] = -1) ∧ (0 < i → 0 ≤ l[i] ∧ l[i] < i)
theorem WfP.nil : WfP [] := fun i h => by simp at h
/-- A task's parent. -/
def parN (l : List Int) (x : Nat) : Int := l[x]?.getD (-1)
theorem parN_get {l : List Int} {x : Nat} (h : x < l.length) : parN l x = l[x] := by simp [parN, h]
theorem get_parN {l : List Int} {x : Nat} (h : x < l.length) : l[x]? = some (parN l x) := by simp [parN, h]
theorem WfP.zero {l : List Int} (h : WfP l) : parN l 0 = -1 := by
  by_cases h0 : 0 < l.length
  · rw [parN_get h0]; exact (h 0 h0).1 rfl
  · simp [parN, List.getElem?_eq_none (Nat.le_of_not_lt h0)]
theorem WfP.pos {l : List Int} (h : WfP l) {x : Nat} (hx : x < l.length) (h0 : 0 < x) : 0 ≤ parN l x ∧ parN l x < x := by
  rw [parN_get hx]; exact (h x hx).2 h0
theorem WfP.lt {l : List Int} (h : WfP l) {x : Nat} (hx : x < l.length) : parN l x < x ∧ -1 ≤ parN l x := by
  by_cases h0 : x = 0
  · subst h0; rw [h.zero]; omega
  · have := h.pos hx (by omega); omega
theorem WfP.snoc {l : List Int} (h : WfP l) {p : Int} (hp : (l = [] ∧ p = -1) ∨ (0 ≤ p ∧ p < l.length)) : WfP (l ++ [p]) := by
  intro i hi
  by_cases hl : i < l.length
  · rw [List.getElem_append_left hl]; exact h i hl
  · have e : i = l.length := by simp at hi; omega
    subst e
    simp only [List.getElem_concat_length]
    rcases hp with ⟨rfl, rfl⟩ | hp
    · simp
    · exact ⟨fun e => by omega, fun _ => ⟨hp.1, hp.2⟩⟩

/-- A task's kids. -/
def kN (l : List Int) (x : Int) : List Nat := (List.range l.length).filter fun i => l[i]? == some x
/-- The parent's how-many-eth kid a task is. -/
def nthN (l : List Int) (x : Nat) : Nat := ((List.range x).filter fun i => l[i]? == some (parN l x)).length
theorem mem_kN {l : List Int} {x : Int} {i : Nat} : i ∈ kN l x ↔ i < l.length ∧ parN l i = x := by
  simp only [kN, List.mem_filter, List.mem_range, beq_iff_eq]
  constructor
  · rintro ⟨h1, h2⟩
    exact ⟨h1, by rw [get_parN h1] at h2; simpa using h2⟩
  · rintro ⟨h1, h2⟩
    exact ⟨h1, by rw [get_parN h1, h2]⟩
theorem kN_sorted (l : List Int) (x : Int) : (kN l x).Pairwise (· < ·) := List.Pairwise.filter _ (List.pairwise_lt_range)
theorem kN_length (l : List Int) (x : Int) : (kN l x).length ≤ l.length := by
  unfold kN
  exact Nat.le_trans (List.length_filter_le _ _) (by simp)
theorem kN_snoc (l : List Int) (p x : Int) : kN (l ++ [p]) x = if p = x then kN l x ++ [l.length] else kN l x := by
  have e : (List.range l.length).filter (fun i => (l ++ [p])[i]? == some x) = (List.range l.length).filter fun i => l[i]? == some x :=
    List.filter_congr (fun i hi => by rw [List.getElem?_append_left (List.mem_range.1 hi)])
  simp only [kN, List.length_append, List.length_singleton, List.range_succ, List.filter_append, e]
  by_cases h : p = x
  · subst h; simp
  · simp [h]
/-- A task among its parent's kids. -/
theorem kN_at {l : List Int} {x : Nat} (hx : x < l.length) : ∃ as bs, kN l (parN l x) = as ++ x :: bs ∧ as.length = nthN l x ∧ ∀ a ∈ as, a < x := by
  refine ⟨(List.range x).filter fun i => l[i]? == some (parN l x), ((List.range (l.length - x - 1)).map (x + 1 + ·)).filter fun i => l[i]? == some (parN l x), ?_, rfl, ?_⟩
  · have e : List.range l.length = List.range x ++ x :: (List.range (l.length - x - 1)).map (x + 1 + ·) := by
      have h1 : l.length = x + 1 + (l.length - x - 1) := by omega
      conv => lhs; rw [h1, List.range_add, List.range_succ]
      simp
    unfold kN
    rw [e, List.filter_append, List.filter_cons, if_pos (by rw [get_parN hx]; simp)]
  · intro a ha
    exact List.mem_range.1 (List.mem_filter.1 ha).1
theorem kN_nth {l : List Int} {x : Nat} (hx : x < l.length) : (kN l (parN l x))[nthN l x]? = some x := by
  obtain ⟨as, bs, h, hl, _⟩ := kN_at hx
  rw [h, ← hl]; simp
theorem kN_before {l : List Int} {x : Nat} (hx : x < l.length) {j : Nat} (hj : j < nthN l x) : ∃ a, (kN l (parN l x))[j]? = some a ∧ a ≠ x := by
  obtain ⟨as, bs, h, hl, ha⟩ := kN_at hx
  have hj' : j < as.length := by omega
  refine ⟨as[j], ?_, ?_⟩
  · rw [h, List.getElem?_append_left hj']; simp [hj']
  · have := ha _ (List.getElem_mem hj'); omega
theorem nthN_lt {l : List Int} {x : Nat} (hx : x < l.length) : nthN l x < (kN l (parN l x)).length := (List.getElem?_eq_some_iff.1 (kN_nth hx)).1
theorem nthN_le (l : List Int) (x : Nat) : nthN l x ≤ x := by
  unfold nthN
  exact Nat.le_trans (List.length_filter_le _ _) (by simp)
/-- Two kids at one place are one. -/
theorem nthN_inj {l : List Int} {x y : Nat} (hx : x < l.length) (hy : y < l.length) (hp : parN l x = parN l y) (hn : nthN l x = nthN l y) : x = y := by
  have h1 := kN_nth hx
  have h2 := kN_nth hy
  rw [hp, hn, h2] at h1
  exact (Option.some.inj h1).symm
theorem nthN_kid {l : List Int} {x : Int} {n y : Nat} (h : (kN l x)[n]? = some y) : y < l.length ∧ parN l y = x ∧ nthN l y = n := by
  have hm : y ∈ kN l x := List.mem_of_getElem? h
  obtain ⟨h1, h2⟩ := mem_kN.1 hm
  refine ⟨h1, h2, ?_⟩
  have h3 := kN_nth h1
  rw [h2] at h3
  obtain ⟨ln, en⟩ := List.getElem?_eq_some_iff.1 h
  obtain ⟨lm, em⟩ := List.getElem?_eq_some_iff.1 h3
  have hs := kN_sorted l x
  rw [List.pairwise_iff_getElem] at hs
  rcases Nat.lt_trichotomy n (nthN l y) with e | e | e
  · have := hs n _ ln lm e; omega
  · exact e.symm
  · have := hs _ n lm ln e; omega
theorem nthN_snoc {l : List Int} {p : Int} {x : Nat} (hx : x < l.length) : nthN (l ++ [p]) x = nthN l x := by
  have e : parN (l ++ [p]) x = parN l x := by unfold parN; rw [List.getElem?_append_left hx]
  unfold nthN
  rw [e]
  exact congrArg _ (List.filter_congr fun i hi => by rw [List.getElem?_append_left (Nat.lt_trans (List.mem_range.1 hi) hx)])
theorem parN_snoc {l : List Int} {p : Int} {x : Nat} (hx : x < l.length) : parN (l ++ [p]) x = parN l x := by unfold parN; rw [List.getElem?_append_left hx]
theorem parN_new (l : List Int) (p : Int) : parN (l ++ [p]) l.length = p := by simp [parN]
theorem nthN_new (l : List Int) (p : Int) : nthN (l ++ [p]) l.length = (kN l p).length := by
  unfold nthN kN
  rw [parN_new]
  exact congrArg _ (List.filter_congr fun i hi => by rw [List.getElem?_append_left (List.mem_range.1 hi)])

/-! ## Whom a task descends of -/
def ancF (l : List Int) : Nat → Nat → List Nat
  | 0, x => [x]
  | f + 1, x => if parN l x < 0 then [x] else x :: ancF l f (parN l x).toNat
def anc (l : List Int) (x : Nat) : List Nat := ancF l x x
theorem ancF_fuel {l : List Int} (hw : WfP l) (f x : Nat) (hx : x < l.length) (hf : x ≤ f) : ancF l f x = anc l x := by
  unfold anc
  suffices h : ∀ (n f g x : Nat), x < l.length → x ≤ n → x ≤ f → x ≤ g → ancF l f x = ancF l g x from h x f x x hx (Nat.le_refl _) hf (Nat.le_refl _)
  intro n
  induction n with
  | zero =>
    intro f g x hx h0 _ _
    obtain rfl : x = 0 := by omega
    cases f <;> cases g <;> simp [ancF, hw.zero]
  | succ n ih =>
    intro f g x hx hn hf hg
    by_cases h0 : x = 0
    · subst h0; cases f <;> cases g <;> simp [ancF, hw.zero]
    · have := hw.pos hx (by omega)
      cases f with
      | zero => omega
      | succ f => cases g with
        | zero => omega
        | succ g =>
          simp only [ancF]
          rw [if_neg (by omega), if_neg (by omega), ih f g _ (by omega) (by omega) (by omega) (by omega)]
theorem anc_zero (l : List Int) : anc l 0 = [0] := by simp [anc, ancF]
theorem anc_pos {l : List Int} (hw : WfP l) {x : Nat} (hx : x < l.length) (h0 : 0 < x) : anc l x = x :: anc l (parN l x).toNat := by
  have := hw.pos hx h0
  obtain ⟨y, rfl⟩ : ∃ y, x = y + 1 := ⟨x - 1, by omega⟩
  have e : anc l (y + 1) = (y + 1) :: ancF l y (parN l (y + 1)).toNat := by
    conv => lhs; unfold anc; unfold ancF
    rw [if_neg (by omega)]
  rw [e, ancF_fuel hw y _ (by omega) (by omega)]
theorem anc_le {l : List Int} (hw : WfP l) {x o : Nat} (hx : x < l.length) (h : o ∈ anc l x) : o ≤ x := by
  induction x using Nat.strongRecOn with
  | ind x ih =>
    by_cases h0 : x = 0
    · subst h0; rw [anc_zero l] at h; simp at h; omega
    · have hp := hw.pos hx (by omega)
      rw [anc_pos hw hx (by omega)] at h
      rcases List.mem_cons.1 h with h | h
      · omega
      · have := ih _ (by omega) (by omega) h; omega
theorem anc_self (l : List Int) (x : Nat) : x ∈ anc l x := by
  unfold anc
  cases x with
  | zero => simp [ancF]
  | succ y => simp only [ancF]; split <;> simp
/-- Does a task descend of another one? -/
def desc (l : List Int) (x o : Nat) : Bool := decide (o ∈ anc l x)
theorem desc_le {l : List Int} (hw : WfP l) {x o : Nat} (hx : x < l.length) (h : x ≤ o) : desc l x o = decide (x = o) := by
  unfold desc
  by_cases e : x = o
  · subst e; simp [anc_self]
  · have : o ∉ anc l x := fun hm => by have := anc_le hw hx hm; omega
    simp [e, this]
theorem desc_gt {l : List Int} (hw : WfP l) {x o : Nat} (hx : x < l.length) (h : o < x) : desc l x o = desc l (parN l x).toNat o := by
  unfold desc
  rw [anc_pos hw hx (by omega)]
  have : o ≠ x := by omega
  simp [this]
/-- By definition. -/
theorem desc_step {l : List Int} (hw : WfP l) {x o : Nat} (hx : x < l.length) : desc l x o = (decide (x = o) || (decide (0 ≤ parN l x) && desc l (parN l x).toNat o)) := by
  by_cases h0 : x = 0
  · subst h0
    rw [hw.zero]
    unfold desc
    rw [anc_zero l]
    simp [eq_comm]
  · have := hw.pos hx (by omega)
    have e1 : decide (0 ≤ parN l x) = true := by simp; omega
    rw [e1]
    unfold desc
    rw [anc_pos hw hx (by omega)]
    simp [eq_comm]
/-- Of any numbers. -/
def descI (l : List Int) (x o : Int) : Bool := inK l.length x && (inK l.length o && desc l x.toNat o.toNat)

/-! ## The way to a task -/
def wayF (l : List Int) : Nat → Nat → List Nat
  | 0, _ => []
  | f + 1, x => if parN l x < 0 then [] else wayF l f (parN l x).toNat ++ [nthN l x]
def wayN (l : List Int) (x : Nat) : List Nat := wayF l x x
theorem wayF_fuel {l : List Int} (hw : WfP l) (f x : Nat) (hx : x < l.length) (hf : x ≤ f) : wayF l f x = wayN l x := by
  unfold wayN
  suffices h : ∀ (n f g x : Nat), x < l.length → x ≤ n → x ≤ f → x ≤ g → wayF l f x = wayF l g x from h x f x x hx (Nat.le_refl _) hf (Nat.le_refl _)
  intro n
  induction n with
  | zero =>
    intro f g x hx h0 _ _
    obtain rfl : x = 0 := by omega
    cases f <;> cases g <;> simp [wayF, hw.zero]
  | succ n ih =>
    intro f g x hx hn hf hg
    by_cases h0 : x = 0
    · subst h0; cases f <;> cases g <;> simp [wayF, hw.zero]
    · have := hw.pos hx (by omega)
      cases f with
      | zero => omega
      | succ f => cases g with
        | zero => omega
        | succ g =>
          simp only [wayF]
          rw [if_neg (by omega), if_neg (by omega), ih f g _ (by omega) (by omega) (by omega) (by omega)]
theorem wayN_zero (l : List Int) : wayN l 0 = [] := by simp [wayN, wayF]
theorem wayN_pos {l : List Int} (hw : WfP l) {x : Nat} (hx : x < l.length) (h0 : 0 < x) : wayN l x = wayN l (parN l x).toNat ++ [nthN l x] := by
  have := hw.pos hx h0
  obtain ⟨y, rfl⟩ : ∃ y, x = y + 1 := ⟨x - 1, by omega⟩
  have e : wayN l (y + 1) = wayF l y (parN l (y + 1)).toNat ++ [nthN l (y + 1)] := by
    conv => lhs; unfold wayN; unfold wayF
    rw [if_neg (by omega)]
  rw [e, wayF_fuel hw y _ (by omega) (by omega)]
theorem wayN_length {l : List Int} (hw : WfP l) {x : Nat} (hx : x < l.length) : (wayN l x).length ≤ x := by
  induction x using Nat.strongRecOn with
  | ind x ih =>
    by_cases h0 : x = 0
    · subst h0; simp [wayN_zero]
    · have hp := hw.pos hx (by omega)
      have := ih (parN l x).toNat (by omega) (by omega)
      rw [wayN_pos hw hx (by omega)]
      simp only [List.length_append, List.length_singleton]; omega

/-! ## The task at the end of a way -/
def findN (l : List Int) : Nat → List Int → Option Nat
  | x, [] => some x
  | x, n :: p => if 0 ≤ n then ((kN l x)[n.toNat]?).bind fun y => findN l y p else none
theorem findN_append (l : List Int) (x : Nat) (p q : List Int) : findN l x (p ++ q) = (findN l x p).bind fun y => findN l y q := by
  induction p generalizing x with
  | nil => rfl
  | cons n p ih =>
    simp only [List.cons_append, findN]
    split
    · cases h : (kN l x)[n.toNat]? with
      | none => simp
      | some y => simp [ih]
    · simp
theorem findN_lt {l : List Int} {x y : Nat} {p : List Int} (h : findN l x p = some y) (hx : x < l.length) : y < l.length := by
  induction p generalizing x with
  | nil => simp only [findN, Option.some.injEq] at h; omega
  | cons n p ih =>
    simp only [findN] at h
    split at h
    · cases hk : (kN l x)[n.toNat]? with
      | none => simp [hk] at h
      | some z =>
        simp [hk] at h
        exact ih h (nthN_kid hk).1
    · simp at h

/-! ## The order -/
def ordF (l : List Int) : Nat → Nat → List Nat
  | 0, x => [x]
  | f + 1, x => x :: (kN l x).flatMap (ordF l f)
def ordN (l : List Int) (x : Nat) : List Nat := ordF l l.length x
theorem kN_gt {l : List Int} (hw : WfP l) {x y : Nat} (h : y ∈ kN l x) : x < y ∧ y < l.length := by
  obtain ⟨h1, h2⟩ := mem_kN.1 h
  have := hw.lt h1
  omega
theorem ordF_fuel {l : List Int} (hw : WfP l) : ∀ (n f g x : Nat), l.length ≤ x + n → l.length ≤ x + f → l.length ≤ x + g → ordF l f x = ordF l g x := by
  have e0 : ∀ (f x : Nat), l.length ≤ x → ordF l f x = [x] := by
    intro f x h
    cases f with
    | zero => rfl
    | succ f =>
      have : kN l x = [] := List.eq_nil_iff_forall_not_mem.2 (fun y hy => by have := kN_gt hw hy; omega)
      simp [ordF, this]
  intro n
  induction n with
  | zero => intro f g x h _ _; rw [e0 _ _ (by omega), e0 _ _ (by omega)]
  | succ n ih =>
    intro f g x hn hf hg
    by_cases hx : l.length ≤ x
    · rw [e0 _ _ hx, e0 _ _ hx]
    · cases f with
      | zero => omega
      | succ f => cases g with
        | zero => omega
        | succ g =>
          simp only [ordF]
          congr 1
          simp only [List.flatMap]
          congr 1
          refine List.map_congr_left (fun y hy => ?_)
          have := kN_gt hw hy
          exact ih f g y (by omega) (by omega) (by omega)
theorem ordN_step {l : List Int} (hw : WfP l) {x : Nat} (hx : x < l.length) : ordN l x = x :: (kN l x).flatMap (ordN l) := by
  unfold ordN
  obtain ⟨n, hn⟩ : ∃ n, l.length = n + 1 := ⟨l.length - 1, by omega⟩
  conv => lhs; rw [hn]; unfold ordF
  congr 1
  simp only [List.flatMap]
  congr 1
  refine List.map_congr_left (fun y hy => ?_)
  have := kN_gt hw hy
  exact ordF_fuel hw l.length _ _ y (by omega) (by omega) (by omega)
theorem ordN_length_pos (l : List Int) (x : Nat) : 0 < (ordN l x).length := by
  unfold ordN
  cases l.length <;> simp [ordF]
theorem mem_ordN_lt {l : List Int} (hw : WfP l) {x y : Nat} (hx : x < l.length) (h : y ∈ ordN l x) : y < l.length := by
  suffices hh : ∀ n x, l.length ≤ x + n → x < l.length → y ∈ ordN l x → y < l.length from hh l.length x (by omega) hx h
  intro n
  induction n with
  | zero => intro x h1 h2; omega
  | succ n ih =>
    intro x hn hx hy
    rw [ordN_step hw hx] at hy
    rcases List.mem_cons.1 hy with rfl | hy
    · exact hx
    · obtain ⟨z, hz, hzy⟩ := List.mem_flatMap.1 hy
      have := kN_gt hw hz
      exact ih z (by omega) this.2 hzy
end Go.Proofs.Ytogobpnbkmdnfaa
