/-
  WHAT IS PROVED HERE: a tree of scopes as it lies in memory ('Tr'), and contracts of its small methods: has, may, Len, Parent, Nest. Conditions: the pointer is a tree's, or nil.
-/
import Derived.Test.YtkdpckoneohjkaaMs
import Derived.StillTailTactics
import Derived.Deep.RegionHeld3
namespace Go.Proofs.Ytkdpckoneohjkaa
open Go.RowKit

/-- A node: the scope around it, how many are around it, its first cell. -/
structure Nd where
  par : Int
  nest : Int
  at_ : Int

def ndVs (l : List Nd) : List Value := l.flatMap fun n => [.int .i64 n.par, .int .i64 n.nest, .int .i64 n.at_]
theorem length_ndVs (l : List Nd) : (ndVs l).length = l.length * 3 := by
  induction l with
  | nil => rfl
  | cons n l ih => simp only [ndVs, List.flatMap_cons, List.length_append] at ih ⊢; rw [ih]; simp; omega
theorem ndVs_append (l m : List Nd) : ndVs (l ++ m) = ndVs l ++ ndVs m := by simp [ndVs]
theorem get_ndVs (l : List Nd) (i : Nat) (hi : i < l.length) : (ndVs l)[i * 3]? = some (.int .i64 (l[i]'hi).par) ∧ (ndVs l)[i * 3 + 1]? = some (.int .i64 (l[i]'hi).nest) ∧ (ndVs l)[i * 3 + 2]? = some (.int .i64 (l[i]'hi).at_) := by
  induction l generalizing i with
  | nil => simp at hi
  | cons n l ih =>
    cases i with
    | zero => simp [ndVs]
    | succ i =>
      have := ih i (by simpa using hi)
      have e0 : (i + 1) * 3 = i * 3 + 3 := by omega
      have e1 : (i + 1) * 3 + 1 = i * 3 + 1 + 3 := by omega
      have e2 : (i + 1) * 3 + 2 = i * 3 + 2 + 3 := by omega
      rw [e1, e2, e0]
      have hc : ndVs (n :: l) = [.int .i64 n.par, .int .i64 n.nest, .int .i64 n.at_] ++ ndVs l := rfl
      rw [hc]
      have hd : ∀ j, ([Value.int .i64 n.par, .int .i64 n.nest, .int .i64 n.at_] ++ ndVs l)[j + 3]? = (ndVs l)[j]? := fun j => by simp
      rw [hd, hd, hd]
      simpa using this

/-- Where a tree lies: its struct, its nodes' array. -/
structure Tr (w : World) (p g : Nat) (l : List Nd) : Prop where
  pg : p ≠ g
  form : ∃ cap rest, Blk w p 107 [.slice (some ⟨g, 0, none⟩) l.length cap] ∧ Blk w g 104 (ndVs l ++ rest) ∧ l.length * 3 + rest.length = cap * 3 ∧ cap ≤ maxLen
section
variable {w w' : World} {p g : Nat} {l : List Nd}
theorem Tr.kept {S : Nat → Prop} (h : Tr w p g l) (hk : Kept S w w') (h1 : ¬ S p) (h2 : ¬ S g) : Tr w' p g l := by
  obtain ⟨cap, rest, hp, hg, r⟩ := h.form
  exact ⟨h.pg, cap, rest, hp.kept hk h1, hg.kept hk h2, r⟩
theorem Tr.lt (h : Tr w p g l) : p < w.heap.size ∧ g < w.heap.size := by
  obtain ⟨cap, rest, hp, hg, r⟩ := h.form
  exact ⟨hp.lt, hg.lt⟩
theorem Tr.drew (h : Tr w p g l) : Tr w.drew p g l := h.kept (Kept.refl (fun _ => False) w).drew id id
theorem Tr.drewN (h : Tr w p g l) (n : Nat) : Tr (w.drewN n) p g l := h.kept ((Kept.refl (fun _ => False) w).drewN n) id id
theorem Tr.alloc (h : Tr w p g l) (o : Obj) : Tr (w.alloc o) p g l := h.kept ((Kept.refl (fun _ => False) w).alloc o) id id
/-- The tree's struct, as the walk reads it. -/
theorem Tr.head (h : Tr w p g l) : ∃ cap, w.cell? ⟨p, 0, none⟩ = some (.slice (some ⟨g, 0, none⟩) l.length cap) ∧ l.length ≤ cap ∧ cap ≤ maxLen := by
  obtain ⟨cap, rest, hp, hg, r⟩ := h.form
  exact ⟨cap, by rw [hp.cell]; rfl, by omega, r.2⟩
/-- A node, as the walk reads it. -/
theorem Tr.node (h : Tr w p g l) (i : Nat) (hi : i < l.length) :
    w.cell? ⟨g, i * 3, none⟩ = some (.int .i64 (l[i]'hi).par) ∧ w.cell? ⟨g, i * 3 + 1, none⟩ = some (.int .i64 (l[i]'hi).nest) ∧ w.cell? ⟨g, i * 3 + 2, none⟩ = some (.int .i64 (l[i]'hi).at_) := by
  obtain ⟨cap, rest, hp, hg, r⟩ := h.form
  obtain ⟨h0, h1, h2⟩ := get_ndVs l i hi
  have hl := length_ndVs l
  refine ⟨?_, ?_, ?_⟩
  · rw [hg.cell, List.getElem?_append_left (by omega), h0]
  · rw [hg.cell, List.getElem?_append_left (by omega), h1]
  · rw [hg.cell, List.getElem?_append_left (by omega), h2]
end

/-- Is a number a scope's? -/
def inT (n : Nat) (s : Int) : Bool := decide (0 ≤ s ∧ s < n)

set_option maxRecDepth 20000 in
set_option maxHeartbeats 1000000 in
theorem has_any (p g : Nat) (l : List Nd) (ls : List Int) (b : Nat) (t : TypeId) (w : World) (hT : Tr w p g l) (hb : Blk w b t (ints ls)) (hls : ls.length ≤ 2) :
    Calls Try.prog 61 #[.pointer (some ⟨p, 0, none⟩), .slice (some ⟨b, 0, none⟩) ls.length ls.length] w fun e w' => e = .returned (.bool (ls.all (inT l.length))) ∧ w = w' := by
  obtain ⟨cap, c0, hcap, hm⟩ := hT.head
  have cb : ∀ j : Nat, (hj : j < ls.length) → w.cell? ⟨b, j, none⟩ = some (.int .i64 (ls[j]'hj)) := fun j hj => by rw [hb.cell, get_ints]; simp [hj]
  have CB := Lib.hid cb
  clear cb hb hT
  go_enter Try.func61, Try.ntmps61
  go_wp2_with fail
  go_loopw [9] (fun i wr => ∃ j : Nat, j ≤ ls.length ∧ i = .int .i64 j ∧ Hid (∀ q, (hq : q < ls.length) → q < j → inT l.length (ls[q]'hq) = true) ∧ w = wr) (fun i _ => ls.length - (intOf i).toNat)
  case atStart => exact ⟨0, by omega, rfl, Lib.hid (by omega), by first | trivial | rfl⟩
  case round =>
    obtain ⟨j, hj, rfl, HQ, rfl⟩ := hrel
    by_cases hlt : j < ls.length
    · have cj := CB.out j hlt
      obtain ⟨s, hs⟩ : ∃ s, ls[j]'hlt = s := ⟨_, rfl⟩
      rw [hs] at cj
      have HS := Lib.hid hs
      clear hs
      cases hi : inT l.length s with
      | true =>
        have h2 : 0 ≤ s ∧ s < l.length := by simpa [inT] using hi
        obtain ⟨s0, s1⟩ := h2
        go_wp2
        go_roundw
        case rel =>
          refine ⟨j + 1, by omega, by go_num, Lib.hid ?_, by first | trivial | rfl⟩
          intro q hq h1
          by_cases e : q = j
          · subst e; rw [HS.out]; exact hi
          · exact HQ.out q hq (by omega)
        case measure => simp [intOf]; omega
      | false =>
        have hall : ls.all (inT l.length) = false := by
          rw [List.all_eq_false]
          exact ⟨s, by rw [← HS.out]; exact List.getElem_mem hlt, by simp [hi]⟩
        by_cases s0 : s < 0
        · go_wp2
          go_ret
          exact ⟨by first | rfl | exact ret_bool hall.symm, by first | trivial | rfl⟩
        · have s1 : ¬ s < l.length := fun h => by simp [inT] at hi; omega
          go_wp2
          go_ret
          exact ⟨by first | rfl | exact ret_bool hall.symm, by first | trivial | rfl⟩
    · obtain rfl : j = ls.length := by omega
      have hall : ls.all (inT l.length) = true := by
        rw [List.all_eq_true]
        intro x hx
        obtain ⟨q, hq, rfl⟩ := List.getElem_of_mem hx
        exact HQ.out q hq hq
      go_wp2
      go_ret
      exact ⟨by first | rfl | exact ret_bool hall.symm, by first | trivial | rfl⟩

theorem has_nil (ls : List Int) (b : Nat) (t : TypeId) (w : World) (hb : Blk w b t (ints ls)) (h0 : 0 < ls.length) :
    Calls Try.prog 61 #[.pointer none, .slice (some ⟨b, 0, none⟩) ls.length ls.length] w fun e w' => e = .returned (.bool false) ∧ w = w' := by
  obtain ⟨s, hs⟩ : ∃ s, ls[0]'h0 = s := ⟨_, rfl⟩
  have cb : w.cell? ⟨b, 0, none⟩ = some (.int .i64 s) := by rw [hb.cell, get_ints]; simp [h0, hs]
  clear hb hs
  go_enter Try.func61, Try.ntmps61
  go_wp2_with fail
  go_loopw [9] (fun i wr => i = .int .i64 0 ∧ w = wr) (fun i _ => 1)
  case atStart => exact ⟨rfl, by first | trivial | rfl⟩
  case round =>
    obtain ⟨rfl, rfl⟩ := hrel
    go_wp2
    go_ret
    exact ⟨rfl, by first | trivial | rfl⟩

theorem box1 (w : World) (t : TypeId) (s : Int) : Blk (w.alloc (.cells #[.int .i64 s] t)) w.heap.size t (ints [s]) := Blk.new w t [.int .i64 s]

section
variable (p g : Nat) (l : List Nd) (ma : Addr) (s : Int) (w : World)
theorem may_ok (hT : Tr w p g l) (hs : inT l.length s = true) :
    Calls Try.prog 60 #[.pointer (some ⟨p, 0, none⟩), .pointer (some ma), .int .i64 s] w fun e w' => e = .returned (.int .i64 0) ∧ Below w.heap.size w w' := by
  have b1 := box1 w 3 s
  have hT1 := hT.alloc (.cells #[.int .i64 s] 3)
  have bb : Below w.heap.size w (w.alloc (.cells #[.int .i64 s] 3)) := (Below.refl _ w).alloc (Nat.le_refl _) _
  go_enter Try.func60, Try.ntmps60
  go_wp2_with (go_at_call 61; refine (has_any p g l [s] w.heap.size 3 _ hT1 b1 (by simp)).mono ?_; rw [show [s].all (inT l.length) = true by simp [hs]]; rintro e w' ⟨rfl, rfl⟩)
  go_ret
  exact ⟨rfl, bb⟩
theorem may_none (hT : Tr w p g l) (hs : inT l.length s = false) :
    Calls Try.prog 60 #[.pointer (some ⟨p, 0, none⟩), .pointer (some ma), .int .i64 s] w fun e w' => e = .returned (.int .i64 17) ∧ Below w.heap.size w w' := by
  have b1 := box1 w 3 s
  have hT1 := hT.alloc (.cells #[.int .i64 s] 3)
  have bb : Below w.heap.size w (w.alloc (.cells #[.int .i64 s] 3)) := (Below.refl _ w).alloc (Nat.le_refl _) _
  go_enter Try.func60, Try.ntmps60
  go_wp2_with (go_at_call 61; refine (has_any p g l [s] w.heap.size 3 _ hT1 b1 (by simp)).mono ?_; rw [show [s].all (inT l.length) = false by simp [hs]]; rintro e w' ⟨rfl, rfl⟩)
  go_ret
  exact ⟨rfl, bb⟩
theorem may_nilT (mv : Option Addr) :
    Calls Try.prog 60 #[.pointer none, .pointer mv, .int .i64 s] w fun e w' => e = .returned (.int .i64 2) ∧ w = w' := by
  go_enter Try.func60, Try.ntmps60
  go_wp2
  go_ret
  exact ⟨rfl, by first | trivial | rfl⟩
theorem may_nilM :
    Calls Try.prog 60 #[.pointer (some ⟨p, 0, none⟩), .pointer none, .int .i64 s] w fun e w' => e = .returned (.int .i64 2) ∧ w = w' := by
  go_enter Try.func60, Try.ntmps60
  go_wp2
  go_ret
  exact ⟨rfl, by first | trivial | rfl⟩

theorem len_tree (hT : Tr w p g l) :
    Calls Try.prog 35 #[.pointer (some ⟨p, 0, none⟩)] w fun e w' => e = .returned (.int .i64 l.length) ∧ w = w' := by
  obtain ⟨cap, c0, hcap, hm⟩ := hT.head
  clear hT
  go_enter Try.func35, Try.ntmps35
  go_wp2
  go_ret
  exact ⟨rfl, by first | trivial | rfl⟩
theorem len_nil :
    Calls Try.prog 35 #[.pointer none] w fun e w' => e = .returned (.int .i64 0) ∧ w = w' := by
  go_enter Try.func35, Try.ntmps35
  go_wp2
  go_ret
  exact ⟨rfl, by first | trivial | rfl⟩

/-- The scope around a scope; how many are around it; -1 of none. -/
def parOf (l : List Nd) (s : Int) : Int := if 0 ≤ s ∧ s < l.length then (l[s.toNat]?.map Nd.par).getD (-1) else -1
def nestOf (l : List Nd) (s : Int) : Int := if 0 ≤ s ∧ s < l.length then (l[s.toNat]?.map Nd.nest).getD (-1) else -1

theorem parent_any (hT : Tr w p g l) :
    Calls Try.prog 36 #[.pointer (some ⟨p, 0, none⟩), .int .i64 s] w fun e w' => e = .returned (.int .i64 (parOf l s)) ∧ Below w.heap.size w w' := by
  have b1 := box1 w 3 s
  have hT1 := hT.alloc (.cells #[.int .i64 s] 3)
  have bb : Below w.heap.size w (w.alloc (.cells #[.int .i64 s] 3)) := (Below.refl _ w).alloc (Nat.le_refl _) _
  cases hs : inT l.length s with
  | false =>
    go_enter Try.func36, Try.ntmps36
    go_wp2_with (go_at_call 61; refine (has_any p g l [s] w.heap.size 3 _ hT1 b1 (by simp)).mono ?_; rw [show [s].all (inT l.length) = false by simp [hs]]; rintro e w' ⟨rfl, rfl⟩)
    go_ret
    exact ⟨ret_int (by unfold parOf; rw [if_neg (by simpa [inT] using hs)]), bb⟩
  | true =>
    have h2 : 0 ≤ s ∧ s < l.length := by simpa [inT] using hs
    obtain ⟨s0, s1⟩ := h2
    have hp : parOf l s = (l[s.toNat]'(by omega)).par := by unfold parOf; rw [if_pos ⟨s0, s1⟩]; simp [show s.toNat < l.length by omega]
    obtain ⟨cap, c0, hcap, hm⟩ := hT1.head
    have cn := (hT1.node s.toNat (by omega)).1
    rw [← hp] at cn
    obtain ⟨q, hq⟩ : ∃ q, parOf l s = q := ⟨_, rfl⟩
    rw [hq] at cn ⊢
    clear hp hq
    go_enter Try.func36, Try.ntmps36
    go_wp2_with (go_at_call 61; refine (has_any p g l [s] w.heap.size 3 _ hT1 b1 (by simp)).mono ?_; rw [show [s].all (inT l.length) = true by simp [hs]]; rintro e w' ⟨rfl, rfl⟩)
    go_ret
    exact ⟨rfl, bb⟩
theorem nest_any (hT : Tr w p g l) :
    Calls Try.prog 31 #[.pointer (some ⟨p, 0, none⟩), .int .i64 s] w fun e w' => e = .returned (.int .i64 (nestOf l s)) ∧ Below w.heap.size w w' := by
  have b1 := box1 w 3 s
  have hT1 := hT.alloc (.cells #[.int .i64 s] 3)
  have bb : Below w.heap.size w (w.alloc (.cells #[.int .i64 s] 3)) := (Below.refl _ w).alloc (Nat.le_refl _) _
  cases hs : inT l.length s with
  | false =>
    go_enter Try.func31, Try.ntmps31
    go_wp2_with (go_at_call 61; refine (has_any p g l [s] w.heap.size 3 _ hT1 b1 (by simp)).mono ?_; rw [show [s].all (inT l.length) = false by simp [hs]]; rintro e w' ⟨rfl, rfl⟩)
    go_ret
    exact ⟨ret_int (by unfold nestOf; rw [if_neg (by simpa [inT] using hs)]), bb⟩
  | true =>
    have h2 : 0 ≤ s ∧ s < l.length := by simpa [inT] using hs
    obtain ⟨s0, s1⟩ := h2
    have hp : nestOf l s = (l[s.toNat]'(by omega)).nest := by unfold nestOf; rw [if_pos ⟨s0, s1⟩]; simp [show s.toNat < l.length by omega]
    obtain ⟨cap, c0, hcap, hm⟩ := hT1.head
    have cn := (hT1.node s.toNat (by omega)).2.1
    rw [← hp] at cn
    obtain ⟨q, hq⟩ : ∃ q, nestOf l s = q := ⟨_, rfl⟩
    rw [hq] at cn ⊢
    clear hp hq
    go_enter Try.func31, Try.ntmps31
    go_wp2_with (go_at_call 61; refine (has_any p g l [s] w.heap.size 3 _ hT1 b1 (by simp)).mono ?_; rw [show [s].all (inT l.length) = true by simp [hs]]; rintro e w' ⟨rfl, rfl⟩)
    go_ret
    exact ⟨rfl, bb⟩
end
end Go.Proofs.Ytkdpckoneohjkaa
