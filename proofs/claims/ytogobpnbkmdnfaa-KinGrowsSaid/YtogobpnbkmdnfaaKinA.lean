/-
  WHAT IS PROVED HERE: a tree of tasks as it lies in memory ('KT'), lists of numbers as they are read ('Sv') and as they are one's own ('Ls'), and contracts of small functions of kin and of pelotonlaw16. Conditions: the pointer is a tree's.
-/
import Derived.Test.YtogobpnbkmdnfaaProg
import Derived.Test.YtogobpnbkmdnfaaKinP
import Derived.StillTailTactics
import Derived.Deep.RegionHeld3
namespace Go.Proofs.Ytogobpnbkmdnfaa
open Go.RowKit

def intOf : Value → Int
  | .int _ z => z
  | _ => 0
theorem ret_bool {a b : Bool} (h : a = b) : Ending.returned (.bool a) = .returned (.bool b) := by rw [h]
theorem ret_int {k : IntKind} {a b : Int} (h : a = b) : Ending.returned (.int k a) = .returned (.int k b) := by rw [h]

/-! ## Lists of numbers -/
/-- A slice that reads xs. -/
def Sv (w : World) (A : Option Addr) (xs : List Int) : Prop :=
  0 < xs.length → ∃ b off, A = some ⟨b, off, none⟩ ∧ b < w.heap.size ∧ ∀ (j : Nat) (x : Int), xs[j]? = some x → w.cell? ⟨b, off + j, none⟩ = some (.int .i64 x)
/-- A slice over an array of one's own, that holds xs; the array lies at or above B. -/
def Ls (w : World) (B : Nat) (A : Option Addr) (cap : Nat) (xs : List Int) : Prop :=
  (A = none ∧ cap = 0 ∧ xs = []) ∨ ∃ g, A = some ⟨g, 0, none⟩ ∧ Rw w g cap 3 (ints xs) ∧ B ≤ g
section
variable {w w' : World} {A : Option Addr} {xs : List Int} {B cap : Nat}
theorem Sv.below (h : Sv w A xs) {n : Nat} (hb : Below n w w') (hn : w.heap.size ≤ n) : Sv w' A xs := fun h0 => by
  obtain ⟨b, off, rfl, hlt, hc⟩ := h h0
  exact ⟨b, off, rfl, Nat.lt_of_lt_of_le hlt hb.size, fun j x hj => (World.cell?_of_block (hb.block b (by omega))).trans (hc j x hj)⟩
theorem Sv.keptB (h : Sv w A xs) {n : Nat} (hb : Below n w w') (hn : ∀ b off, A = some ⟨b, off, none⟩ → b < n) : Sv w' A xs := fun h0 => by
  obtain ⟨b, off, rfl, hlt, hc⟩ := h h0
  exact ⟨b, off, rfl, Nat.lt_of_lt_of_le hlt hb.size, fun j x hj => (World.cell?_of_block (hb.block b (hn b off rfl))).trans (hc j x hj)⟩
theorem Ls.sv (h : Ls w B A cap xs) : Sv w A xs := fun h0 => by
  rcases h with ⟨_, _, rfl⟩ | ⟨g, rfl, hr, _⟩
  · simp at h0
  · exact ⟨g, 0, rfl, hr.lt, fun j x hj => by rw [Nat.zero_add]; exact hr.cell (by rw [get_ints, hj]; rfl)⟩
theorem Ls.room (h : Ls w B A cap xs) : xs.length ≤ cap ∧ cap ≤ maxLen := by
  rcases h with ⟨_, rfl, rfl⟩ | ⟨g, rfl, hr, _⟩
  · exact ⟨Nat.le_refl _, Nat.zero_le _⟩
  · have := hr.room; rwa [length_ints] at this
theorem Ls.below (h : Ls w B A cap xs) {n : Nat} (hb : Below n w w') (hn : w.heap.size ≤ n) : Ls w' B A cap xs := by
  rcases h with h | ⟨g, rfl, hr, hg⟩
  · exact .inl h
  · exact .inr ⟨g, rfl, hr.below hb (Nat.lt_of_lt_of_le hr.lt hn), hg⟩
theorem Ls.kept (h : Ls w B A cap xs) {S : Nat → Prop} (hk : Kept S w w') (hn : ∀ g, A = some ⟨g, 0, none⟩ → ¬ S g) : Ls w' B A cap xs := by
  rcases h with h | ⟨g, rfl, hr, hg⟩
  · exact .inl h
  · exact .inr ⟨g, rfl, hr.kept hk (hn g rfl), hg⟩
theorem Ls.mono (h : Ls w B A cap xs) {C : Nat} (hC : C ≤ B) : Ls w C A cap xs := by
  rcases h with h | ⟨g, rfl, hr, hg⟩
  · exact .inl h
  · exact .inr ⟨g, rfl, hr, Nat.le_trans hC hg⟩
theorem Ls.nil (w : World) (B : Nat) : Ls w B none 0 [] := .inl ⟨rfl, rfl, rfl⟩
theorem Ls.own (h : Ls w B A cap xs) : w.ownsRow 0 3 1 (.slice A xs.length cap) xs.length (ints xs) := by
  rcases h with ⟨rfl, rfl, rfl⟩ | ⟨g, rfl, hr, _⟩
  · exact ⟨rfl, .inl ⟨rfl, rfl⟩⟩
  · have := hr.own
    rwa [length_ints] at this
theorem Ls.get (h : Ls w B A cap xs) {j : Nat} {x : Int} (hj : xs[j]? = some x) : ∃ g, A = some ⟨g, 0, none⟩ ∧ w.cell? ⟨g, j, none⟩ = some (.int .i64 x) := by
  rcases h with ⟨rfl, rfl, rfl⟩ | ⟨g, rfl, hr, _⟩
  · simp at hj
  · exact ⟨g, rfl, hr.cell (by rw [get_ints, hj]; rfl)⟩
end
theorem Rw.take {w : World} {g cap : Nat} {t : TypeId} {cs : List Value} (h : Rw w g cap t cs) (n : Nat) : Rw w g cap t (cs.take n) := by
  obtain ⟨rest, hb, h1, h2⟩ := h
  refine ⟨cs.drop n ++ rest, ?_, ?_, h2⟩
  · rw [← List.append_assoc, List.take_append_drop]; exact hb
  · simp; omega

/-! ## An array of records of three cells -/
def rows3 (n : Nat) (a b c : Nat → Value) : List Value := (List.range n).flatMap fun i => [a i, b i, c i]
theorem rows3_succ (n : Nat) (a b c : Nat → Value) : rows3 (n + 1) a b c = rows3 n a b c ++ [a n, b n, c n] := by simp [rows3, List.range_succ]
theorem length_rows3 (n : Nat) (a b c : Nat → Value) : (rows3 n a b c).length = n * 3 := by
  induction n with
  | zero => rfl
  | succ n ih => rw [rows3_succ, List.length_append, ih]; simp; omega
theorem get_rows3 {n : Nat} (a b c : Nat → Value) {i : Nat} (hi : i < n) : (rows3 n a b c)[i * 3]? = some (a i) ∧ (rows3 n a b c)[i * 3 + 1]? = some (b i) ∧ (rows3 n a b c)[i * 3 + 2]? = some (c i) := by
  induction n with
  | zero => omega
  | succ n ih =>
    have hl := length_rows3 n a b c
    rw [rows3_succ]
    by_cases h : i < n
    · obtain ⟨h1, h2, h3⟩ := ih h
      rw [List.getElem?_append_left (by omega), List.getElem?_append_left (by omega), List.getElem?_append_left (by omega)]
      exact ⟨h1, h2, h3⟩
    · obtain rfl : i = n := by omega
      rw [List.getElem?_append_right (by omega), List.getElem?_append_right (by omega), List.getElem?_append_right (by omega), hl]
      simp [Nat.add_sub_cancel_left]
theorem rows3_congr {n : Nat} {a b c a' b' c' : Nat → Value} (h : ∀ i, i < n → a i = a' i ∧ b i = b' i ∧ c i = c' i) : rows3 n a b c = rows3 n a' b' c' := by
  unfold rows3
  rw [List.flatMap, List.flatMap]
  congr 1
  refine List.map_congr_left (fun i hi => ?_)
  obtain ⟨h1, h2, h3⟩ := h i (List.mem_range.1 hi)
  rw [h1, h2, h3]
theorem rows3_set {n : Nat} (a b c : Nat → Value) {i : Nat} (hi : i < n) (v : Value) : (rows3 n a b c).set (i * 3 + 2) v = rows3 n a b fun j => if j = i then v else c j := by
  induction n with
  | zero => omega
  | succ n ih =>
    have hl := length_rows3 n a b c
    rw [rows3_succ, rows3_succ]
    by_cases h : i < n
    · rw [List.set_append_left _ _ (by omega), ih h, if_neg (by omega)]
    · obtain rfl : i = n := by omega
      rw [List.set_append_right _ _ (by omega), hl, if_pos rfl, rows3_congr (a := a) (b := b) (c := fun j => if j = i then v else c j) (a' := a) (b' := b) (c' := c) (fun j hj => ⟨rfl, rfl, if_neg (by omega)⟩)]
      simp [Nat.add_sub_cancel_left]

/-! ## A tree -/
/-- A task's kids' slice: kg: where its array lies; kc: its room. -/
def kvOf (l : List Int) (kg kc : Nat → Nat) (i : Nat) : Value := if kN l i = [] then .slice none 0 0 else .slice (some ⟨kg i, 0, none⟩) (kN l i).length (kc i)
def tkVs (l : List Int) (kg kc : Nat → Nat) : List Value := rows3 l.length (fun i => .int .i64 (parN l i)) (fun i => .int .i64 (nthN l i)) (kvOf l kg kc)
/-- p: the tree's struct; g: its tasks' array; own: the tree's blocks, and maybe others that nobody else holds. -/
structure KTs (w : World) (p g : Nat) (kg kc : Nat → Nat) (own : Nat → Prop) (l : List Int) : Prop where
  wf : WfP l
  op : own p
  og : l ≠ [] → own g ∧ p ≠ g
  top : (l = [] ∧ Blk w p 60 [.slice none 0 0]) ∨ ∃ cap rest, l ≠ [] ∧ Blk w p 60 [.slice (some ⟨g, 0, none⟩) l.length cap] ∧ Blk w g 57 (tkVs l kg kc ++ rest) ∧ l.length * 3 + rest.length = cap * 3 ∧ cap ≤ maxLen
  kid : ∀ i, i < l.length → kN l i ≠ [] → Rw w (kg i) (kc i) 3 (ints (nI (kN l i))) ∧ kg i ≠ p ∧ kg i ≠ g ∧ own (kg i)
  sep : ∀ i j, i < l.length → j < l.length → kN l i ≠ [] → kN l j ≠ [] → i ≠ j → kg i ≠ kg j
  lt : ∀ k, own k → k < w.heap.size
def KT (w : World) (p : Nat) (own : Nat → Prop) (l : List Int) : Prop := ∃ g kg kc, KTs w p g kg kc own l
section
variable {w w' : World} {p g : Nat} {kg kc : Nat → Nat} {own : Nat → Prop} {l : List Int}
theorem KTs.kept {S : Nat → Prop} (h : KTs w p g kg kc own l) (hk : Kept S w w') (hn : ∀ k, own k → ¬ S k) : KTs w' p g kg kc own l := by
  refine ⟨h.wf, h.op, h.og, ?_, fun i hi h0 => ?_, h.sep, fun k ho => Nat.lt_of_lt_of_le (h.lt k ho) hk.size⟩
  · rcases h.top with ⟨h0, hp⟩ | ⟨cap, rest, h0, hp, hg, r⟩
    · exact .inl ⟨h0, hp.kept hk (hn p h.op)⟩
    · exact .inr ⟨cap, rest, h0, hp.kept hk (hn p h.op), hg.kept hk (hn g (h.og h0).1), r⟩
  · obtain ⟨h1, h2, h3, h4⟩ := h.kid i hi h0
    exact ⟨h1.kept hk (hn _ h4), h2, h3, h4⟩
theorem KT.kept {S : Nat → Prop} (h : KT w p own l) (hk : Kept S w w') (hn : ∀ k, own k → ¬ S k) : KT w' p own l := by
  obtain ⟨g, kg, kc, h⟩ := h
  exact ⟨g, kg, kc, h.kept hk hn⟩
theorem KT.below (h : KT w p own l) {n : Nat} (hb : Below n w w') (hn : w.heap.size ≤ n) : KT w' p own l := by
  obtain ⟨g, kg, kc, h⟩ := h
  exact ⟨g, kg, kc, h.kept (S := fun k => n ≤ k) ⟨hb.os, hb.tape, hb.output, hb.size, fun k hk _ => hb.block k (by omega)⟩ (fun k ho => by have := h.lt k ho; omega)⟩
theorem KT.wf (h : KT w p own l) : WfP l := by obtain ⟨g, kg, kc, h⟩ := h; exact h.wf
theorem KT.lt (h : KT w p own l) : ∀ k, own k → k < w.heap.size := by obtain ⟨g, kg, kc, h⟩ := h; exact h.lt
theorem KT.op (h : KT w p own l) : own p := by obtain ⟨g, kg, kc, h⟩ := h; exact h.op
/-- What the functions read of the tree's struct. -/
theorem KT.head (h : KT w p own l) : ∃ A cap, w.cell? ⟨p, 0, none⟩ = some (.slice A l.length cap) ∧ l.length ≤ cap ∧ cap ≤ maxLen := by
  obtain ⟨g, kg, kc, h⟩ := h
  rcases h.top with ⟨h0, hp⟩ | ⟨cap, rest, h0, hp, hg, r1, r2⟩
  · subst h0
    exact ⟨none, 0, by rw [hp.cell]; rfl, by simp, by simp⟩
  · exact ⟨_, cap, by rw [hp.cell]; rfl, by omega, r2⟩
/-- What they read of a tree that has tasks. -/
structure Node (w : World) (g : Nat) (own : Nat → Prop) (l : List Int) (i : Nat) : Prop where
  par : w.cell? ⟨g, i * 3, none⟩ = some (.int .i64 (parN l i))
  nth : w.cell? ⟨g, i * 3 + 1, none⟩ = some (.int .i64 (nthN l i))
  kids : ∃ A cap, w.cell? ⟨g, i * 3 + 2, none⟩ = some (.slice A (kN l i).length cap) ∧ Ls w 0 A cap (nI (kN l i)) ∧ (kN l i = [] → A = none) ∧ (kN l i ≠ [] → ∃ k, A = some ⟨k, 0, none⟩ ∧ own k)
theorem KTs.node (h : KTs w p g kg kc own l) {i : Nat} (hi : i < l.length) : Node w g own l i := by
  rcases h.top with ⟨h0, hp⟩ | ⟨cap, rest, h0, hp, hg, r1, r2⟩
  · subst h0; simp at hi
  obtain ⟨e0, e1, e2⟩ := get_rows3 (n := l.length) (fun i => .int .i64 (parN l i)) (fun i => .int .i64 (nthN l i)) (kvOf l kg kc) hi
  have hl : (tkVs l kg kc).length = l.length * 3 := length_rows3 _ _ _ _
  refine ⟨?_, ?_, ?_⟩
  · rw [hg.cell, List.getElem?_append_left (by omega)]; exact e0
  · rw [hg.cell, List.getElem?_append_left (by omega)]; exact e1
  · have ec : w.cell? ⟨g, i * 3 + 2, none⟩ = some (kvOf l kg kc i) := by rw [hg.cell, List.getElem?_append_left (by omega)]; exact e2
    unfold kvOf at ec
    by_cases hk : kN l i = []
    · rw [if_pos hk] at ec
      exact ⟨none, 0, by rw [ec, hk]; rfl, by rw [hk]; exact Ls.nil w 0, fun _ => rfl, fun e => absurd hk e⟩
    · rw [if_neg hk] at ec
      obtain ⟨k1, k2, k3, k4⟩ := h.kid i hi hk
      exact ⟨_, _, ec, .inr ⟨kg i, rfl, k1, Nat.zero_le _⟩, fun e => absurd e hk, fun _ => ⟨_, rfl, k4⟩⟩
theorem KT.open (h : KT w p own l) (h0 : 0 < l.length) : ∃ g cap, w.cell? ⟨p, 0, none⟩ = some (.slice (some ⟨g, 0, none⟩) l.length cap) ∧ l.length ≤ cap ∧ cap ≤ maxLen ∧ own g ∧ ∀ i, i < l.length → Node w g own l i := by
  obtain ⟨g, kg, kc, h⟩ := h
  have hne : l ≠ [] := by intro e; subst e; simp at h0
  rcases h.top with ⟨e, hp⟩ | ⟨cap, rest, _, hp, hg, r1, r2⟩
  · exact absurd e hne
  · exact ⟨g, cap, by rw [hp.cell]; rfl, by omega, r2, (h.og hne).1, fun i hi => h.node hi⟩
end

set_option maxRecDepth 20000 in
set_option maxHeartbeats 1000000 in
theorem khas_any (p : Nat) (own : Nat → Prop) (l : List Int) (ls : List Int) (b : Nat) (t : TypeId) (w : World) (hT : KT w p own l) (hb : Blk w b t (ints ls)) (hls : ls.length ≤ 2) :
    Calls Try.prog 32 #[.pointer (some ⟨p, 0, none⟩), .slice (some ⟨b, 0, none⟩) ls.length ls.length] w fun e w' => e = .returned (.bool (ls.all (inK l.length))) ∧ w = w' := by
  obtain ⟨A, cap, c0, hcap, hm⟩ := hT.head
  have cb : ∀ j : Nat, (hj : j < ls.length) → w.cell? ⟨b, j, none⟩ = some (.int .i64 (ls[j]'hj)) := fun j hj => by rw [hb.cell, get_ints]; simp [hj]
  have CB := Lib.hid cb
  clear cb hb hT
  go_enter Try.func32, Try.ntmps32
  go_wp2_with fail
  go_loopw [9] (fun i wr => ∃ j : Nat, j ≤ ls.length ∧ i = .int .i64 j ∧ Hid (∀ q, (hq : q < ls.length) → q < j → inK l.length (ls[q]'hq) = true) ∧ w = wr) (fun i _ => ls.length - (intOf i).toNat)
  case atStart => exact ⟨0, by omega, rfl, Lib.hid (by omega), by first | trivial | rfl⟩
  case round =>
    obtain ⟨j, hj, rfl, HQ, rfl⟩ := hrel
    by_cases hlt : j < ls.length
    · have cj := CB.out j hlt
      obtain ⟨s, hs⟩ : ∃ s, ls[j]'hlt = s := ⟨_, rfl⟩
      rw [hs] at cj
      have HS := Lib.hid hs
      clear hs
      cases hi : inK l.length s with
      | true =>
        obtain ⟨s0, s1⟩ := inK_iff.1 hi
        go_wp2
        go_roundw
        case rel =>
          refine ⟨j + 1, by omega, by go_num, Lib.hid ?_, by first | trivial | rfl⟩
          intro q hq h1
          by_cases e : q = j
          · subst e; rw [HS.out]; exact hi
          · exact HQ.out q hq (by omega)
        case measure => simp [intOf]; omega
      | false =>
        have hall : ls.all (inK l.length) = false := by
          rw [List.all_eq_false]
          exact ⟨s, by rw [← HS.out]; exact List.getElem_mem hlt, by simp [hi]⟩
        by_cases s0 : s < 0
        · go_wp2
          go_ret
          exact ⟨by first | rfl | exact ret_bool hall.symm, by first | trivial | rfl⟩
        · have s1 : ¬ s < l.length := fun h => by have := inK_iff.2 ⟨by omega, h⟩; rw [hi] at this; cases this
          go_wp2
          go_ret
          exact ⟨by first | rfl | exact ret_bool hall.symm, by first | trivial | rfl⟩
    · obtain rfl : j = ls.length := by omega
      have hall : ls.all (inK l.length) = true := by
        rw [List.all_eq_true]
        intro x hx
        obtain ⟨q, hq, rfl⟩ := List.getElem_of_mem hx
        exact HQ.out q hq hq
      go_wp2
      go_ret
      exact ⟨by first | rfl | exact ret_bool hall.symm, by first | trivial | rfl⟩
theorem khas_nil (ls : List Int) (b : Nat) (t : TypeId) (w : World) (hb : Blk w b t (ints ls)) (h0 : 0 < ls.length) :
    Calls Try.prog 32 #[.pointer none, .slice (some ⟨b, 0, none⟩) ls.length ls.length] w fun e w' => e = .returned (.bool false) ∧ w = w' := by
  obtain ⟨s, hs⟩ : ∃ s, ls[0]'h0 = s := ⟨_, rfl⟩
  have cb : w.cell? ⟨b, 0, none⟩ = some (.int .i64 s) := by rw [hb.cell, get_ints]; simp [h0, hs]
  clear hb hs
  go_enter Try.func32, Try.ntmps32
  go_wp2_with fail
  go_loopw [9] (fun i wr => i = .int .i64 0 ∧ w = wr) (fun i _ => 1)
  case atStart => exact ⟨rfl, by first | trivial | rfl⟩
  case round =>
    obtain ⟨rfl, rfl⟩ := hrel
    go_wp2
    go_ret
    exact ⟨rfl, by first | trivial | rfl⟩

theorem kbox1 (w : World) (t : TypeId) (s : Int) : Blk (w.alloc (.cells #[.int .i64 s] t)) w.heap.size t (ints [s]) := Blk.new w t [.int .i64 s]
theorem kbox2 (w : World) (t : TypeId) (s o : Int) : Blk (w.alloc (.cells #[.int .i64 s, .int .i64 o] t)) w.heap.size t (ints [s, o]) := Blk.new w t [.int .i64 s, .int .i64 o]
/-- has, of one number, behind its box. -/
theorem khas1 {W : World} {p b : Nat} {own : Nat → Prop} {l : List Int} {s : Int} {t : TypeId} {r : Bool} (hT : KT W p own l) (hb : Blk W b t (ints [s])) (hr : inK l.length s = r) :
    Calls Try.prog 32 #[.pointer (some ⟨p, 0, none⟩), .slice (some ⟨b, 0, none⟩) 1 1] W fun e w' => e = .returned (.bool r) ∧ W = w' := by
  have := khas_any p own l [s] b t W hT hb (by simp)
  rw [show [s].all (inK l.length) = r by simp [hr]] at this
  exact this
theorem klen_ok {w : World} {p : Nat} {own : Nat → Prop} {l : List Int} (hT : KT w p own l) :
    Calls Try.prog 29 #[.pointer (some ⟨p, 0, none⟩)] w fun e w' => e = .returned (.int .i64 l.length) ∧ w = w' := by
  obtain ⟨A, cap, c0, hcap, hm⟩ := hT.head
  clear hT
  go_enter Try.func29, Try.ntmps29
  go_wp2
  go_ret
  exact ⟨rfl, by first | trivial | rfl⟩
theorem klen_nil (w : World) :
    Calls Try.prog 29 #[.pointer none] w fun e w' => e = .returned (.int .i64 0) ∧ w = w' := by
  go_enter Try.func29, Try.ntmps29
  go_wp2
  go_ret
  exact ⟨rfl, by first | trivial | rfl⟩
/-- A task's parent, of any number. -/
def parI (l : List Int) (x : Int) : Int := if inK l.length x then parN l x.toNat else -1
theorem kparent_ok {w : World} {p : Nat} {own : Nat → Prop} {l : List Int} (hT : KT w p own l) (s : Int) :
    Calls Try.prog 26 #[.pointer (some ⟨p, 0, none⟩), .int .i64 s] w fun e w' => e = .returned (.int .i64 (parI l s)) ∧ Below w.heap.size w w' := by
  have b1 := kbox1 w 3 s
  have bb : Below w.heap.size w (w.alloc (.cells #[.int .i64 s] 3)) := (Below.refl _ w).alloc (Nat.le_refl _) _
  have hT1 := hT.below bb (Nat.le_refl _)
  cases hs : inK l.length s with
  | false =>
    go_enter Try.func26, Try.ntmps26
    go_wp2_with (go_at_call 32; refine (khas1 hT1 b1 hs).mono ?_; rintro e w' ⟨rfl, rfl⟩)
    go_ret
    exact ⟨ret_int (by unfold parI; rw [hs]; rfl), bb⟩
  | true =>
    obtain ⟨k, rfl, hk⟩ := inK_get hs
    obtain ⟨g, cap, c0, hcap, hm, hog, hnd⟩ := hT1.open (by omega)
    have cn := (hnd k hk).par
    have hq : parI l (k : Int) = parN l k := by unfold parI; rw [hs]; rfl
    rw [hq]
    obtain ⟨q, hq⟩ : ∃ q, parN l k = q := ⟨_, rfl⟩
    rw [hq] at cn ⊢
    clear hq hnd
    have hki : (k : Int) < (l.length : Int) := by omega
    go_enter Try.func26, Try.ntmps26
    go_wp2_with (go_at_call 32; refine (khas1 hT1 b1 hs).mono ?_; rintro e w' ⟨rfl, rfl⟩)
    go_ret
    exact ⟨rfl, bb⟩
theorem kparent_nil (s : Int) (w : World) :
    Calls Try.prog 26 #[.pointer none, .int .i64 s] w fun e w' => e = .returned (.int .i64 (-1)) ∧ Below w.heap.size w w' := by
  have b1 := kbox1 w 3 s
  have bb : Below w.heap.size w (w.alloc (.cells #[.int .i64 s] 3)) := (Below.refl _ w).alloc (Nat.le_refl _) _
  go_enter Try.func26, Try.ntmps26
  go_wp2_with (go_at_call 32; refine (khas_nil [s] _ _ _ b1 (by simp)).mono ?_; rintro e w' ⟨rfl, rfl⟩)
  go_ret
  exact ⟨rfl, bb⟩
end Go.Proofs.Ytogobpnbkmdnfaa
