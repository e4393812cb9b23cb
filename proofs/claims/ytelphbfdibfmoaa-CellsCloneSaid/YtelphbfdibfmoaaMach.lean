/-
  WHAT IS PROVED HERE: plain laws of memory: 'Kept' (only blocks of a set have turned), 'Row' (a slice value over a block of its own), 'Mach' (a block is a machine of cells: its cells, its size, its callers' steps). No program in sight. Conditions: none.
-/
import Derived.WalkKit
import Derived.Lib.Hide
import Derived.Deep.Draws
namespace Go.Proofs.Ytelphbfdibfmoaa
open Go.RowKit

/-! ## Only the blocks of a set have turned, of those that were there -/
structure Kept (S : Nat → Prop) (w w' : World) : Prop where
  os : w'.os = w.os
  tape : w'.tape = w.tape
  output : w'.output = w.output
  size : w.heap.size ≤ w'.heap.size
  block : ∀ k, k < w.heap.size → ¬ S k → w'.heap[k]? = w.heap[k]?

theorem Kept.refl (S : Nat → Prop) (w : World) : Kept S w w := ⟨rfl, rfl, rfl, Nat.le_refl _, fun _ _ _ => rfl⟩
theorem Kept.trans {S S' : Nat → Prop} {a b c : World} (h : Kept S a b) (k : Kept S' b c) (hs : ∀ i, i < a.heap.size → S' i → S i) : Kept S a c :=
  ⟨k.os.trans h.os, k.tape.trans h.tape, k.output.trans h.output, Nat.le_trans h.size k.size,
    fun i hi hn => (k.block i (Nat.lt_of_lt_of_le hi h.size) (fun e => hn (hs i hi e))).trans (h.block i hi hn)⟩
theorem Kept.mono {S S' : Nat → Prop} {a b : World} (h : Kept S a b) (hs : ∀ i, i < a.heap.size → S i → S' i) : Kept S' a b :=
  ⟨h.os, h.tape, h.output, h.size, fun i hi hn => h.block i hi (fun e => hn (hs i hi e))⟩
theorem Kept.drew {S : Nat → Prop} {a w : World} (h : Kept S a w) : Kept S a w.drew := ⟨h.os, h.tape, h.output, h.size, h.block⟩
theorem Kept.drewN {S : Nat → Prop} {a w : World} (h : Kept S a w) (n : Nat) : Kept S a (w.drewN n) := ⟨h.os, h.tape, h.output, h.size, h.block⟩
theorem Kept.alloc {S : Nat → Prop} {a w : World} (h : Kept S a w) (o : Obj) : Kept S a (w.alloc o) :=
  ⟨h.os, h.tape, h.output, Nat.le_trans h.size (by simp), fun i hi hn => (Below.heap_alloc w o i (Nat.lt_of_lt_of_le hi h.size)).trans (h.block i hi hn)⟩
theorem Kept.setCell {S : Nat → Prop} {a w : World} (h : Kept S a w) {p : Addr} (hp : S p.block ∨ a.heap.size ≤ p.block) (u : Value) : Kept S a (w.setCell p u) :=
  ⟨h.os, h.tape, h.output, by simpa [World.setCell] using h.size, fun i hi hn => (Below.heap_setCell w p u i (by
    rintro rfl
    rcases hp with hp | hp
    · exact hn hp
    · omega)).trans (h.block i hi hn)⟩
theorem Kept.grown {S : Nat → Prop} {a w w' : World} {row : Option Nat} (h : Kept S a w) (hg : w.grownBy w' row) (hr : ∀ k, row = some k → S k ∨ a.heap.size ≤ k) : Kept S a w' :=
  ⟨hg.os.trans h.os, hg.tape.trans h.tape, hg.output.trans h.output, Nat.le_trans h.size hg.size, fun i hi hn =>
    (hg.block i (Nat.lt_of_lt_of_le hi h.size) (fun e => (hr i e.symm).elim (fun h' => hn h') (fun h' => by omega))).trans (h.block i hi hn)⟩
theorem Kept.of_below {S : Nat → Prop} {a w : World} (h : Below a.heap.size a w) : Kept S a w := ⟨h.os, h.tape, h.output, h.size, fun i hi _ => h.block i hi⟩
theorem Kept.below {S : Nat → Prop} {a w : World} (h : Kept S a w) {B : Nat} (hB : B ≤ a.heap.size) (hs : ∀ i, S i → B ≤ i) : Below B a w :=
  ⟨h.os, h.tape, h.output, h.size, fun i hi => h.block i (by omega) (fun e => by have := hs i e; omega)⟩
theorem Kept.cell {S : Nat → Prop} {w w' : World} (h : Kept S w w') {p : Addr} (hp : p.block < w.heap.size) (hn : ¬ S p.block) : w'.cell? p = w.cell? p := World.cell?_of_block (w := w) (h.block p.block hp hn)
theorem Kept.frozen {S : Nat → Prop} {w w' : World} (h : Kept S w w') {p : Addr} (hp : p.block < w.heap.size) (hn : ¬ S p.block) : w'.frozen? p = w.frozen? p := World.frozen?_of_block (w := w) (h.block p.block hp hn)

/-! ## A block that is known whole -/
def Blk (w : World) (g : Nat) (t : TypeId) (cs : List Value) : Prop := w.heap[g]? = some (.cells cs.toArray t (0, 0))

section
variable {w w' : World} {g : Nat} {t : TypeId} {cs : List Value}
theorem Blk.lt (h : Blk w g t cs) : g < w.heap.size := (Array.getElem?_eq_some_iff.1 h).1
theorem Blk.cell (h : Blk w g t cs) (i : Nat) : w.cell? ⟨g, i, none⟩ = cs[i]? := by
  unfold Blk at h
  simp [World.cell?, h]
theorem Blk.frozen (h : Blk w g t cs) (i : Nat) : w.frozen? ⟨g, i, none⟩ = false := by
  unfold Blk at h
  simp [World.frozen?, h]
theorem Blk.kept {S : Nat → Prop} (h : Blk w g t cs) (hk : Kept S w w') (hn : ¬ S g) : Blk w' g t cs := (hk.block g h.lt hn).trans h
theorem Blk.below {B : Nat} (h : Blk w g t cs) (hk : Below B w w') (hn : g < B) : Blk w' g t cs := (hk.block g hn).trans h
theorem Blk.drew (h : Blk w g t cs) : Blk w.drew g t cs := h
theorem Blk.drewN (h : Blk w g t cs) (n : Nat) : Blk (w.drewN n) g t cs := h
theorem Blk.alloc (h : Blk w g t cs) (o : Obj) : Blk (w.alloc o) g t cs := (Below.heap_alloc w o g h.lt).trans h
theorem Blk.setOther (h : Blk w g t cs) {p : Addr} (hp : g ≠ p.block) (u : Value) : Blk (w.setCell p u) g t cs := (Below.heap_setCell w p u g hp).trans h
theorem Blk.set (h : Blk w g t cs) (i : Nat) (u : Value) : Blk (w.setCell ⟨g, i, none⟩ u) g t (cs.set i u) := by
  unfold Blk at h ⊢
  simp only [World.setCell, Array.getElem?_modify]
  simp only [h, if_pos, Option.map_some, Option.some.injEq, Obj.cells.injEq, and_true]
  simp
theorem Blk.new (w : World) (t : TypeId) (cs : List Value) : Blk (w.alloc (.cells cs.toArray t)) w.heap.size t cs := heap_alloc_new w _
end

/-! ## A slice value over a block of its own -/
def Row (w : World) (v : Value) (g : Nat) (e : TypeId) (xs : List Value) : Prop :=
  (v = .slice none 0 0 ∧ xs = []) ∨ ∃ cap cur, v = .slice (some ⟨g, 0, none⟩) xs.length cap ∧ Blk w g e cur ∧ xs.length ≤ cap ∧ cap ≤ maxLen ∧ cur.length = cap ∧ cur.take xs.length = xs

section
variable {w w' : World} {v : Value} {g : Nat} {e : TypeId} {xs : List Value}
theorem Row.kept {S : Nat → Prop} (h : Row w v g e xs) (hk : Kept S w w') (hn : xs = [] ∨ ¬ S g) (hx : v ≠ .slice none 0 0 → xs = [] → ¬ S g) : Row w' v g e xs := by
  rcases h with h | ⟨cap, cur, hv, hb, r⟩
  · exact .inl h
  · refine .inr ⟨cap, cur, hv, hb.kept hk ?_, r⟩
    rcases hn with hn | hn
    · exact hx (by rw [hv]; simp) hn
    · exact hn
end

/-! ## A machine -/
/-- Where a machine lies: its struct, its cells' array, its steps' array. -/
structure MB where
  p : Nat
  c : Nat
  s : Nat

def MB.has (mb : MB) (k : Nat) : Prop := k = mb.p ∨ k = mb.c ∨ k = mb.s

/-- What a machine is: the cells that are given away, how many there are in all, the steps of each caller. -/
structure MS where
  cells : List Int
  size : Int
  steps : List Int

def ints (l : List Int) : List Value := l.map (Value.int .i64)
theorem length_ints (l : List Int) : (ints l).length = l.length := by simp [ints]
theorem get_ints (l : List Int) (i : Nat) : (ints l)[i]? = l[i]?.map (Value.int .i64) := by simp [ints]
theorem set_ints (l : List Int) (i : Nat) (x : Int) : (ints l).set i (.int .i64 x) = ints (l.set i x) := by simp [ints, List.map_set]

/-- tM: the struct's type; tX: int64's; tI: int's. -/
structure Mach (tM tX tI : TypeId) (w : World) (mb : MB) (st : MS) : Prop where
  ps : mb.p ≠ mb.s
  steps : Blk w mb.s tI (ints st.steps)
  cells : (∃ n, st.cells = [] ∧ Blk w mb.p tM [.slice none 0 0, .int .i64 st.size, .slice (some ⟨mb.s, 0, none⟩) n n] ∧ n = st.steps.length ∧ mb.c = mb.p) ∨
    ∃ cap rest n, mb.p ≠ mb.c ∧ mb.s ≠ mb.c ∧ Blk w mb.p tM [.slice (some ⟨mb.c, 0, none⟩) st.cells.length cap, .int .i64 st.size, .slice (some ⟨mb.s, 0, none⟩) n n] ∧ Blk w mb.c tX (ints st.cells ++ rest) ∧
      st.cells.length + rest.length = cap ∧ cap ≤ maxLen ∧ n = st.steps.length

section
variable {tM tX tI : TypeId} {w w' : World} {mb : MB} {st : MS}
theorem Mach.kept {S : Nat → Prop} (h : Mach tM tX tI w mb st) (hk : Kept S w w') (hn : ∀ k, mb.has k → ¬ S k) : Mach tM tX tI w' mb st := by
  refine ⟨h.ps, h.steps.kept hk (hn _ (.inr (.inr rfl))), ?_⟩
  rcases h.cells with ⟨n, h0, hp, hn', hc⟩ | ⟨cap, cur, n, h1, h2, hp, hc, r⟩
  · exact .inl ⟨n, h0, hp.kept hk (hn _ (.inl rfl)), hn', hc⟩
  · exact .inr ⟨cap, cur, n, h1, h2, hp.kept hk (hn _ (.inl rfl)), hc.kept hk (hn _ (.inr (.inl rfl))), r⟩
theorem Mach.lt (h : Mach tM tX tI w mb st) : ∀ k, mb.has k → k < w.heap.size := by
  rintro k (rfl | rfl | rfl)
  · rcases h.cells with ⟨n, h0, hp, hn', hc⟩ | ⟨cap, cur, n, h1, h2, hp, hc, r⟩
    · exact hp.lt
    · exact hp.lt
  · rcases h.cells with ⟨n, h0, hp, hn', hc⟩ | ⟨cap, cur, n, h1, h2, hp, hc, r⟩
    · rw [hc]; exact hp.lt
    · exact hc.lt
  · exact h.steps.lt
theorem Mach.drew (h : Mach tM tX tI w mb st) : Mach tM tX tI w.drew mb st := h.kept (Kept.refl (fun _ => False) w).drew (fun _ _ f => f)
theorem Mach.drewN (h : Mach tM tX tI w mb st) (n : Nat) : Mach tM tX tI (w.drewN n) mb st := h.kept ((Kept.refl (fun _ => False) w).drewN n) (fun _ _ f => f)
theorem Mach.alloc (h : Mach tM tX tI w mb st) (o : Obj) : Mach tM tX tI (w.alloc o) mb st := h.kept ((Kept.refl (fun _ => False) w).alloc o) (fun _ _ f => f)
theorem Mach.setOther (h : Mach tM tX tI w mb st) {p : Addr} (hp : ¬ mb.has p.block) (u : Value) : Mach tM tX tI (w.setCell p u) mb st :=
  h.kept ((Kept.refl (fun k => k = p.block) w).setCell (.inl rfl) u) (fun _ hk e => hp (e ▸ hk))

/-- A step of caller i. -/
theorem Mach.step (h : Mach tM tX tI w mb st) (i : Nat) (x : Int) : Mach tM tX tI (w.setCell ⟨mb.s, i, none⟩ (.int .i64 x)) mb { st with steps := st.steps.set i x } := by
  refine ⟨h.ps, ?_, ?_⟩
  · have := h.steps.set i (.int .i64 x)
    rwa [set_ints] at this
  · rcases h.cells with ⟨n, h0, hp, hn', hc⟩ | ⟨cap, rest, n, cp, cs, hp, hc, h1, h2, h5⟩
    · exact .inl ⟨n, h0, hp.setOther h.ps _, by simpa using hn', hc⟩
    · exact .inr ⟨cap, rest, n, cp, cs, hp.setOther h.ps _, hc.setOther (Ne.symm cs) _, h1, h2, by simpa using h5⟩
/-- A number is put into cell i. -/
theorem Mach.put (h : Mach tM tX tI w mb st) (i : Nat) (hi : i < st.cells.length) (x : Int) : Mach tM tX tI (w.setCell ⟨mb.c, i, none⟩ (.int .i64 x)) mb { st with cells := st.cells.set i x } := by
  rcases h.cells with ⟨n, h0, hp, hn', hc⟩ | ⟨cap, rest, n, cp, cs, hp, hc, h1, h2, h5⟩
  · rw [h0] at hi; simp at hi
  · refine ⟨h.ps, h.steps.setOther cs _, .inr ⟨cap, rest, n, cp, cs, ?_, ?_, by simpa using h1, h2, h5⟩⟩
    · have := hp.setOther (p := ⟨mb.c, i, none⟩) cp (.int .i64 x)
      simpa using this
    · have := hc.set i (.int .i64 x)
      rwa [List.set_append_left _ _ (by rw [length_ints]; exact hi), set_ints] at this
end
end Go.Proofs.Ytelphbfdibfmoaa
