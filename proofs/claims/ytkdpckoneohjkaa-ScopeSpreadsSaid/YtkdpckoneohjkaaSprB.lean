/-
  WHAT IS PROVED HERE: how the law pelotonlaw14.ScopeSpreads begins: what it keeps in memory. Conditions: none beyond what each theorem names.
-/
import Derived.Test.YtkdpckoneohjkaaSprA
namespace Go.Proofs.Ytkdpckoneohjkaa
open Go.RowKit

theorem made_falses (n : Nat) : madeCells (Value.cells (.bool false)) (n * 1) = (bls (List.replicate n false)).toArray := by
  rw [Nat.mul_one]
  apply Array.ext'
  simp [madeCells, bls, Value.cells]
  induction n with
  | zero => rfl
  | succ n ih => rw [List.range_succ, List.map_append, ih, List.replicate_succ']; simp [Nat.mod_one]
theorem make_bools (n : Nat) (h1 : n ≤ 1000000) (w : World) :
    (Instr.makeSlice 56 (.int .i64 (n : Int)) (.int .i64 (n : Int))).run Try.prog w = .ok (.slice (some ⟨w.heap.size, 0, none⟩) n n) (w.alloc (.cells (bls (List.replicate n false)).toArray 4)) := by
  obtain ⟨i0, hi, hz0, hz1, hz2⟩ := info_bool'
  rw [run_make (P := Try.prog) w 56 4 i0 (.bool false) Try.underlying56 hi hz0 .i64 .i64 n n (by omega) (Int.le_refl _) (by rw [hz2]; omega) (by omega), hz1, Int.toNat_natCast, made_falses]

def wr0 : Wr := ⟨false, .pointer none, 0, 0, .slice none 0 0⟩
theorem SpW.start {W w : World} {mb : MB} {t g bi ci : Nat} {L : List Sc} (h : GrT W w mb t g 3 bi ci L) :
    SpW W ((((((w.alloc (.cells (bls (List.replicate L.length false)).toArray 4)).alloc (.cells #[.pointer none, .pointer none, .pointer none] 61)).alloc (.cells #[.bool false, .bool false, .bool false] 4)).alloc (.cells #[.int .i64 0, .int .i64 0, .int .i64 0] 3)).alloc (.cells #[.int .i64 0, .int .i64 0, .int .i64 0] 3)).alloc (.cells #[.slice none 0 0, .slice none 0 0, .slice none 0 0] 56))
      mb t g bi ci w.heap.size L.length L (List.replicate L.length false) [wr0, wr0, wr0] := by
  have b0 := Blk.new w 4 (bls (List.replicate L.length false))
  have k0 : Below w.heap.size w (w.alloc (.cells (bls (List.replicate L.length false)).toArray 4)) := (Below.refl _ w).alloc (Nat.le_refl _) _
  have z0 : (w.alloc (.cells (bls (List.replicate L.length false)).toArray 4)).heap.size = w.heap.size + 1 := by simp
  generalize w.alloc (.cells (bls (List.replicate L.length false)).toArray 4) = w1 at *
  have b1 := Blk.new w1 61 [.pointer none, .pointer none, .pointer none]
  rw [z0] at b1
  have k1 := k0.alloc (w := w1) (by omega) (.cells #[.pointer none, .pointer none, .pointer none] 61)
  have b0 := b0.alloc (.cells #[.pointer none, .pointer none, .pointer none] 61)
  have z1 : (w1.alloc (.cells #[.pointer none, .pointer none, .pointer none] 61)).heap.size = w.heap.size + 2 := by simp; omega
  generalize w1.alloc (.cells #[.pointer none, .pointer none, .pointer none] 61) = w2 at *
  have b2 := Blk.new w2 4 (bls [false, false, false])
  rw [z1] at b2
  have k2 := k1.alloc (w := w2) (by omega) (.cells #[.bool false, .bool false, .bool false] 4)
  have b0 := b0.alloc (.cells #[.bool false, .bool false, .bool false] 4)
  have b1 := b1.alloc (.cells #[.bool false, .bool false, .bool false] 4)
  have z2 : (w2.alloc (.cells #[.bool false, .bool false, .bool false] 4)).heap.size = w.heap.size + 3 := by simp; omega
  have b2 : Blk (w2.alloc (.cells #[.bool false, .bool false, .bool false] 4)) (w.heap.size + 2) 4 (bls [false, false, false]) := b2
  generalize w2.alloc (.cells #[.bool false, .bool false, .bool false] 4) = w3 at *
  have b3 : Blk (w3.alloc (.cells #[.int .i64 0, .int .i64 0, .int .i64 0] 3)) w3.heap.size 3 (ints [0, 0, 0]) := Blk.new w3 3 (ints [0, 0, 0])
  rw [z2] at b3
  have k3 := k2.alloc (w := w3) (by omega) (.cells #[.int .i64 0, .int .i64 0, .int .i64 0] 3)
  have b0 := b0.alloc (.cells #[.int .i64 0, .int .i64 0, .int .i64 0] 3)
  have b1 := b1.alloc (.cells #[.int .i64 0, .int .i64 0, .int .i64 0] 3)
  have b2 := b2.alloc (.cells #[.int .i64 0, .int .i64 0, .int .i64 0] 3)
  have z3 : (w3.alloc (.cells #[.int .i64 0, .int .i64 0, .int .i64 0] 3)).heap.size = w.heap.size + 4 := by simp; omega
  generalize w3.alloc (.cells #[.int .i64 0, .int .i64 0, .int .i64 0] 3) = w4 at *
  have b4 : Blk (w4.alloc (.cells #[.int .i64 0, .int .i64 0, .int .i64 0] 3)) w4.heap.size 3 (ints [0, 0, 0]) := Blk.new w4 3 (ints [0, 0, 0])
  rw [z3] at b4
  have k4 := k3.alloc (w := w4) (by omega) (.cells #[.int .i64 0, .int .i64 0, .int .i64 0] 3)
  have b0 := b0.alloc (.cells #[.int .i64 0, .int .i64 0, .int .i64 0] 3)
  have b1 := b1.alloc (.cells #[.int .i64 0, .int .i64 0, .int .i64 0] 3)
  have b2 := b2.alloc (.cells #[.int .i64 0, .int .i64 0, .int .i64 0] 3)
  have b3 := b3.alloc (.cells #[.int .i64 0, .int .i64 0, .int .i64 0] 3)
  have z4 : (w4.alloc (.cells #[.int .i64 0, .int .i64 0, .int .i64 0] 3)).heap.size = w.heap.size + 5 := by simp; omega
  generalize w4.alloc (.cells #[.int .i64 0, .int .i64 0, .int .i64 0] 3) = w5 at *
  have b5 := Blk.new w5 56 [.slice none 0 0, .slice none 0 0, .slice none 0 0]
  rw [z4] at b5
  have k5 := k4.alloc (w := w5) (by omega) (.cells #[.slice none 0 0, .slice none 0 0, .slice none 0 0] 56)
  have b0 := b0.alloc (.cells #[.slice none 0 0, .slice none 0 0, .slice none 0 0] 56)
  have b1 := b1.alloc (.cells #[.slice none 0 0, .slice none 0 0, .slice none 0 0] 56)
  have b2 := b2.alloc (.cells #[.slice none 0 0, .slice none 0 0, .slice none 0 0] 56)
  have b3 := b3.alloc (.cells #[.slice none 0 0, .slice none 0 0, .slice none 0 0] 56)
  have b4 := b4.alloc (.cells #[.slice none 0 0, .slice none 0 0, .slice none 0 0] 56)
  refine ⟨h.sd.below k5, h.wf, h.rin.below k5 h.rin.lt, ?_, h.hi, h.sd.bel.size, b0, b1, b2, b3, b4, b5, by simp, rfl, ?_, ?_, ?_⟩
  · rintro q (e | e)
    · exact h.sd.lt q e
    · rw [e]; exact h.rin.lt
  · intro j n hn
    have hz := (h.zero n (List.mem_of_getElem? hn)).1
    have := sc_lt hn
    simp [hz, this]
  · intro i r hr hb
    match i, hr with
    | 0, hr => obtain rfl := Option.some.inj hr; cases hb
    | 1, hr => obtain rfl := Option.some.inj hr; cases hb
    | 2, hr => obtain rfl := Option.some.inj hr; cases hb
  · intro i j r r' _ hr _ hb
    match i, hr with
    | 0, hr => obtain rfl := Option.some.inj hr; cases hb
    | 1, hr => obtain rfl := Option.some.inj hr; cases hb
    | 2, hr => obtain rfl := Option.some.inj hr; cases hb
end Go.Proofs.Ytkdpckoneohjkaa
