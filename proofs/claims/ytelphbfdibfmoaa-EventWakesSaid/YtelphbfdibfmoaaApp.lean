/-
  WHAT IS PROVED HERE: a law of memory, over any program: 'append(xs, make([]T, n)...)' where there is no room: n zeros behind the old elements, in a new array. Conditions: T is int64 or int (one cell); n is 1 or more; the array stays below 2^47 bytes.
-/
import Derived.Test.YtelphbfdibfmoaaMach
import Derived.Laws.AppendOwn
namespace Go.Proofs.Ytelphbfdibfmoaa
open Go.RowKit

theorem zeroCells_int (k : IntKind) (n : Nat) : Builtin.zeroCells (Value.cells (.int k 0)) n = (List.replicate n (Value.int k 0)).toArray := by
  apply Array.ext'
  simp [Builtin.zeroCells, Value.cells]
  induction n with
  | zero => rfl
  | succ n ih => rw [List.range_succ, List.map_append, ih, List.replicate_succ']; simp [Nat.mod_one]

theorem run_append_zeros {P : Program} (w : World) (t tn ty e : TypeId) (i : TypeInfo) (k kn : IntKind) (ht : P.underlying t = some (.slice e)) (htn : P.underlying tn = some (.int kn)) (hi : P.info? e = some i) (hz : i.zero = some (.int k 0)) (hs1 : i.size = 1) (hb8 : i.bytes = 8)
    (A : Option Addr) (m c : Nat) (olds : List Value) (hlo : olds.length = m) (holds : ∀ b, A = some b → ∀ j v, olds[j]? = some v → w.cell? (b.add j) = some v) (hA : A = none → m = 0)
    (n : Nat) (h1 : 1 ≤ n) (hc : c < m + n) (hfit : (m + n) * 8 ≤ 140737488355328) :
    (Builtin.append_ #[t, tn] ty #[.slice A m c, .int .i64 n]).run P w =
      .ok (.slice (some ⟨w.heap.size, 0, none⟩) (m + n) (grownCap w (m + n) c e))
        (w.drew.alloc (.cells (olds ++ List.replicate n (Value.int k 0) ++ List.replicate (grownCap w (m + n) c e - (m + n)) (Value.int k 0)).toArray e)) := by
  have hn : ¬ (m + n ≤ c) := by omega
  have hn0 : ¬ n = 0 := by omega
  have h63' : ¬ (9223372036854775807 < ((m : Int) + (n : Int))) := by omega
  have hfit' := growslice_fits (need := m + n) (old := c) (bytes := i.bytes) (by omega) (by rw [hb8]; exact hfit)
  have h48' : ¬ (281474976710656 < Builtin.nextslicecap (m + n) c * i.bytes) := by omega
  have hwrap : IntKind.i64.wrap (n : Int) = n := by rw [IntKind.wrap_i64]; omega
  have hneg : ¬ ((n : Int) < 0) := by omega
  have h48n : ¬ (281474976710656 < (n : Int) * (i.bytes : Int)) := by rw [hb8]; omega
  have hfo : (Builtin.firstCells i.size m (.slice A m c)).run P w.drew = .ok olds.toArray w.drew := by
    cases A with
    | none =>
      have := hA rfl
      subst this
      have : olds = [] := List.eq_nil_of_length_eq_zero hlo
      subst this
      rfl
    | some b => exact run_firstCells_some (P := P) w.drew i.size m b m c olds (by rw [hs1]; omega) (by simpa using holds b rfl)
  rw [hs1] at hfo
  have has : (asInt (Value.int IntKind.i64 (n : Int))).run P w = .ok (n : Int) w := rfl
  simp [Builtin.append_, run_underlying ht, run_underlying htn, sizeOf, typeInfo, zeroValue, hi, hz, hn, hn0, h63', h48', has, hwrap, hneg, h48n, hs1, Question.forced, newRow, grownCap, hfo, zeroCells_int]
  exact congrArg (fun X => w.drew.alloc (Obj.cells X e)) (Array.ext' (by simp))

/-- W is w with a new array behind it: the old elements, n zeros, and zeros up to the capacity. -/
def Zeroed (w W : World) (e : TypeId) (k : IntKind) (olds : List Value) (n cap' : Nat) : Prop :=
  W = w.drew.alloc (.cells (olds ++ List.replicate n (Value.int k 0) ++ List.replicate (cap' - (olds.length + n)) (Value.int k 0)).toArray e)

/-- The same as a law of the walk. -/
theorem wpList_append_zeros {P : Program} (w : World) {ops : Array Oper} {rest : List Oper} {o : Oper} {a : Act} {Q : Exit → Act → World → Prop} (hgd : o.guard = none) (s x : Operand) (t tn : TypeId)
    (ho : o.op = .call { callee := .builtin .append, args := #[s, x], argTypes := #[t, tn] })
    (e : TypeId) (i : TypeInfo) (k kn : IntKind) (ht : P.underlying t = some (.slice e)) (htn : P.underlying tn = some (.int kn)) (hi : P.info? e = some i) (hz : i.zero = some (.int k 0)) (hs1 : i.size = 1) (hb8 : i.bytes = 8)
    (A : Option Addr) (m c : Nat) (olds : List Value) (hs : a.eval s = .slice A m c) (hlo : olds.length = m) (holds : ∀ b, A = some b → ∀ j v, olds[j]? = some v → w.cell? (b.add j) = some v) (hA : A = none → m = 0)
    (N : Int) (n : Nat) (hx : a.eval x = .int .i64 N) (hN : N = (n : Int)) (h1 : 1 ≤ n) (hc : c < m + n) (hfit : (m + n) * 8 ≤ 140737488355328)
    (hK : ∀ cap' W, m + n ≤ cap' → cap' ≤ maxLen → Zeroed w W e k olds n cap' →
      wpList P ops Q rest (a.put o.dst (.slice (some ⟨w.heap.size, 0, none⟩) (m + n) cap')) W) : wpList P ops Q (o :: rest) a w := by
  subst hN
  refine wpList_plain hgd fun K hK' => ?_
  have hr := run_append_zeros (P := P) w t tn o.type e i k kn ht htn hi hz hs1 hb8 A m c olds hlo holds hA n h1 hc hfit
  unfold Oper.wp execOp
  simp only [ho, resolve, invoke, builtin, Sem.run_bind, Sem.run_pure, Result.andThen_ok, List.map_toArray, List.map_cons, List.map_nil, hs, hx, hr]
  exact hK' _ _ (hK _ _ (grownCap_ge _ _ _ _) (grownCap_le_maxLen _ _ _ _ (by unfold maxLen; omega)) (by unfold Zeroed; rw [hlo]))
end Go.Proofs.Ytelphbfdibfmoaa
