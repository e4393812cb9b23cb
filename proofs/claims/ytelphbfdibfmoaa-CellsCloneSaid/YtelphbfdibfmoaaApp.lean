/-
  WHAT IS PROVED HERE: a law of memory, over any program: 'append(xs, make([]T, n)...)' where there is no room: n zeros behind the old elements, in a new array. Conditions: T is int64 or int (one cell); n is 1 or more; the array stays below 2^47 bytes.
-/
import Derived.Test.YtelphbfdibfmoaaMach
import Derived.Laws.AppendOwn
namespace Go.Proofs.Ytelphbfdibfmoaa
open Go.RowKit

theorem zeroCells_int (k : IntKind) (n : Nat) : Builtin.zeroCells (Value.cells (.int k 0)) n = (List.replicate n (Value.int k 0)).toArray := by
  apply Array.ext'
  simp [Builtin.zeroCells, Value.cells]
  induction n with
  | zero => rfl
  | succ n ih => rw [List.range_succ, List.map_append, ih, List.replicate_succ']; simp [Nat.mod_one]

theorem run_append_zeros {P : Program} (w : World) (t tn ty e : TypeId) (i : TypeInfo) (k kn : IntKind) (ht : P.underlying t = some (.slice e)) (htn : P.underlying tn = some (.int kn)) (hi : P.info? e = some i) (hz : i.zero = some (.int k 0)) (hs1 : i.size = 1) (hb8 : i.bytes = 8)
    (A : Option Addr) (m c : Nat) (olds : List Value) (hlo : olds.length = m) (holds : ∀ b, A = some b → ∀ j v, olds[j]? = some v → w.cell? (b.add j) = some v) (hA : A = none → m = 0)
    (n : Nat) (h1 : 1 ≤ n) (hc : c < m + n) (hfit : (m + n) * 8 ≤ 140737488355328) :
    (Builtin.append_ #[t, tn] ty #[.slice A m c, .int .i64 n]).run P w =
      .ok (.slice (some ⟨w.heap.size, 0, none⟩) (m + n) (grownCap w (m + n) c e))
        (w.drew.alloc (.cells (olds ++ List.replicate n (Value.int k 0) ++ List.replicate (grownCap w (m + n) c e - (m + n)) (Value.int k 0)).toArray e)) := by
  have hn : ¬ (m + n ≤ c) := by omega
  have hn0 : ¬ n = 0 := by omega
  have h63' : ¬ (9223372036854775807 < ((m : Int) + (n : Int))) := by omega
  have hfit' := growslice_fits (need := m + n) (old := c) (bytes := i.bytes) (by omega) (by rw [hb8]; exact hfit)
  have h48' : ¬ (281474976710656 < Builtin.nextslicecap (m + n) c * i.bytes) := by omega
  have hwrap : IntKind.i64.wrap (n : Int) = n := by rw [IntKind.wrap_i64]; omega
  have hneg : ¬ ((n : Int) < 0) := by omega
  have h48n : ¬ (281474976710656 < (n : Int) * (i.bytes : Int)) := by rw [hb8]; omega
  have hfo : (Builtin.firstCells i.size m (.slice A m c)).run P w.drew = .ok olds.toArray w.drew := by
    cases A with
    | none =>
      have := hA rfl
      subst this
      have : olds = [] := List.eq_nil_of_length_eq_zero hlo
      subst this
      rfl
    | some b => exact run_firstCells_some (P := P) w.drew i.size m b m c olds (by rw [hs1]; omega) (by simpa using holds b rfl)
  rw [hs1] at hfo
  have has : (asInt (Value.int IntKind.i64 (n : Int))).run P w = .ok (n : Int) w := rfl
  simp [Builtin.append_, run_underlying ht, run_underlying htn, sizeOf, typeInfo, zeroValue, hi, hz, hn, hn0, h63', h48', has, hwrap, hneg, h48n, hs1, Question.forced, newRow, grownCap, hfo, zeroCells_int]
  exact congrArg (fun X => w.drew.alloc (Obj.cells X e)) (Array.ext' (by simp))

/-- W is w with a new array behind it: the old elements, n zeros, and zeros up to the capacity. -/
def Zeroed (w W : World) (e : TypeId) (k : IntKind) (olds : List Value) (n cap' : Nat) : Prop :=
  W = w.drew.alloc (.cells (olds ++ List.replicate n (Value.int k 0) ++ List.replicate (cap' - (olds.length + n)) (Value.int k 0)).toArray e)

/-- The same as a law of the walk. -/
theorem wpList_append_zeros {P : Program} (w : World) {ops : Array Oper} {rest : List Oper} {o : Oper} {a : Act} {Q : Exit → Act → World → Prop} (hgd : o.guard = none) (s x : Operand) (t tn : TypeId)
    (ho : o.op = .call { callee := .builtin .append, args := #[s, x], argTypes := #[t, tn] })
    (e : TypeId) (i : TypeInfo) (k kn : IntKind) (ht : P.underlying t = some (.slice e)) (htn : P.underlying tn = some (.int kn)) (hi : P.info? e = some i) (hz : i.zero = some (.int k 0)) (hs1 : i.size = 1) (hb8 : i.bytes = 8)
    (A : Option Addr) (m c : Nat) (olds : List Value) (hs : a.eval s = .slice A m c) (hlo : olds.length = m) (holds : ∀ b, A = some b → ∀ j v, olds[j]? = some v → w.cell? (b.add j) = some v) (hA : A = none → m = 0)
    (N : Int) (n : Nat) (hx : a.eval x = .int .i64 N) (hN : N = (n : Int)) (h1 : 1 ≤ n) (hc : c < m + n) (hfit : (m + n) * 8 ≤ 140737488355328)
    (hK : ∀ cap' W, m + n ≤ cap' → cap' ≤ maxLen → Zeroed w W e k olds n cap' →
      wpList P ops Q rest (a.put o.dst (.slice (some ⟨w.heap.size, 0, none⟩) (m + n) cap')) W) : wpList P ops Q (o :: rest) a w := by
  subst hN
  refine wpList_plain hgd fun K hK' => ?_
  have hr := run_append_zeros (P := P) w t tn o.type e i k kn ht htn hi hz hs1 hb8 A m c olds hlo holds hA n h1 hc hfit
  unfold Oper.wp execOp
  simp only [ho, resolve, invoke, builtin, Sem.run_bind, Sem.run_pure, Result.andThen_ok, List.map_toArray, List.map_cons, List.map_nil, hs, hx, hr]
  exact hK' _ _ (hK _ _ (grownCap_ge _ _ _ _) (grownCap_le_maxLen _ _ _ _ (by unfold maxLen; omega)) (by unfold Zeroed; rw [hlo]))
/-- 'append' to a row of one's own: where the row lies behind it: where it lay, or in the new block. -/
theorem run_append_where {P : Program} (w : World) (base : Nat) (t ty e : TypeId) (i : TypeInfo) (z : Value) (size bytes : Nat) (ht : P.underlying t = some (.slice e)) (hi : P.info? e = some i) (hz : i.zero = some z)
    (hsize : i.size = size) (hby : i.bytes = bytes)
    (v : Value) (n : Nat) (xs : List Value) (hown : w.ownsRow base e size v n xs)
    (a : Addr) (m c : Nat) (news : List Value) (hl : news.length = m * size) (hnews : ∀ j u, news[j]? = some u → w.cell? (a.add j) = some u) (h1 : ∀ u ∈ news, u.oneCell' = true)
    (hm : 0 < m) (h63 : n + m ≤ maxLen) (hbytes : (n + m) * bytes ≤ 140737488355328) :
    ∃ v' w', (Builtin.append_ #[t, t] ty #[v, .slice (some a) m c]).run P w = .ok v' w' ∧ (v'.ownBlock = v.ownBlock ∨ v'.ownBlock = some w.heap.size) := by
  subst hsize
  subst hby
  have hsmall : n + m ≤ 9223372036854775807 := by simp only [maxLen] at h63; omega
  rcases hown.2 with ⟨rfl, rfl⟩ | ⟨g, cap, cur, rfl, hbg, hg, hnc, hcm, hcs, htake⟩
  · have hr := run_append_nil (P := P) w t ty e i z ht hi hz a m c news hl hnews (by omega) (by omega) (by have hb := hbytes; simp only [Nat.zero_add] at hb; omega)
    exact ⟨_, _, hr, .inr rfl⟩
  · by_cases hroom : n + m ≤ cap
    · have hfit : n * i.size + news.length ≤ cur.size := by rw [hl, hcs, ← Nat.add_mul]; exact Nat.mul_le_mul_right _ hroom
      have hr := run_append_room (P := P) w t ty e i ht hi g n cap cur hg a m c news hl hnews h1 hroom hfit
      exact ⟨_, _, hr, .inl rfl⟩
    · have holds : ∀ j u, xs[j]? = some u → w.cell? ((⟨g, 0, none⟩ : Addr).add j) = some u := hown.cells (g := g) rfl
      have hr := run_append_grow (P := P) w t ty e i z ht hi hz ⟨g, 0, none⟩ n cap xs hown.1 holds a m c news hl hnews (by omega) (by omega) (growslice_fits (by omega) hbytes)
      exact ⟨_, _, hr, .inr rfl⟩

theorem ownsRow_form {w : World} {base : Nat} {e : TypeId} {size : Nat} {v : Value} {n : Nat} {xs : List Value} (h : w.ownsRow base e size v n xs) (hn : 0 < n) :
    ∃ g cap, v = .slice (some ⟨g, 0, none⟩) n cap := by
  rcases h.2 with ⟨rfl, rfl⟩ | ⟨g, cap, cur, rfl, _⟩
  · omega
  · exact ⟨g, cap, rfl⟩

/-- The same as a law of the walk: the result is a slice over block g, which is the old one, or the new one. -/
theorem wpList_append_more {P : Program} (w : World) {ops : Array Oper} {rest : List Oper} {o : Oper} {a : Act} {Q : Exit → Act → World → Prop} (hgd : o.guard = none) (s x : Operand) (t : TypeId)
    (ho : o.op = .call { callee := .builtin .append, args := #[s, x], argTypes := #[t, t] })
    (base : Nat) (e : TypeId) (i : TypeInfo) (z : Value) (size bytes : Nat) (ht : P.underlying t = some (.slice e)) (hi : P.info? e = some i) (hz : i.zero = some z)
    (hsize : i.size = size) (hby : i.bytes = bytes) (hzs : z.cells.size = size) (hsz : 0 < size)
    (v : Value) (n : Nat) (xs : List Value) (hs : a.eval s = v) (hown : w.ownsRow base e size v n xs)
    (ad : Addr) (m c : Nat) (news : List Value) (hx : a.eval x = .slice (some ad) m c) (hl : news.length = m * size) (hnews : ∀ j u, news[j]? = some u → w.cell? (ad.add j) = some u) (h1 : ∀ u ∈ news, u.oneCell' = true)
    (hm : 0 < m) (h63 : n + m ≤ maxLen) (hbytes : (n + m) * bytes ≤ 140737488355328) (hbase : base ≤ w.heap.size)
    (hK : ∀ g cap w', w'.ownsRow base e size (.slice (some ⟨g, 0, none⟩) (n + m) cap) (n + m) (xs ++ news) → w.grownBy w' v.ownBlock → (some g = v.ownBlock ∨ g = w.heap.size) → wpList P ops Q rest (a.put o.dst (.slice (some ⟨g, 0, none⟩) (n + m) cap)) w') : wpList P ops Q (o :: rest) a w := by
  refine wpList_plain hgd fun K hK' => ?_
  obtain ⟨v', w', hr, h2, h3, _⟩ := run_append_own (P := P) w base t o.type e i z size bytes ht hi hz hsize hby hzs hsz v n xs hown ad m c news hl hnews h1 h63 hbytes hbase
  obtain ⟨v2, w2, hr2, h5⟩ := run_append_where (P := P) w base t o.type e i z size bytes ht hi hz hsize hby v n xs hown ad m c news hl hnews h1 hm h63 hbytes
  rw [hr] at hr2
  obtain ⟨rfl, rfl⟩ : v' = v2 ∧ w' = w2 := by simpa using hr2
  obtain ⟨g, cap, rfl⟩ := ownsRow_form h2 (by omega)
  unfold Oper.wp execOp
  simp only [ho, resolve, invoke, builtin, Sem.run_bind, Sem.run_pure, Result.andThen_ok, List.map_toArray, List.map_cons, List.map_nil, hs, hx, hr]
  exact hK' _ _ (hK g cap w' h2 h3 (h5.imp (fun h => h) (fun h => by simpa [Value.ownBlock] using h)))
end Go.Proofs.Ytelphbfdibfmoaa
