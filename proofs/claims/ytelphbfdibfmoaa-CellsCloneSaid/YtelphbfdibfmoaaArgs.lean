/-
  WHAT IS PROVED HERE: how the arguments of the laws are opened: slices of integers, of structs of integers, of bools; arrays of integers and structs of integers by value. Plain laws of the reading, over any program. Conditions: the types are what each law names.
-/
import Derived.WalkKit
import Derived.ProofKit
import Derived.OpenShut
import Derived.Deep.Slices
import Derived.Lib.SmallJoins
namespace Go.Proofs.Ytelphbfdibfmoaa
open Go.ChangeShapes Go.WideShapes Go.RowKit Go.Deep Go.Joins

/-- Numbers that lie side by side: n of them, each a 64-bit number. -/
def Flat (W : World) (A : Option Addr) (n : Nat) (vs : List Int) : Prop :=
  vs.length = n ∧ (∀ z ∈ vs, (Lit.int .i64 z).wf = true) ∧
    (0 < n → ∃ b off, A = some ⟨b, off, none⟩ ∧ b < W.heap.size ∧ ∀ j, j < n → W.cell? ⟨b, off + j, none⟩ = some (.int .i64 (vs.getD j 0)))

def FlatB (W : World) (A : Option Addr) (n : Nat) (vs : List Bool) : Prop :=
  vs.length = n ∧ (0 < n → ∃ b off, A = some ⟨b, off, none⟩ ∧ b < W.heap.size ∧ ∀ j, j < n → W.cell? ⟨b, off + j, none⟩ = some (.bool (vs.getD j false)))

theorem wf_range {z : Int} (h : (Lit.int .i64 z).wf = true) : -9223372036854775808 ≤ z ∧ z ≤ 9223372036854775807 := by
  simp [Lit.wf, IntKind.min, IntKind.max, IntKind.signed, IntKind.bits] at h
  omega

theorem add_plain {b off q : Nat} : (⟨b, off, none⟩ : Addr).add q = ⟨b, off + q, none⟩ := by
  unfold Addr.add
  split <;> simp_all

theorem choice_fn {p : Nat → Int → Prop} {n : Nat} (h : ∀ q, q < n → ∃ z, p q z) : ∃ F : Nat → Int, ∀ q, q < n → p q (F q) := by
  classical
  refine ⟨fun q => if hq : q < n then Classical.choose (h q hq) else 0, fun q hq => ?_⟩
  simp only [dif_pos hq]
  exact Classical.choose_spec (h q hq)

theorem flat_of (W : World) (a : Addr) (n : Nat) (h : ∀ q, q < n → ∃ z, W.cell? (a.add q) = some (.int .i64 z) ∧ (Lit.int .i64 z).wf = true) : ∃ vs, Flat W (some a) n vs := by
  obtain ⟨F, hF⟩ := choice_fn h
  refine ⟨(List.range n).map F, by simp, ?_, fun hn => ?_⟩
  · intro z hz
    simp only [List.mem_map, List.mem_range] at hz
    obtain ⟨q, hq, rfl⟩ := hz
    exact (hF q hq).2
  · obtain ⟨hz, _⟩ := hF 0 hn
    obtain ⟨b, off, sp⟩ := a
    have hs : sp = none := by simpa [Addr.add] using World.cell?_spot hz
    subst hs
    refine ⟨b, off, rfl, ?_, ?_⟩
    · have := World.block_lt_of_cell? W _ hz
      simpa [Addr.add] using this
    · intro j hj
      have := (hF j hj).1
      rw [add_plain] at this
      rw [this]
      simp [List.getD, hj]

theorem flatB_of (W : World) (a : Addr) (n : Nat) (B : Nat → Bool) (h : ∀ q, q < n → W.cell? (a.add q) = some (.bool (B q))) : ∃ vs, FlatB W (some a) n vs := by
  refine ⟨(List.range n).map B, by simp, fun hn => ?_⟩
  have hz := h 0 hn
  obtain ⟨b, off, sp⟩ := a
  have hs : sp = none := by simpa [Addr.add] using World.cell?_spot hz
  subst hs
  refine ⟨b, off, rfl, ?_, ?_⟩
  · have := World.block_lt_of_cell? W _ hz
    simpa [Addr.add] using this
  · intro j hj
    have := h j hj
    rw [add_plain] at this
    rw [this]
    simp [List.getD, hj]

section
variable {H : Type} {enc : TypeId × Value → H} {P : Program} {W : World}

theorem open_flat {t e : TypeId} {v : Value} {d : DataW H} {p : List MemPlace} (ht : P.underlying t = some (.slice e)) (he : P.underlying e = some (.int .i64)) (hc : P.cellsOf e = 1)
    (hv : Value.okWide P W .any 0 t v) (h : DataW.Trod enc P W 0 (fun _ => true) true t v d p) :
    ∃ A len cap vs, v = .slice A len cap ∧ len ≤ maxLen ∧ Flat W A len vs := by
  obtain ⟨A, len, cap, rfl⟩ := okWide_slice ht hv
  obtain ⟨fuel, hf⟩ := h
  rcases open_ints ht he hc hf with ⟨hcs, _⟩ | ⟨x, l, c, zs, hcs, _, hl, hm, hz, _, hcell, hwz⟩
  · simp [Value.cells] at hcs
    obtain ⟨rfl, rfl, rfl⟩ := hcs
    exact ⟨_, _, _, [], rfl, by unfold maxLen; omega, rfl, by simp, fun h => by omega⟩
  · simp [Value.cells] at hcs
    obtain ⟨rfl, rfl, rfl⟩ := hcs
    simp only [if_true] at hz
    obtain ⟨vs, hvs⟩ := flat_of W x len (fun q hq => ⟨_, hcell q (by omega), hwz _ (by
      have hq' : q < zs.length := by omega
      simp [List.getD, hq'])⟩)
    exact ⟨_, _, _, vs, rfl, by omega, hvs⟩

theorem open_flatB {t e : TypeId} {v : Value} {d : DataW H} {p : List MemPlace} (ht : P.underlying t = some (.slice e)) (he : P.underlying e = some .bool) (hc : P.cellsOf e = 1)
    (hv : Value.okWide P W .any 0 t v) (h : DataW.Trod enc P W 0 (fun _ => true) true t v d p) :
    ∃ A len cap vs, v = .slice A len cap ∧ len ≤ maxLen ∧ FlatB W A len vs := by
  obtain ⟨A, len, cap, rfl⟩ := okWide_slice ht hv
  obtain ⟨fuel, hf⟩ := h
  rcases open_slice ht hf with ⟨hcs, _⟩ | ⟨x, l, c, m, n, D, Pl, hcs, _, hl, hm, hmm, _, hi⟩
  · simp [Value.cells] at hcs
    obtain ⟨rfl, rfl, rfl⟩ := hcs
    exact ⟨_, _, _, [], rfl, by unfold maxLen; omega, rfl, fun h => by omega⟩
  · simp [Value.cells] at hcs
    obtain ⟨rfl, rfl, rfl⟩ := hcs
    simp only [if_true] at hmm
    have key : ∀ q, q < len → ∃ z, W.cell? (x.add q) = some (.bool z) := by
      intro q hq
      obtain ⟨cs', hcl, htr⟩ := hi q (by omega)
      rw [hc, Nat.mul_one] at hcl
      obtain ⟨z, hcs, _⟩ := DataW.trod_bool he htr
      obtain ⟨_, hl1, hat⟩ := World.cells?_some hcl
      have h0 := hat 0 (by omega)
      rw [hcs] at h0
      refine ⟨z, ?_⟩
      have e0 : (x.add q).add 0 = x.add q := by simp [Addr.add]
      rw [e0] at h0
      simpa using h0
    obtain ⟨vs, hvs⟩ := flatB_of W x len (fun q => if h : q < len then Classical.choose (key q h) else false) (fun q hq => by
      simp only [dif_pos hq]; exact Classical.choose_spec (key q hq))
    exact ⟨_, _, _, vs, rfl, by omega, hvs⟩

/-- Structs of integers alone. -/
def IntFields (P : Program) (fs : Array Field) : Prop := oneCellFields P fs = true ∧ ∀ (j : Nat) (f : Field), fs[j]? = some f → P.underlying f.type = some (.int .i64)

theorem open_flatS {t e : TypeId} {fs : Array Field} {v : Value} {d : DataW H} {p : List MemPlace} (ht : P.underlying t = some (.slice e)) (he : P.underlying e = some (.struct fs)) (hi : IntFields P fs) (hC : P.cellsOf e = fs.size) (hpos : 0 < fs.size)
    (hv : Value.okWide P W .any 0 t v) (h : DataW.Trod enc P W 0 (fun _ => true) true t v d p) :
    ∃ A len cap vs, v = .slice A len cap ∧ len ≤ maxLen ∧ Flat W A (len * fs.size) vs := by
  obtain ⟨A, len, cap, rfl⟩ := okWide_slice ht hv
  obtain ⟨fuel, hf⟩ := h
  rcases open_slice ht hf with ⟨hcs, _⟩ | ⟨x, l, c, m, n, D, Pl, hcs, _, hl, hm, hmm, _, hel⟩
  · simp [Value.cells] at hcs
    obtain ⟨rfl, rfl, rfl⟩ := hcs
    exact ⟨_, _, _, [], rfl, by unfold maxLen; omega, by simp, by simp, fun h => by omega⟩
  · simp [Value.cells] at hcs
    obtain ⟨rfl, rfl, rfl⟩ := hcs
    simp only [if_true] at hmm
    obtain ⟨vs, hvs⟩ := flat_of W x (len * fs.size) (fun q hq => by
      have hq1 : q / fs.size < len := by rw [Nat.div_lt_iff_lt_mul hpos]; exact hq
      have hq2 : q % fs.size < fs.size := Nat.mod_lt _ hpos
      have hq3 : q / fs.size * fs.size + q % fs.size = q := by rw [Nat.mul_comm]; exact Nat.div_add_mod q fs.size
      obtain ⟨cs', hcl, htr⟩ := hel (q / fs.size) (by omega)
      rw [hC] at hcl
      obtain ⟨ys, n', _, _, hlen, _, hff⟩ := DataW.trod_struct he htr
      obtain ⟨_, hcl2, hat⟩ := World.cells?_some hcl
      have hfj : fs[q % fs.size]? = some (fs[q % fs.size]'hq2) := Array.getElem?_eq_getElem hq2
      have h1 := hff _ _ hfj
      obtain ⟨ho, hk⟩ := hone_of hi.1 _ _ hfj
      rw [ho, hk] at h1
      have hcs1 : (cs'.drop (q % fs.size)).take 1 = [cs'[q % fs.size]'(by omega)] := by
        rw [List.drop_eq_getElem_cons (by omega)]; rfl
      rw [hcs1] at h1
      have hcell := hat (q % fs.size) hq2
      cases hy : ys[q % fs.size]? with
      | none => 
        rw [hy] at h1
        have : ys.length = fs.size := by assumption
        rw [List.getElem?_eq_none_iff] at hy
        omega
      | some y =>
        rw [hy] at h1
        obtain ⟨z, hz, _, hwz⟩ := DataW.trod_int (hi.2 _ _ hfj) h1
        refine ⟨z, ?_, hwz⟩
        have ez : cs'[q % fs.size]'(by omega) = .int .i64 z := by simpa using hz
        have ea : (x.add (q / fs.size * fs.size)).add (q % fs.size) = x.add q := by rw [Go.Deep.add_add, hq3]
        rw [ea] at hcell
        rw [hcell, List.getElem?_eq_getElem (by omega), ez])
    exact ⟨_, _, _, vs, rfl, by omega, hvs⟩

/-- A struct of integers, by value. -/
theorem open_valS {t : TypeId} {fs : Array Field} {v : Value} {d : DataW H} {p : List MemPlace} (ht : P.underlying t = some (.struct fs)) (hi : IntFields P fs) (hC : P.cellsOf t = fs.size)
    (hv : Value.okWide P W .any 0 t v) (h : DataW.Trod enc P W 0 (fun _ => true) true t v d p) :
    ∃ zs : List Int, v = .agg (zs.map (Value.int .i64)).toArray ∧ zs.length = fs.size ∧ ∀ z ∈ zs, (Lit.int .i64 z).wf = true := by
  obtain ⟨cs, rfl, hsz⟩ := okWide_struct ht hv
  obtain ⟨fuel, hf⟩ := h
  obtain ⟨ys, n', _, _, hlen, hyl, hff⟩ := DataW.trod_struct ht hf
  obtain ⟨l⟩ := cs
  have hll : l.length = fs.size := by simpa [hC] using hsz
  have key : ∀ j, (hj : j < fs.size) → ∃ z, l[j]? = some (.int .i64 z) ∧ (Lit.int .i64 z).wf = true := by
    intro j hj
    have hfj : fs[j]? = some (fs[j]'hj) := Array.getElem?_eq_getElem hj
    have h1 := hff _ _ hfj
    obtain ⟨ho, hk⟩ := hone_of hi.1 _ _ hfj
    rw [ho, hk] at h1
    simp only [Value.cells] at h1
    have hcs1 : (l.drop j).take 1 = [l[j]'(by omega)] := by
      rw [List.drop_eq_getElem_cons (by omega)]; rfl
    rw [hcs1] at h1
    cases hy : ys[j]? with
    | none =>
      rw [List.getElem?_eq_none_iff] at hy
      omega
    | some y =>
      rw [hy] at h1
      obtain ⟨z, hz, _, hwz⟩ := DataW.trod_int (hi.2 _ _ hfj) h1
      have ez : l[j]'(by omega) = .int .i64 z := by simpa using hz
      exact ⟨z, by rw [List.getElem?_eq_getElem (by omega), ez], hwz⟩
  obtain ⟨F, hF⟩ := choice_fn key
  refine ⟨(List.range fs.size).map F, ?_, by simp, ?_⟩
  · congr 1
    apply Array.ext'
    apply List.ext_getElem?
    intro j
    by_cases hj : j < fs.size
    · rw [(hF j hj).1]
      simp [hj]
    · rw [List.getElem?_eq_none (by simp only []; omega), List.getElem?_eq_none (by simp; omega)]
  · intro z hz
    simp only [List.mem_map, List.mem_range] at hz
    obtain ⟨q, hq, rfl⟩ := hz
    exact (hF q hq).2

/-- An array of integers, by value. -/
theorem open_valA {t e : TypeId} {n : Nat} {v : Value} {d : DataW H} {p : List MemPlace} (ht : P.underlying t = some (.array n e)) (he : P.underlying e = some (.int .i64)) (hce : P.cellsOf e = 1) (hC : P.cellsOf t = n)
    (hv : Value.okWide P W .any 0 t v) (h : DataW.Trod enc P W 0 (fun _ => true) true t v d p) :
    ∃ zs : List Int, v = .agg (zs.map (Value.int .i64)).toArray ∧ zs.length = n ∧ ∀ z ∈ zs, (Lit.int .i64 z).wf = true := by
  have hv' : ∃ cs : Array Value, v = .agg cs ∧ cs.size = P.cellsOf t := by
    simp only [Value.okWide, ht] at hv
    obtain ⟨cs, h1, h2, _⟩ := hv
    exact ⟨cs, h1, h2⟩
  obtain ⟨cs, rfl, hsz⟩ := hv'
  obtain ⟨fuel, hf⟩ := h
  obtain ⟨xs, m, _, _, hlen, hxl, hff⟩ := DataW.trod_array ht hf
  obtain ⟨l⟩ := cs
  have hll : l.length = n := by simpa [hC] using hsz
  have key : ∀ j, (hj : j < n) → ∃ z, l[j]? = some (.int .i64 z) ∧ (Lit.int .i64 z).wf = true := by
    intro j hj
    have h1 := hff j hj
    rw [hce, Nat.mul_one] at h1
    simp only [Value.cells] at h1
    have hcs1 : (l.drop j).take 1 = [l[j]'(by omega)] := by
      rw [List.drop_eq_getElem_cons (by omega)]; rfl
    rw [hcs1] at h1
    cases hy : xs[j]? with
    | none =>
      rw [List.getElem?_eq_none_iff] at hy
      omega
    | some y =>
      rw [hy] at h1
      obtain ⟨z, hz, _, hwz⟩ := DataW.trod_int he h1
      have ez : l[j]'(by omega) = .int .i64 z := by simpa using hz
      exact ⟨z, by rw [List.getElem?_eq_getElem (by omega), ez], hwz⟩
  obtain ⟨F, hF⟩ := choice_fn key
  refine ⟨(List.range n).map F, ?_, by simp, ?_⟩
  · congr 1
    apply Array.ext'
    apply List.ext_getElem?
    intro j
    by_cases hj : j < n
    · rw [(hF j hj).1]
      simp [hj]
    · rw [List.getElem?_eq_none (by simp only []; omega), List.getElem?_eq_none (by simp; omega)]
  · intro z hz
    simp only [List.mem_map, List.mem_range] at hz
    obtain ⟨q, hq, rfl⟩ := hz
    exact (hF q hq).2
end
end Go.Proofs.Ytelphbfdibfmoaa
