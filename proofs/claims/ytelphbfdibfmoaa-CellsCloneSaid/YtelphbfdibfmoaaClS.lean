/-
  WHAT IS PROVED HERE: contracts of slices.Clone and slices.Equal (over int64 and over int), of a machine's Clone and of cells.Same; of the methods of a machine that is nil. Conditions: the pointers are machines' ('MachC') with cells and callers.
-/
import Derived.Test.YtelphbfdibfmoaaClH
import Derived.Test.YtelphbfdibfmoaaRow
import Derived.Maps.OwnIn
import Derived.StillTailTactics
import Derived.Deep.RegionHeld3
namespace Go.Proofs.Ytelphbfdibfmoaa
open Go.RowKit

/-- A slice that reads xs. -/
def SvC (w : World) (A : Option Addr) (xs : List Int) : Prop :=
  0 < xs.length → ∃ b, A = some ⟨b, 0, none⟩ ∧ b < w.heap.size ∧ ∀ (j : Nat) (x : Int), xs[j]? = some x → w.cell? ⟨b, j, none⟩ = some (.int .i64 x)
theorem SvC.below {w w' : World} {A : Option Addr} {xs : List Int} (h : SvC w A xs) {n : Nat} (hb : Below n w w') (hn : w.heap.size ≤ n) : SvC w' A xs := fun h0 => by
  obtain ⟨b, rfl, hlt, hc⟩ := h h0
  exact ⟨b, rfl, Nat.lt_of_lt_of_le hlt hb.size, fun j x hj => (World.cell?_of_block (hb.block b (by omega))).trans (hc j x hj)⟩
theorem cl_add {b q : Nat} : (⟨b, 0, none⟩ : Addr).add q = ⟨b, q, none⟩ := by
  unfold Addr.add
  split <;> simp_all
/-- An append of numbers to a row of one's own, run. -/
theorem cl_append (T e : TypeId) (i0 : TypeInfo) (hT : Try.prog.underlying T = some (.slice e)) (hi : Try.prog.info? e = some i0) (hz0 : i0.zero = some (.int .i64 0)) (hz1 : i0.size = 1) (hz2 : i0.bytes = 8)
    (w : World) (ty : TypeId) {g cap : Nat} (h : Rw w g cap e []) (b m c : Nat) (ys : List Int) (hm : m = ys.length) (h0 : 0 < m) (hc : ∀ (j : Nat) (y : Int), ys[j]? = some y → w.cell? ⟨b, j, none⟩ = some (.int .i64 y)) (few : m ≤ 1000000) :
    ∃ g' cap' w', (Builtin.append_ #[T, T] ty #[.slice (some ⟨g, 0, none⟩) 0 cap, .slice (some ⟨b, 0, none⟩) m c]).run Try.prog w = .ok (.slice (some ⟨g', 0, none⟩) m cap') w' ∧
      Rw w' g' cap' e (ints ys) ∧ Kept (fun k => k = g) w w' ∧ (g' = g ∨ g' = w.heap.size) := by
  subst hm
  have hnews : ∀ (j : Nat) (u : Value), (ints ys)[j]? = some u → w.cell? ((⟨b, 0, none⟩ : Addr).add j) = some u := fun j u hu => by
    rw [get_ints] at hu
    obtain ⟨y, hy, rfl⟩ := Option.map_eq_some_iff.1 hu
    rw [cl_add]
    exact hc j y hy
  have hown := h.own
  simp only [List.length_nil] at hown
  obtain ⟨v', w', hr, h2, h3, h4, h5⟩ := run_append_own_at (P := Try.prog) w 0 T ty e i0 (.int .i64 0) 1 8 hT hi hz0 hz1 hz2 rfl (by omega) (.slice (some ⟨g, 0, none⟩) 0 cap) 0 [] hown ⟨b, 0, none⟩ ys.length c (ints ys) (by rw [length_ints]; omega) hnews
    (fun u hu => by obtain ⟨y, _, rfl⟩ := List.mem_map.1 hu; rfl) (by unfold maxLen; omega) (by omega) (Nat.zero_le _)
  obtain ⟨g', cap', rfl⟩ := ownsRow_form h2 (by omega)
  obtain ⟨hr2, _⟩ := Rw.ofOwn h2
  refine ⟨g', cap', w', by simpa using hr, by simpa using hr2, (Kept.refl _ w).grown h3 (fun k ek => .inl ?_), ?_⟩
  · simp [Value.ownBlock] at ek; rw [ek]
  · rcases h5 with e5 | e5
    · left; simpa [Value.ownBlock] using e5
    · right; simpa [Value.ownBlock] using e5
theorem wpList_append_cl (T e : TypeId) (i0 : TypeInfo) (hT : Try.prog.underlying T = some (.slice e)) (hi : Try.prog.info? e = some i0) (hz0 : i0.zero = some (.int .i64 0)) (hz1 : i0.size = 1) (hz2 : i0.bytes = 8)
    (w : World) {ops : Array Oper} {rest : List Oper} {o : Oper} {a : Act} {Q : Exit → Act → World → Prop} (hgd : o.guard = none) (s x : Operand) (ho : o.op = .call { callee := .builtin .append, args := #[s, x], argTypes := #[T, T] })
    {g cap : Nat} (h : Rw w g cap e []) (hs : a.eval s = .slice (some ⟨g, 0, none⟩) 0 cap)
    (b m c : Nat) (ys : List Int) (hx : a.eval x = .slice (some ⟨b, 0, none⟩) m c) (hm : m = ys.length) (h0 : 0 < m) (hc : ∀ (j : Nat) (y : Int), ys[j]? = some y → w.cell? ⟨b, j, none⟩ = some (.int .i64 y)) (few : m ≤ 1000000)
    (hK : ∀ g' cap' w', Rw w' g' cap' e (ints ys) → Kept (fun k => k = g) w w' → (g' = g ∨ g' = w.heap.size) → wpList Try.prog ops Q rest (a.put o.dst (.slice (some ⟨g', 0, none⟩) m cap')) w') : wpList Try.prog ops Q (o :: rest) a w := by
  refine wpList_plain hgd fun K hK' => ?_
  obtain ⟨g', cap', w', hr, h1, h2, h3⟩ := cl_append T e i0 hT hi hz0 hz1 hz2 w o.type h b m c ys hm h0 hc few
  unfold Oper.wp execOp
  simp only [ho, resolve, invoke, builtin, Sem.run_bind, Sem.run_pure, Result.andThen_ok, List.map_toArray, List.map_cons, List.map_nil, hs, hx, hr]
  exact hK' _ _ (hK g' cap' w' h1 h2 h3)
theorem drewN_drewN (w : World) (a b : Nat) : (w.drewN a).drewN b = w.drewN (a + b) := by simp [World.drewN, Nat.add_assoc]

set_option maxRecDepth 20000 in
theorem clone64_ok (w : World) (b cap n : Nat) (xs : List Int) (hn : n = xs.length) (h0 : 0 < n) (few : n ≤ 1000) (hb : b < w.heap.size) (hx : ∀ (j : Nat) (x : Int), xs[j]? = some x → w.cell? ⟨b, j, none⟩ = some (.int .i64 x)) :
    Calls Try.prog 58 #[.slice (some ⟨b, 0, none⟩) n cap] w fun e w' => ∃ g' cap', e = .returned (.slice (some ⟨g', 0, none⟩) n cap') ∧ Rw w' g' cap' 2 (ints xs) ∧ w.heap.size ≤ g' ∧ Below w.heap.size w w' := by
  obtain ⟨i0, hi, hz0, hz1, hz2⟩ := info_parts info_x
  have he : Rw (w.alloc (.cells #[] 2)) w.heap.size 0 2 [] := Rw.of (Blk.new w 2 []) (Nat.zero_le _)
  have hx2 : ∀ (j : Nat) (x : Int), xs[j]? = some x → (w.alloc (.cells #[] 2)).cell? ⟨b, j, none⟩ = some (.int .i64 x) := fun j x hj => (World.cell?_alloc_past _ _ _ (by simpa using hb)).trans (hx j x hj)
  have HE := Lib.hid he
  have HX := Lib.hid hx2
  have hbe : Below w.heap.size w (w.alloc (.cells #[] 2)) := (Below.refl _ w).alloc (Nat.le_refl _) _
  have HBE := Lib.hid hbe
  have HN := Lib.hid hn
  clear he hx hx2 hbe hn
  have hE : ∀ W : World, Sem.run Try.prog (binOp .eql 22 (.slice (some ⟨b, 0, none⟩) n cap) (.slice none 0 0)) W = .ok (.bool false) W := fun _ => by first | rfl | kernel_rfl
  go_enter Try.func58, Try.ntmps58
  go_wp2_with (at_builtin; go_loud (refine wpList_append_cl 22 2 i0 Try.underlying22 hi hz0 hz1 hz2 _ rfl (.tmp 5) (.tmp 6) rfl HE.out rfl b n cap xs rfl HN.out h0 HX.out (by omega) ?_); intro g' cap' w1 h1 hk1 hw1)
  go_ret
  refine ⟨g', cap', rfl, h1, ?_, HBE.out.trans (hk1.below HBE.out.size (fun k e => by omega))⟩
  rcases hw1 with e | e
  · omega
  · rw [e, World.size_alloc]; omega

set_option maxRecDepth 20000 in
theorem clonei_ok (w : World) (b cap n : Nat) (xs : List Int) (hn : n = xs.length) (h0 : 0 < n) (few : n ≤ 1000) (hb : b < w.heap.size) (hx : ∀ (j : Nat) (x : Int), xs[j]? = some x → w.cell? ⟨b, j, none⟩ = some (.int .i64 x)) :
    Calls Try.prog 59 #[.slice (some ⟨b, 0, none⟩) n cap] w fun e w' => ∃ g' cap', e = .returned (.slice (some ⟨g', 0, none⟩) n cap') ∧ Rw w' g' cap' 3 (ints xs) ∧ w.heap.size ≤ g' ∧ Below w.heap.size w w' := by
  obtain ⟨i0, hi, hz0, hz1, hz2⟩ := info_parts info_i
  have he : Rw (w.alloc (.cells #[] 3)) w.heap.size 0 3 [] := Rw.of (Blk.new w 3 []) (Nat.zero_le _)
  have hx2 : ∀ (j : Nat) (x : Int), xs[j]? = some x → (w.alloc (.cells #[] 3)).cell? ⟨b, j, none⟩ = some (.int .i64 x) := fun j x hj => (World.cell?_alloc_past _ _ _ (by simpa using hb)).trans (hx j x hj)
  have HE := Lib.hid he
  have HX := Lib.hid hx2
  have hbe : Below w.heap.size w (w.alloc (.cells #[] 3)) := (Below.refl _ w).alloc (Nat.le_refl _) _
  have HBE := Lib.hid hbe
  have HN := Lib.hid hn
  clear he hx hx2 hbe hn
  have hE : ∀ W : World, Sem.run Try.prog (binOp .eql 49 (.slice (some ⟨b, 0, none⟩) n cap) (.slice none 0 0)) W = .ok (.bool false) W := fun _ => by first | rfl | kernel_rfl
  go_enter Try.func59, Try.ntmps59
  go_wp2_with (at_builtin; go_loud (refine wpList_append_cl 49 3 i0 Try.underlying49 hi hz0 hz1 hz2 _ rfl (.tmp 5) (.tmp 6) rfl HE.out rfl b n cap xs rfl HN.out h0 HX.out (by omega) ?_); intro g' cap' w1 h1 hk1 hw1)
  go_ret
  refine ⟨g', cap', rfl, h1, ?_, HBE.out.trans (hk1.below HBE.out.size (fun k e => by omega))⟩
  rcases hw1 with e | e
  · omega
  · rw [e, World.size_alloc]; omega

set_option maxRecDepth 20000 in
set_option maxHeartbeats 1000000 in
theorem equal64_ok (w : World) (A B : Option Addr) (ca cb n m : Nat) (xs ys : List Int) (hn : n = xs.length) (hm : m = ys.length) (few : n ≤ 1000) (ha : SvC w A xs) (hb : SvC w B ys) (v : Bool) (hv : decide (xs = ys) = v) :
    Calls Try.prog 60 #[.slice A n ca, .slice B m cb] w fun e w' => e = .returned (.bool v) ∧ ∃ q, w' = w.drewN q := by
  by_cases hnm : n = m
  · have HA := Lib.hid ha
    have HB := Lib.hid hb
    have HV := Lib.hid hv
    have HN := Lib.hid hn
    have HM := Lib.hid hm
    have e1 : ((n : Int) != (n : Int)) = false := by simp
    subst hnm
    clear ha hb hv hn hm
    go_enter Try.func60, Try.ntmps60
    go_wp2_with fail
    go_loopw [13] (fun i wr => ∃ k : Nat, k ≤ n ∧ i = .int .i64 k ∧ Hid (∀ j, j < k → xs[j]? = ys[j]?) ∧ Hid (∃ q, wr = w.drewN q)) (fun i _ => n - (intOf i).toNat)
    case atStart => exact ⟨0, Nat.zero_le _, rfl, Lib.hid (fun j h => by omega), Lib.hid ⟨0, rfl⟩⟩
    case round =>
      clear e1
      obtain ⟨k, hk, rfl, HS, HW⟩ := hrel
      by_cases hlt : k < n
      · have hki : (k : Int) < (n : Int) := by omega
        obtain ⟨x, hx⟩ : ∃ x, xs[k]? = some x := ⟨xs[k]'(by have := HN.out; omega), by simp [show k < xs.length by have := HN.out; omega]⟩
        obtain ⟨y, hy⟩ : ∃ y, ys[k]? = some y := ⟨ys[k]'(by have := HM.out; omega), by simp [show k < ys.length by have := HM.out; omega]⟩
        obtain ⟨a, rfl, _, hca⟩ := HA.out (by have := HN.out; omega)
        obtain ⟨b, rfl, _, hcb⟩ := HB.out (by have := HM.out; omega)
        have cx : wr.cell? ⟨a, k, none⟩ = some (.int .i64 x) := by
          obtain ⟨q, rfl⟩ := HW.out
          exact hca k x hx
        have cy : wr.cell? ⟨b, k, none⟩ = some (.int .i64 y) := by
          obtain ⟨q, rfl⟩ := HW.out
          exact hcb k y hy
        have HX := Lib.hid hx
        have HY := Lib.hid hy
        clear hx hy hca hcb
        by_cases hxy : x = y
        · have d1 : (x != y) = false := by simp [hxy]
          have HXY := Lib.hid hxy
          clear hxy
          go_upto_region 6 with fail
          go_quiet (fail)
          clear cx cy
          go_wp2_with fail
          go_roundw
          case rel =>
            refine ⟨k + 1, by omega, by go_num, Lib.hid (fun j hj => ?_), Lib.hid ?_⟩
            · by_cases e : j = k
              · subst e; rw [HX.out, HY.out, HXY.out]
              · exact HS.out j (by omega)
            · obtain ⟨q, hq⟩ := HW.out
              rw [hq]
              exact ⟨_, (drewN_drewN _ _ _)⟩
          case measure => simp [intOf]; omega
        · have d1 : (x != y) = true := by simp [hxy]
          have hvf : v = false := by
            rw [← HV.out, decide_eq_false_iff_not]
            intro e
            have h1 := HX.out
            rw [e, HY.out] at h1
            exact hxy (Option.some.inj h1).symm
          subst hvf
          clear hxy
          go_upto_region 6 with fail
          go_quiet (fail)
          clear cx cy
          go_wp2_with fail
          go_ret
          refine ⟨rfl, ?_⟩
          obtain ⟨q, hq⟩ := HW.out
          rw [hq]
          exact ⟨_, (drewN_drewN _ _ _)⟩
      · obtain rfl : k = n := by omega
        have hvt : v = true := by
          rw [← HV.out, decide_eq_true_eq]
          apply List.ext_getElem?
          intro j
          by_cases hj : j < k
          · exact HS.out j hj
          · rw [List.getElem?_eq_none (by have := HN.out; omega), List.getElem?_eq_none (by have := HM.out; omega)]
        subst hvt
        go_wp2_with fail
        go_ret
        exact ⟨rfl, HW.out⟩
  · have hvf : v = false := by
      rw [← hv, decide_eq_false_iff_not]
      intro e
      exact hnm (by rw [hn, hm, e])
    subst hvf
    have e1 : ((n : Int) != (m : Int)) = true := by simp; omega
    clear ha hb hv hn hm
    go_enter Try.func60, Try.ntmps60
    go_wp2_with fail
    go_ret
    exact ⟨rfl, 0, rfl⟩

set_option maxRecDepth 20000 in
set_option maxHeartbeats 1000000 in
theorem equali_ok (w : World) (A B : Option Addr) (ca cb n m : Nat) (xs ys : List Int) (hn : n = xs.length) (hm : m = ys.length) (few : n ≤ 1000) (ha : SvC w A xs) (hb : SvC w B ys) (v : Bool) (hv : decide (xs = ys) = v) :
    Calls Try.prog 61 #[.slice A n ca, .slice B m cb] w fun e w' => e = .returned (.bool v) ∧ ∃ q, w' = w.drewN q := by
  by_cases hnm : n = m
  · have HA := Lib.hid ha
    have HB := Lib.hid hb
    have HV := Lib.hid hv
    have HN := Lib.hid hn
    have HM := Lib.hid hm
    have e1 : ((n : Int) != (n : Int)) = false := by simp
    subst hnm
    clear ha hb hv hn hm
    go_enter Try.func61, Try.ntmps61
    go_wp2_with fail
    go_loopw [13] (fun i wr => ∃ k : Nat, k ≤ n ∧ i = .int .i64 k ∧ Hid (∀ j, j < k → xs[j]? = ys[j]?) ∧ Hid (∃ q, wr = w.drewN q)) (fun i _ => n - (intOf i).toNat)
    case atStart => exact ⟨0, Nat.zero_le _, rfl, Lib.hid (fun j h => by omega), Lib.hid ⟨0, rfl⟩⟩
    case round =>
      clear e1
      obtain ⟨k, hk, rfl, HS, HW⟩ := hrel
      by_cases hlt : k < n
      · have hki : (k : Int) < (n : Int) := by omega
        obtain ⟨x, hx⟩ : ∃ x, xs[k]? = some x := ⟨xs[k]'(by have := HN.out; omega), by simp [show k < xs.length by have := HN.out; omega]⟩
        obtain ⟨y, hy⟩ : ∃ y, ys[k]? = some y := ⟨ys[k]'(by have := HM.out; omega), by simp [show k < ys.length by have := HM.out; omega]⟩
        obtain ⟨a, rfl, _, hca⟩ := HA.out (by have := HN.out; omega)
        obtain ⟨b, rfl, _, hcb⟩ := HB.out (by have := HM.out; omega)
        have cx : wr.cell? ⟨a, k, none⟩ = some (.int .i64 x) := by
          obtain ⟨q, rfl⟩ := HW.out
          exact hca k x hx
        have cy : wr.cell? ⟨b, k, none⟩ = some (.int .i64 y) := by
          obtain ⟨q, rfl⟩ := HW.out
          exact hcb k y hy
        have HX := Lib.hid hx
        have HY := Lib.hid hy
        clear hx hy hca hcb
        by_cases hxy : x = y
        · have d1 : (x != y) = false := by simp [hxy]
          have HXY := Lib.hid hxy
          clear hxy
          go_upto_region 6 with fail
          go_quiet (fail)
          clear cx cy
          go_wp2_with fail
          go_roundw
          case rel =>
            refine ⟨k + 1, by omega, by go_num, Lib.hid (fun j hj => ?_), Lib.hid ?_⟩
            · by_cases e : j = k
              · subst e; rw [HX.out, HY.out, HXY.out]
              · exact HS.out j (by omega)
            · obtain ⟨q, hq⟩ := HW.out
              rw [hq]
              exact ⟨_, (drewN_drewN _ _ _)⟩
          case measure => simp [intOf]; omega
        · have d1 : (x != y) = true := by simp [hxy]
          have hvf : v = false := by
            rw [← HV.out, decide_eq_false_iff_not]
            intro e
            have h1 := HX.out
            rw [e, HY.out] at h1
            exact hxy (Option.some.inj h1).symm
          subst hvf
          clear hxy
          go_upto_region 6 with fail
          go_quiet (fail)
          clear cx cy
          go_wp2_with fail
          go_ret
          refine ⟨rfl, ?_⟩
          obtain ⟨q, hq⟩ := HW.out
          rw [hq]
          exact ⟨_, (drewN_drewN _ _ _)⟩
      · obtain rfl : k = n := by omega
        have hvt : v = true := by
          rw [← HV.out, decide_eq_true_eq]
          apply List.ext_getElem?
          intro j
          by_cases hj : j < k
          · exact HS.out j hj
          · rw [List.getElem?_eq_none (by have := HN.out; omega), List.getElem?_eq_none (by have := HM.out; omega)]
        subst hvt
        go_wp2_with fail
        go_ret
        exact ⟨rfl, HW.out⟩
  · have hvf : v = false := by
      rw [← hv, decide_eq_false_iff_not]
      intro e
      exact hnm (by rw [hn, hm, e])
    subst hvf
    have e1 : ((n : Int) != (m : Int)) = true := by simp; omega
    clear ha hb hv hn hm
    go_enter Try.func61, Try.ntmps61
    go_wp2_with fail
    go_ret
    exact ⟨rfl, 0, rfl⟩
end Go.Proofs.Ytelphbfdibfmoaa
