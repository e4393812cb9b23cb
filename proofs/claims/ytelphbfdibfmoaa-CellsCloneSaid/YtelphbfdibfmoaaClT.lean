/-
  WHAT IS PROVED HERE: contracts of a machine's Clone and of cells.Same; of the methods of a machine that is nil. Conditions: the machines have sixteen cells and four callers.
-/
import Derived.Test.YtelphbfdibfmoaaClS
namespace Go.Proofs.Ytelphbfdibfmoaa
open Go.RowKit

theorem cl_keep {w : World} {p : Addr} {v : Value} (h : w.cell? p = some v) (o : Obj) : (w.alloc o).cell? p = some v := by
  by_cases hp : p.block < w.heap.size
  · exact (((Below.refl w.heap.size w).alloc (Nat.le_refl _) o).cell (p := p) hp).trans h
  · have hn : w.heap[p.block]? = none := Array.getElem?_eq_none (by omega)
    unfold World.cell? at h
    rw [hn] at h
    simp at h
theorem cl_keep3 {w : World} {p q r : Addr} {v u t : Value} (h : w.cell? p = some v ∧ w.cell? q = some u ∧ w.cell? r = some t) (o : Obj) : (w.alloc o).cell? p = some v ∧ (w.alloc o).cell? q = some u ∧ (w.alloc o).cell? r = some t := ⟨cl_keep h.1 o, cl_keep h.2.1 o, cl_keep h.2.2 o⟩
/-- What is read of a machine with cells. -/
theorem MachC.reads {w : World} {mb : MB} {st : MS} (h : MachCP w mb st) (hs : LeaveSt st) : ∃ cap sc, (w.cell? ⟨mb.p, 0, none⟩ = some (.slice (some ⟨mb.c, 0, none⟩) 16 cap) ∧ w.cell? ⟨mb.p, 1, none⟩ = some (.int .i64 16) ∧ w.cell? ⟨mb.p, 2, none⟩ = some (.slice (some ⟨mb.s, 0, none⟩) 4 sc)) ∧
    (∀ (j : Nat) (x : Int), st.cells[j]? = some x → w.cell? ⟨mb.c, j, none⟩ = some (.int .i64 x)) ∧ ∀ (j : Nat) (x : Int), st.steps[j]? = some x → w.cell? ⟨mb.s, j, none⟩ = some (.int .i64 x) := by
  obtain ⟨A, cap, sc, h0, h1, h2, hA, hl, hcap, hn⟩ := h.fields
  obtain rfl := hA (by intro e; have := hs.2.1; rw [e] at this; simp at this)
  rw [hs.2.1] at h0
  rw [hs.2.2] at h1
  rw [hs.1] at h2
  refine ⟨cap, sc, ⟨h0, h1, h2⟩, fun j x hj => ?_, fun j x hj => ?_⟩
  · have hjl := (List.getElem?_eq_some_iff.1 hj).1
    rw [h.cellAt j hjl, hj]; rfl
  · have hjl := (List.getElem?_eq_some_iff.1 hj).1
    rw [h.stepAt j hjl, hj]; rfl
set_option maxRecDepth 20000 in
set_option maxHeartbeats 1000000 in
theorem mclone_ok (mb : MB) (st : MS) (w : World) (hm : MachCP w mb st) (hs : LeaveSt st) :
    Calls Try.prog 45 #[.pointer (some ⟨mb.p, 0, none⟩)] w fun e w' => ∃ nb : MB, e = .returned (.pointer (some ⟨nb.p, 0, none⟩)) ∧ MachCP w' nb st ∧ nb.from_ w.heap.size ∧ Below w.heap.size w w' := by
  obtain ⟨cap, sc, h0, hc, hq⟩ := hm.reads hs
  have hlp := hm.lt _ (.inl rfl)
  have hlc := hm.lt _ (.inr (.inl rfl))
  have hls := hm.lt _ (.inr (.inr rfl))
  obtain ⟨p, c, s⟩ := mb
  simp only at h0 hc hq hlp hlc hls
  have HC : Hid (∀ (j : Nat) (x : Int), st.cells[j]? = some x → w.drew.cell? ⟨c, j, none⟩ = some (.int .i64 x)) := Lib.hid hc
  have HQ : Hid (∀ (j : Nat) (x : Int), st.steps[j]? = some x → w.drew.cell? ⟨s, j, none⟩ = some (.int .i64 x)) := Lib.hid hq
  have HS := Lib.hid hs
  have cd : w.drew.cell? ⟨p, 0, none⟩ = some (.slice (some ⟨c, 0, none⟩) 16 cap) ∧ w.drew.cell? ⟨p, 1, none⟩ = some (.int .i64 16) ∧ w.drew.cell? ⟨p, 2, none⟩ = some (.slice (some ⟨s, 0, none⟩) 4 sc) := h0
  clear hm hs hc hq h0
  go_enter Try.func45, Try.ntmps45
  go_upto_region 3 with fail
  go_region_held3 (fun w' => w'.cell? ⟨p, 0, none⟩ = some (.slice (some ⟨c, 0, none⟩) 16 cap) ∧ w'.cell? ⟨p, 1, none⟩ = some (.int .i64 16) ∧ w'.cell? ⟨p, 2, none⟩ = some (.slice (some ⟨s, 0, none⟩) 4 sc)) (first | exact cd | exact c2 | exact c3 | exact cl_keep3 c3 _) (first
    | (go_at_call 58; refine (clone64_ok w.drew c cap 16 st.cells HS.out.2.1.symm (by omega) (by omega) hlc HC.out).mono ?_; rintro e w2 ⟨g2, k2, rfl, hr2, hg2, hb2⟩; have c2 : w2.cell? ⟨p, 0, none⟩ = some (.slice (some ⟨c, 0, none⟩) 16 cap) ∧ w2.cell? ⟨p, 1, none⟩ = some (.int .i64 16) ∧ w2.cell? ⟨p, 2, none⟩ = some (.slice (some ⟨s, 0, none⟩) 4 sc) := ⟨(hb2.cell (p := ⟨p, 0, none⟩) hlp).trans cd.1, (hb2.cell (p := ⟨p, 1, none⟩) hlp).trans cd.2.1, (hb2.cell (p := ⟨p, 2, none⟩) hlp).trans cd.2.2⟩; have HR2 := Lib.hid hr2; have HB2 := Lib.hid hb2; have hs2 := hb2.size; clear hr2 hb2)
    | (go_at_call 59; refine (clonei_ok w2 s sc 4 st.steps HS.out.1.symm (by omega) (by omega) (Nat.lt_of_lt_of_le hls HB2.out.size) (fun j x hj => (HB2.out.cell (p := ⟨s, j, none⟩) hls).trans (HQ.out j x hj))).mono ?_; rintro e w3 ⟨g3, k3, rfl, hr3, hg3, hb3⟩; have c3 : w3.cell? ⟨p, 0, none⟩ = some (.slice (some ⟨c, 0, none⟩) 16 cap) ∧ w3.cell? ⟨p, 1, none⟩ = some (.int .i64 16) ∧ w3.cell? ⟨p, 2, none⟩ = some (.slice (some ⟨s, 0, none⟩) 4 sc) := ⟨(hb3.cell (p := ⟨p, 0, none⟩) (Nat.lt_of_lt_of_le hlp HB2.out.size)).trans c2.1, (hb3.cell (p := ⟨p, 1, none⟩) (Nat.lt_of_lt_of_le hlp HB2.out.size)).trans c2.2.1, (hb3.cell (p := ⟨p, 2, none⟩) (Nat.lt_of_lt_of_le hlp HB2.out.size)).trans c2.2.2⟩; have HR3 := Lib.hid hr3; have HB3 := Lib.hid hb3; have hs3 := hb3.size; clear hr3 hb3))
  all_goals
    go_wp2_with fail
    go_ret
    have hb0 : Below w.heap.size w w.drew := below_drewN' (Below.refl _ w) 1
    have z0 : w.drew.heap.size = w.heap.size := rfl
    rw [z0] at hg2 hs2
    have hlt2 := HR2.out.lt
    have hlt3 := HR3.out.lt
    have hr2 := HR2.out.below HB3.out hlt2
    obtain ⟨r2, hk2, hl2, hm2⟩ := hr2.alloc (.cells #[.slice (some ⟨g2, 0, none⟩) 16 k2, .int .i64 16, .slice (some ⟨g3, 0, none⟩) 4 k3] 95)
    obtain ⟨r3, hk3, hl3, hm3⟩ := HR3.out.alloc (.cells #[.slice (some ⟨g2, 0, none⟩) 16 k2, .int .i64 16, .slice (some ⟨g3, 0, none⟩) 4 k3] 95)
    rw [length_ints] at hl2
    refine ⟨⟨w3.heap.size, g2, g3⟩, rfl, ⟨by show w3.heap.size ≠ g3; omega, ⟨r3, hk3⟩, .inr ⟨k2, r2, 4, k3, by show w3.heap.size ≠ g2; omega, by show g3 ≠ g2; omega, ?_, hk2, hl2, hm2, HS.out.1.symm⟩⟩, ⟨by show w.heap.size ≤ w3.heap.size; omega, hg2, by show w.heap.size ≤ g3; omega⟩, ?_⟩
    · rw [HS.out.2.1, HS.out.2.2]
      exact Blk.new w3 95 [.slice (some ⟨g2, 0, none⟩) 16 k2, .int .i64 16, .slice (some ⟨g3, 0, none⟩) 4 k3]
    · exact ((hb0.trans HB2.out).trans (HB3.out.mono (by omega))).alloc (by omega) _
set_option maxRecDepth 20000 in
theorem mclone_nil (w : World) : Calls Try.prog 45 #[.pointer none] w fun e w' => e = .returned (.pointer none) ∧ w = w' := by
  go_enter Try.func45, Try.ntmps45
  go_wp2
  go_ret
  exact ⟨rfl, rfl⟩

/-! ## Same -/
theorem equal64_q (w : World) (a b ca cb n m : Nat) (xs ys : List Int) (hn : n = xs.length) (hm : m = ys.length) (few : n ≤ 1000) (v : Bool) (hv : decide (xs = ys) = v) (q : Nat) (la : a < w.heap.size) (lb : b < w.heap.size)
    (ha : ∀ (j : Nat) (x : Int), xs[j]? = some x → w.cell? ⟨a, j, none⟩ = some (.int .i64 x)) (hb : ∀ (j : Nat) (x : Int), ys[j]? = some x → w.cell? ⟨b, j, none⟩ = some (.int .i64 x)) :
    Calls Try.prog 60 #[.slice (some ⟨a, 0, none⟩) n ca, .slice (some ⟨b, 0, none⟩) m cb] (w.drewN q) fun e w' => e = .returned (.bool v) ∧ ∃ r, w' = w.drewN r :=
  (equal64_ok (w.drewN q) _ _ ca cb n m xs ys hn hm few (fun _ => ⟨a, rfl, la, ha⟩) (fun _ => ⟨b, rfl, lb, hb⟩) v hv).mono fun _ _ ⟨e, r, h⟩ => ⟨e, q + r, by rw [h, drewN_drewN]⟩
theorem equali_q (w : World) (a b ca cb n m : Nat) (xs ys : List Int) (hn : n = xs.length) (hm : m = ys.length) (few : n ≤ 1000) (v : Bool) (hv : decide (xs = ys) = v) (q : Nat) (la : a < w.heap.size) (lb : b < w.heap.size)
    (ha : ∀ (j : Nat) (x : Int), xs[j]? = some x → w.cell? ⟨a, j, none⟩ = some (.int .i64 x)) (hb : ∀ (j : Nat) (x : Int), ys[j]? = some x → w.cell? ⟨b, j, none⟩ = some (.int .i64 x)) :
    Calls Try.prog 61 #[.slice (some ⟨a, 0, none⟩) n ca, .slice (some ⟨b, 0, none⟩) m cb] (w.drewN q) fun e w' => e = .returned (.bool v) ∧ ∃ r, w' = w.drewN r :=
  (equali_ok (w.drewN q) _ _ ca cb n m xs ys hn hm few (fun _ => ⟨a, rfl, la, ha⟩) (fun _ => ⟨b, rfl, lb, hb⟩) v hv).mono fun _ _ ⟨e, r, h⟩ => ⟨e, q + r, by rw [h, drewN_drewN]⟩
set_option maxRecDepth 20000 in
set_option maxHeartbeats 1000000 in
theorem same_ok (mb nb : MB) (st tt : MS) (w : World) (hm : MachCP w mb st) (hn : MachCP w nb tt) (hs : LeaveSt st) (ht : LeaveSt tt) (v : Bool) (hv : (decide (st.cells = tt.cells) && decide (st.steps = tt.steps)) = v) :
    Calls Try.prog 46 #[.pointer (some ⟨mb.p, 0, none⟩), .pointer (some ⟨nb.p, 0, none⟩)] w fun e w' => e = .returned (.bool v) ∧ ∃ q, w' = w.drewN q := by
  obtain ⟨cap, sc, ⟨h0, h1, h2⟩, hc, hq⟩ := hm.reads hs
  obtain ⟨cap', sc', ⟨h0', h1', h2'⟩, hc', hq'⟩ := hn.reads ht
  obtain ⟨v1, hv1⟩ : ∃ v1, decide (st.cells = tt.cells) = v1 := ⟨_, rfl⟩
  obtain ⟨v2, hv2⟩ : ∃ v2, decide (st.steps = tt.steps) = v2 := ⟨_, rfl⟩
  have E1 := Lib.hid (fun q => equal64_q w mb.c nb.c cap cap' 16 16 st.cells tt.cells hs.2.1.symm ht.2.1.symm (by omega) v1 hv1 q (hm.lt _ (.inr (.inl rfl))) (hn.lt _ (.inr (.inl rfl))) hc hc')
  have E2 := Lib.hid (fun q => equali_q w mb.s nb.s sc sc' 4 4 st.steps tt.steps hs.1.symm ht.1.symm (by omega) v2 hv2 q (hm.lt _ (.inr (.inr rfl))) (hn.lt _ (.inr (.inr rfl))) hq hq')
  rw [hv1, hv2] at hv
  clear hm hn hs ht hc hq hc' hq' hv1 hv2
  cases v1 with
  | true =>
    obtain rfl : v2 = v := by simpa using hv
    clear hv
    go_enter Try.func46, Try.ntmps46
    go_upto_region 3 with fail
    go_quiet (first
      | (go_at_call 60; exact E1.out _)
      | (go_at_call 61; exact E2.out _))
    go_wp2_with fail
    go_ret
    exact ⟨rfl, _, rfl⟩
  | false =>
    obtain rfl : false = v := by simpa using hv
    clear hv
    go_enter Try.func46, Try.ntmps46
    go_upto_region 3 with fail
    go_quiet (first
      | (go_at_call 60; exact E1.out _)
      | (go_at_call 61; exact E2.out _))
    go_wp2_with fail
    go_ret
    exact ⟨rfl, _, rfl⟩
set_option maxRecDepth 20000 in
theorem same_nil2 (w : World) : Calls Try.prog 46 #[.pointer none, .pointer none] w fun e w' => e = .returned (.bool true) ∧ w = w' := by
  go_enter Try.func46, Try.ntmps46
  go_wp2
  go_ret
  exact ⟨rfl, rfl⟩
set_option maxRecDepth 20000 in
theorem same_nil1 (p : Nat) (w : World) : Calls Try.prog 46 #[.pointer none, .pointer (some ⟨p, 0, none⟩)] w fun e w' => e = .returned (.bool false) ∧ w = w' := by
  have hE : ∀ W : World, Sem.run Try.prog (binOp .eql 23 (.pointer none) (.pointer (some ⟨p, 0, none⟩))) W = .ok (.bool false) W := fun _ => by first | rfl | kernel_rfl
  go_enter Try.func46, Try.ntmps46
  go_wp2
  go_ret
  exact ⟨rfl, rfl⟩
set_option maxRecDepth 20000 in
theorem same_nil0 (p : Nat) (w : World) : Calls Try.prog 46 #[.pointer (some ⟨p, 0, none⟩), .pointer none] w fun e w' => e = .returned (.bool false) ∧ w = w' := by
  have hE : ∀ W : World, Sem.run Try.prog (binOp .eql 23 (.pointer (some ⟨p, 0, none⟩)) (.pointer none)) W = .ok (.bool false) W := fun _ => by first | rfl | kernel_rfl
  go_enter Try.func46, Try.ntmps46
  go_wp2
  go_ret
  exact ⟨rfl, rfl⟩

/-! ## A machine that is none -/
set_option maxRecDepth 20000 in
theorem load_nil (i at_ : Int) (w : World) : Calls Try.prog 18 #[.pointer none, .int .i64 i, .int .i64 at_] w fun e w' => e = .returned (.tuple #[.int .i64 0, .int .i64 2]) ∧ w = w' := by
  go_enter Try.func18, Try.ntmps18
  go_wp2
  go_ret2
  exact ⟨rfl, rfl⟩
set_option maxRecDepth 20000 in
theorem store_nil (i at_ x : Int) (w : World) : Calls Try.prog 19 #[.pointer none, .int .i64 i, .int .i64 at_, .int .i64 x] w fun e w' => e = .returned (.int .i64 2) ∧ w = w' := by
  go_enter Try.func19, Try.ntmps19
  go_wp2
  go_ret
  exact ⟨rfl, rfl⟩
set_option maxRecDepth 20000 in
theorem cas_nil (i at_ x y : Int) (w : World) : Calls Try.prog 26 #[.pointer none, .int .i64 i, .int .i64 at_, .int .i64 x, .int .i64 y] w fun e w' => e = .returned (.tuple #[.bool false, .int .i64 2]) ∧ w = w' := by
  go_enter Try.func26, Try.ntmps26
  go_wp2
  go_ret2
  exact ⟨rfl, rfl⟩
set_option maxRecDepth 20000 in
theorem add_nil (i at_ b : Int) (w : World) : Calls Try.prog 16 #[.pointer none, .int .i64 i, .int .i64 at_, .int .i64 b] w fun e w' => e = .returned (.tuple #[.int .i64 0, .int .i64 2]) ∧ Below w.heap.size w w' := by
  go_enter_defers Try.func16, Try.ntmps16
  go_wp2
  exact ⟨_, results_tmp2 (t := 8) (u := 9) rfl _ _ _, rfl, (((Below.refl _ w).alloc (Nat.le_refl _) _).alloc (by simp) _).alloc (by simp; omega) _⟩
set_option maxRecDepth 20000 in
theorem alloc_nil (i n : Int) (w : World) : Calls Try.prog 24 #[.pointer none, .int .i64 i, .int .i64 n] w fun e w' => e = .returned (.tuple #[.int .i64 0, .int .i64 2]) ∧ w = w' := by
  go_enter Try.func24, Try.ntmps24
  go_wp2
  go_ret2
  exact ⟨rfl, rfl⟩
set_option maxRecDepth 20000 in
theorem steps_nil (i : Int) (w : World) : Calls Try.prog 23 #[.pointer none, .int .i64 i] w fun e w' => e = .returned (.int .i64 0) ∧ w = w' := by
  go_enter Try.func23, Try.ntmps23
  go_wp2
  go_ret
  exact ⟨rfl, rfl⟩
set_option maxRecDepth 20000 in
theorem used_nil (w : World) : Calls Try.prog 22 #[.pointer none] w fun e w' => e = .returned (.int .i64 0) ∧ w = w' := by
  go_enter Try.func22, Try.ntmps22
  go_wp2
  go_ret
  exact ⟨rfl, rfl⟩
set_option maxRecDepth 20000 in
theorem peek_nil (i : Int) (w : World) : Calls Try.prog 17 #[.pointer none, .int .i64 i] w fun e w' => e = .returned (.int .i64 0) ∧ w = w' := by
  go_enter Try.func17, Try.ntmps17
  go_wp2
  go_ret
  exact ⟨rfl, rfl⟩
end Go.Proofs.Ytelphbfdibfmoaa
