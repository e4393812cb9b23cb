/-
  WHAT IS PROVED HERE: contracts of package future's functions for the future whose cells are 0, 1 and 2 of a machine that has them. Conditions: the pointer is a machine's ('Mach'), the caller may call.
-/
import Derived.Test.YtkdpckoneohjkaaMs
import Derived.StillTailTactics
import Derived.Deep.RegionHeld3
namespace Go.Proofs.Ytkdpckoneohjkaa
open Go.RowKit

theorem boxF (w : World) (a : Int) : ∀ j, (w.alloc (.cells #[.int .i64 a] 30)).cell? ⟨w.heap.size, j, none⟩ = [Value.int .i64 a][j]? := (Blk.new w 30 [.int .i64 a]).cell

theorem store_v (mb : MB) (st : MS) (i at_ x : Int) (w : World) (hm : MachP w mb st) (g1 : st.isCaller i = true) (g2 : st.isGiven at_ = true) :
    Calls Try.prog 54 #[.pointer (some ⟨mb.p, 0, none⟩), .int .i64 i, .int .i64 at_, .int .i64 x] w fun e w' =>
      e = .returned (.int .i64 0) ∧ MachP w' mb ((st.did i).putAt at_ x) ∧ Kept mb.has w w' := store_ok mb st i at_ x w hm g1 g2

set_option maxHeartbeats 1000000 in
theorem fut_new (mb : MB) (st : MS) (i : Int) (w : World) (hm : MachP w mb st) (g1 : st.isCaller i = true) (g3 : (st.cells.length : Int) + 3 ≤ st.size) (g4 : st.size ≤ 1048576) :
    Calls Try.prog 13 #[.pointer (some ⟨mb.p, 0, none⟩), .int .i64 i] w fun e w' =>
      e = .returned (.tuple #[.agg #[.int .i64 st.cells.length], .int .i64 0]) ∧ Kept mb.has w w' ∧ ∃ c, w.heap.size ≤ c ∧ MachP w' ⟨mb.p, c, mb.s⟩ ((st.did i).more 3) := by
  have hm1 := hm.alloc (.cells #[.int .i64 0] 30)
  have hk1 := (Kept.refl mb.has w).alloc (.cells #[.int .i64 0] 30)
  have hlt := hm.lt
  have q1 : Blk (w.alloc (.cells #[.int .i64 0] 30)) w.heap.size 30 [.int .i64 0] := Blk.new w _ _
  have HL := Lib.hid hlt
  have G3 := Lib.hid g3
  have G4 := Lib.hid g4
  clear hlt g3 g4
  go_enter Try.func13, Try.ntmps13
  go_wp2_with fail
  refine (alloc_okI mb st i 3 _ hm1 g1 (by omega) G3.out G4.out).mono ?_
  rintro e w2 ⟨rfl, hk2, c, hc, hm2⟩
  have q2 := q1.kept hk2 (fun h => by have := HL.out _ h; omega)
  have x2 := q2.cell
  have f2 := q2.frozen
  rw [World.size_alloc] at hc
  have hz : w.heap.size < w2.heap.size := q2.lt
  have hne : ¬ (⟨mb.p, c, mb.s⟩ : MB).has w.heap.size := by
    rintro (h | h | h)
    · have := HL.out mb.p (.inl rfl); simp only at h; omega
    · simp only at h; omega
    · have := HL.out mb.s (.inr (.inr rfl)); simp only at h; omega
  clear hm1
  go_wp2
  have q3 := q2.set 0 (.int .i64 st.cells.length)
  have x3 := q3.cell
  refine bodyPost_ret (v := .tuple #[.agg #[.int .i64 st.cells.length], .int .i64 0]) (by simp [results, Try.results13, go_sem, x3]) rfl ⟨rfl, (hk1.trans hk2 (fun _ _ h => h)).setCell (.inr (Nat.le_refl _)) _, c, by omega, hm2.setOther hne _⟩

section
variable (mb : MB) (st : MS) (i v : Int) (w : World)
theorem fut_state (hm : MachP w mb st) (g1 : st.isCaller i = true) (g2 : st.isGiven 0 = true) (hv : st.cellOf 0 = v) :
    Calls Try.prog 18 #[.agg #[.int .i64 0], .pointer (some ⟨mb.p, 0, none⟩), .int .i64 i] w fun e w' =>
      e = .returned (.tuple #[.int .i64 v, .int .i64 0]) ∧ MachP w' mb (st.did i) ∧ Kept mb.has w w' := by
  have hx := boxF w 0
  have hm1 := hm.alloc (.cells #[.int .i64 0] 30)
  have hk1 := (Kept.refl mb.has w).alloc (.cells #[.int .i64 0] 30)
  have HV := Lib.hid hv
  clear hv
  go_enter Try.func18, Try.ntmps18
  go_wp2_with fail
  refine (load_v mb st i 0 v _ hm1 g1 g2 HV.out).mono ?_
  rintro e w2 ⟨rfl, hm2, hk2⟩
  clear hx
  go_wp2
  go_ret2
  exact ⟨rfl, hm2, hk1.trans hk2 (fun _ _ h => h)⟩
theorem fut_value (hm : MachP w mb st) (g1 : st.isCaller i = true) (g2 : st.isGiven 1 = true) (hv : st.cellOf 1 = v) :
    Calls Try.prog 19 #[.agg #[.int .i64 0], .pointer (some ⟨mb.p, 0, none⟩), .int .i64 i] w fun e w' =>
      e = .returned (.tuple #[.int .i64 v, .int .i64 0]) ∧ MachP w' mb (st.did i) ∧ Kept mb.has w w' := by
  have hx := boxF w 0
  have hm1 := hm.alloc (.cells #[.int .i64 0] 30)
  have hk1 := (Kept.refl mb.has w).alloc (.cells #[.int .i64 0] 30)
  have HV := Lib.hid hv
  clear hv
  go_enter Try.func19, Try.ntmps19
  go_wp2_with fail
  refine (load_v mb st i 1 v _ hm1 g1 g2 HV.out).mono ?_
  rintro e w2 ⟨rfl, hm2, hk2⟩
  clear hx
  go_wp2
  go_ret2
  exact ⟨rfl, hm2, hk1.trans hk2 (fun _ _ h => h)⟩
theorem fut_waiters (hm : MachP w mb st) (g1 : st.isCaller i = true) (g2 : st.isGiven 2 = true) (hv : st.cellOf 2 = v) :
    Calls Try.prog 21 #[.agg #[.int .i64 0], .pointer (some ⟨mb.p, 0, none⟩), .int .i64 i] w fun e w' =>
      e = .returned (.tuple #[.int .i64 v, .int .i64 0]) ∧ MachP w' mb (st.did i) ∧ Kept mb.has w w' := by
  have hx := boxF w 0
  have hm1 := hm.alloc (.cells #[.int .i64 0] 30)
  have hk1 := (Kept.refl mb.has w).alloc (.cells #[.int .i64 0] 30)
  have HV := Lib.hid hv
  clear hv
  go_enter Try.func21, Try.ntmps21
  go_wp2_with fail
  refine (load_v mb st i 2 v _ hm1 g1 g2 HV.out).mono ?_
  rintro e w2 ⟨rfl, hm2, hk2⟩
  clear hx
  go_wp2
  go_ret2
  exact ⟨rfl, hm2, hk1.trans hk2 (fun _ _ h => h)⟩
theorem fut_put (hm : MachP w mb st) (g1 : st.isCaller i = true) (g2 : st.isGiven 1 = true) :
    Calls Try.prog 16 #[.agg #[.int .i64 0], .pointer (some ⟨mb.p, 0, none⟩), .int .i64 i, .int .i64 v] w fun e w' =>
      e = .returned (.int .i64 0) ∧ MachP w' mb ((st.did i).putAt 1 v) ∧ Kept mb.has w w' := by
  have hx := boxF w 0
  have hm1 := hm.alloc (.cells #[.int .i64 0] 30)
  have hk1 := (Kept.refl mb.has w).alloc (.cells #[.int .i64 0] 30)
  go_enter Try.func16, Try.ntmps16
  go_wp2_with fail
  refine (store_v mb st i 1 v _ hm1 g1 g2).mono ?_
  rintro e w2 ⟨rfl, hm2, hk2⟩
  clear hx
  go_wp2
  go_ret
  exact ⟨rfl, hm2, hk1.trans hk2 (fun _ _ h => h)⟩
theorem fut_claim_hit (hm : MachP w mb st) (g1 : st.isCaller i = true) (g2 : st.isGiven 0 = true) (hv : st.cellOf 0 = 0) :
    Calls Try.prog 15 #[.agg #[.int .i64 0], .pointer (some ⟨mb.p, 0, none⟩), .int .i64 i] w fun e w' =>
      e = .returned (.tuple #[.bool true, .int .i64 0]) ∧ MachP w' mb ((st.did i).putAt 0 1) ∧ Kept mb.has w w' := by
  have hx := boxF w 0
  have hm1 := hm.alloc (.cells #[.int .i64 0] 30)
  have hk1 := (Kept.refl mb.has w).alloc (.cells #[.int .i64 0] 30)
  have HV := Lib.hid hv
  clear hv
  go_enter Try.func15, Try.ntmps15
  go_wp2_with fail
  refine (cas_hit mb st i 0 0 1 _ hm1 g1 g2 HV.out).mono ?_
  rintro e w2 ⟨rfl, hm2, hk2⟩
  clear hx
  go_wp2
  go_ret2
  exact ⟨rfl, hm2, hk1.trans hk2 (fun _ _ h => h)⟩
theorem fut_claim_miss (hm : MachP w mb st) (g1 : st.isCaller i = true) (g2 : st.isGiven 0 = true) (hv : ¬ st.cellOf 0 = 0) :
    Calls Try.prog 15 #[.agg #[.int .i64 0], .pointer (some ⟨mb.p, 0, none⟩), .int .i64 i] w fun e w' =>
      e = .returned (.tuple #[.bool false, .int .i64 0]) ∧ MachP w' mb (st.did i) ∧ Kept mb.has w w' := by
  have hx := boxF w 0
  have hm1 := hm.alloc (.cells #[.int .i64 0] 30)
  have hk1 := (Kept.refl mb.has w).alloc (.cells #[.int .i64 0] 30)
  have HV := Lib.hid hv
  clear hv
  go_enter Try.func15, Try.ntmps15
  go_wp2_with fail
  refine (cas_miss mb st i 0 0 1 _ hm1 g1 g2 HV.out).mono ?_
  rintro e w2 ⟨rfl, hm2, hk2⟩
  clear hx
  go_wp2
  go_ret2
  exact ⟨rfl, hm2, hk1.trans hk2 (fun _ _ h => h)⟩
theorem fut_end_hit (hm : MachP w mb st) (g1 : st.isCaller i = true) (g2 : st.isGiven 0 = true) (hv : st.cellOf 0 = 1) (h2 : 2 ≤ v) (h4 : v ≤ 4) :
    Calls Try.prog 17 #[.agg #[.int .i64 0], .pointer (some ⟨mb.p, 0, none⟩), .int .i64 i, .int .i64 v] w fun e w' =>
      e = .returned (.tuple #[.bool true, .int .i64 0]) ∧ MachP w' mb ((st.did i).putAt 0 v) ∧ Kept mb.has w w' := by
  have hx := boxF w 0
  have hm1 := hm.alloc (.cells #[.int .i64 0] 30)
  have hk1 := (Kept.refl mb.has w).alloc (.cells #[.int .i64 0] 30)
  have HV := Lib.hid hv
  clear hv
  go_enter Try.func17, Try.ntmps17
  go_wp2_with fail
  refine (cas_hit mb st i 0 1 v _ hm1 g1 g2 HV.out).mono ?_
  rintro e w2 ⟨rfl, hm2, hk2⟩
  clear hx
  go_wp2
  go_ret2
  exact ⟨rfl, hm2, hk1.trans hk2 (fun _ _ h => h)⟩
theorem fut_end_miss (hm : MachP w mb st) (g1 : st.isCaller i = true) (g2 : st.isGiven 0 = true) (hv : ¬ st.cellOf 0 = 1) (h2 : 2 ≤ v) (h4 : v ≤ 4) :
    Calls Try.prog 17 #[.agg #[.int .i64 0], .pointer (some ⟨mb.p, 0, none⟩), .int .i64 i, .int .i64 v] w fun e w' =>
      e = .returned (.tuple #[.bool false, .int .i64 0]) ∧ MachP w' mb (st.did i) ∧ Kept mb.has w w' := by
  have hx := boxF w 0
  have hm1 := hm.alloc (.cells #[.int .i64 0] 30)
  have hk1 := (Kept.refl mb.has w).alloc (.cells #[.int .i64 0] 30)
  have HV := Lib.hid hv
  clear hv
  go_enter Try.func17, Try.ntmps17
  go_wp2_with fail
  refine (cas_miss mb st i 0 1 v _ hm1 g1 g2 HV.out).mono ?_
  rintro e w2 ⟨rfl, hm2, hk2⟩
  clear hx
  go_wp2
  go_ret2
  exact ⟨rfl, hm2, hk1.trans hk2 (fun _ _ h => h)⟩
set_option maxRecDepth 100000 in
set_option maxHeartbeats 400000 in
/-- Wait and Leave: so many times the worker's bit. -/
theorem fut_turn (t : Int) (hm : MachP w mb st) (g1 : st.isCaller i = true) (g2 : st.isGiven 2 = true) (hv : st.cellOf 2 = v) (b : Int) (i0 : 0 ≤ i) (i4 : i ≤ 16) (hb : IntKind.i64.wrap (t * 2 ^ i.toNat) = b) :
    Calls Try.prog 57 #[.agg #[.int .i64 0], .pointer (some ⟨mb.p, 0, none⟩), .int .i64 i, .int .i64 t] w fun e w' =>
      e = .returned (.int .i64 0) ∧ MachP w' mb ((st.did i).putAt 2 (wrap64 (v + b))) ∧ Kept mb.has w w' := by
  have hx := boxF w 0
  have hm1 := hm.alloc (.cells #[.int .i64 0] 30)
  have hk1 := (Kept.refl mb.has w).alloc (.cells #[.int .i64 0] 30)
  have HV := Lib.hid hv
  clear hv
  have i64 : i ≤ 64 := by omega
  go_enter Try.func57, Try.ntmps57
  go_wp2_with fail
  have cx0 := hx 0
  simp only [List.getElem?_cons_zero] at cx0
  have hnb : ¬ mb.has w.heap.size := fun e => by have := hm.lt _ e; omega
  have hzw : w.heap.size < (w.alloc (.cells #[.int .i64 0] 30)).heap.size := by simp
  clear hx
  generalize hw1 : w.alloc (.cells #[.int .i64 0] 30) = w1 at *
  have HW1 := Lib.hid hw1
  clear hw1
  have hmd := hm1.drew
  have cxd : w1.drew.cell? ⟨w.heap.size, 0, none⟩ = some (.int .i64 0) := cx0
  go_region_held3 (fun w' => w'.cell? ⟨w.heap.size, 0, none⟩ = some (.int .i64 0)) (first | exact cxd | exact cx2) (first | (go_at_call 63; refine (add_v mb st i 2 b v _ hmd g1 g2 HV.out).mono ?_; rintro e w2 ⟨rfl, hm2, hk2⟩; have cx2 : w2.cell? ⟨w.heap.size, 0, none⟩ = some (.int .i64 0) := ((hk2.cell (p := ⟨w.heap.size, 0, none⟩) hzw hnb).trans cxd)))
  clear cx0 cxd cx2
  go_wp2
  go_ret
  exact ⟨rfl, hm2, hk1.drew.trans hk2 (fun _ _ h => h)⟩
theorem fut_wait (hm : MachP w mb st) (g1 : st.isCaller i = true) (g2 : st.isGiven 2 = true) (hv : st.cellOf 2 = v) (i0 : 0 ≤ i) (i4 : i ≤ 4) :
    Calls Try.prog 22 #[.agg #[.int .i64 0], .pointer (some ⟨mb.p, 0, none⟩), .int .i64 i] w fun e w' =>
      e = .returned (.int .i64 0) ∧ MachP w' mb ((st.did i).putAt 2 (wrap64 (v + 2 ^ i.toNat))) ∧ Kept mb.has w w' := by
  have hx := boxF w 0
  have hm1 := hm.alloc (.cells #[.int .i64 0] 30)
  have hk1 := (Kept.refl mb.has w).alloc (.cells #[.int .i64 0] 30)
  have HV := Lib.hid hv
  clear hv
  go_enter Try.func22, Try.ntmps22
  go_wp2_with fail
  refine (fut_turn mb st i v _ 1 hm1 g1 g2 HV.out (2 ^ i.toNat) i0 (by omega) (by have : i = 0 ∨ i = 1 ∨ i = 2 ∨ i = 3 ∨ i = 4 := (by omega); rcases this with rfl | rfl | rfl | rfl | rfl <;> rfl)).mono ?_
  rintro e w2 ⟨rfl, hm2, hk2⟩
  clear hx
  go_wp2
  go_ret
  exact ⟨rfl, hm2, hk1.trans hk2 (fun _ _ h => h)⟩
theorem fut_leave (hm : MachP w mb st) (g1 : st.isCaller i = true) (g2 : st.isGiven 2 = true) (hv : st.cellOf 2 = v) (i0 : 0 ≤ i) (i4 : i ≤ 4) :
    Calls Try.prog 23 #[.agg #[.int .i64 0], .pointer (some ⟨mb.p, 0, none⟩), .int .i64 i] w fun e w' =>
      e = .returned (.int .i64 0) ∧ MachP w' mb ((st.did i).putAt 2 (wrap64 (v + -2 ^ i.toNat))) ∧ Kept mb.has w w' := by
  have hx := boxF w 0
  have hm1 := hm.alloc (.cells #[.int .i64 0] 30)
  have hk1 := (Kept.refl mb.has w).alloc (.cells #[.int .i64 0] 30)
  have HV := Lib.hid hv
  clear hv
  go_enter Try.func23, Try.ntmps23
  go_wp2_with fail
  refine (fut_turn mb st i v _ (-1) hm1 g1 g2 HV.out (-2 ^ i.toNat) i0 (by omega) (by have : i = 0 ∨ i = 1 ∨ i = 2 ∨ i = 3 ∨ i = 4 := (by omega); rcases this with rfl | rfl | rfl | rfl | rfl <;> rfl)).mono ?_
  rintro e w2 ⟨rfl, hm2, hk2⟩
  clear hx
  go_wp2
  go_ret
  exact ⟨rfl, hm2, hk1.trans hk2 (fun _ _ h => h)⟩
end
end Go.Proofs.Ytkdpckoneohjkaa
