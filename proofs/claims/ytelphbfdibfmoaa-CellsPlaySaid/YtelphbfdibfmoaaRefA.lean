/-
  WHAT IS PROVED HERE: contracts of the reference's machine (pelotonref01): it has the machine's form, so 'Mach' and 'MS' serve it. Conditions: the pointer is such a machine's.
-/
import Derived.Test.YtelphbfdibfmoaaDoes
import Derived.Laws.AppendOwn
namespace Go.Proofs.Ytelphbfdibfmoaa
open Go.RowKit

abbrev MachR := Mach 59 2 3

/-- The reference's cells lie behind its struct, and this behind its steps. -/
def MB.ord (mb : MB) : Prop := mb.s < mb.p ∧ (mb.c = mb.p ∨ mb.p < mb.c)

theorem MachR.opens {w : World} {mb : MB} {st : MS} {i at_ : Int} (hm : MachR w mb st) (g1 : st.isCaller i = true) (g2 : st.isGiven at_ = true) :
    ∃ cap, w.cell? ⟨mb.p, 0, none⟩ = some (.slice (some ⟨mb.c, 0, none⟩) st.cells.length cap) ∧ w.cell? ⟨mb.p, 2, none⟩ = some (.slice (some ⟨mb.s, 0, none⟩) st.steps.length st.steps.length) ∧
      w.cell? ⟨mb.s, i.toNat, none⟩ = some (.int .i64 (st.steps[i.toNat]?.getD 0)) ∧ w.cell? ⟨mb.c, at_.toNat, none⟩ = some (.int .i64 (st.cells[at_.toNat]?.getD 0)) ∧
      w.frozen? ⟨mb.s, i.toNat, none⟩ = false ∧ w.frozen? ⟨mb.c, at_.toNat, none⟩ = false ∧ 0 ≤ i ∧ i < st.steps.length ∧ 0 ≤ at_ ∧ at_ < st.cells.length ∧ ¬ mb.p = mb.s ∧ ¬ mb.s = mb.p ∧ ¬ mb.p = mb.c ∧ ¬ mb.c = mb.p ∧ ¬ mb.s = mb.c ∧ ¬ mb.c = mb.s ∧
      mb.p < w.heap.size ∧ mb.c < w.heap.size ∧ mb.s < w.heap.size := by
  obtain ⟨A, cap, h0, h1, h2, hA, hl, hcap, hn⟩ := hm.fields
  obtain ⟨a1, a2⟩ := MS.isCaller_lt g1
  obtain ⟨b1, b2⟩ := MS.isGiven_lt g2
  have hne : st.cells ≠ [] := by intro h; rw [h] at b2; simp at b2; omega
  obtain rfl := hA hne
  obtain ⟨s1, s2, s3, s4, s5, s6⟩ := hm.sep hne
  exact ⟨cap, h0, h2, hm.stepAt i.toNat (by omega), hm.cellAt at_.toNat (by omega), hm.frozenS _, hm.frozenC _, a1, a2, b1, b2, s1, s2, s3, s4, s5, s6, hm.lt _ (.inl rfl), hm.lt _ (.inr (.inl rfl)), hm.lt _ (.inr (.inr rfl))⟩
theorem MachR.did' {w : World} {mb : MB} {st : MS} (h : MachR w mb st) (i : Int) (hi : i.toNat < st.steps.length) :
    MachR (w.setCell ⟨mb.s, i.toNat, none⟩ (.int .i64 (wrap64 (st.steps[i.toNat]'hi + 1)))) mb (st.did i) := by
  have := h.did i
  rwa [show st.steps[i.toNat]?.getD 0 = st.steps[i.toNat]'hi by simp [hi]] at this

theorem rcaller_any (mb : MB) (st : MS) (i : Int) (w : World) (hm : MachR w mb st) :
    Calls Try.prog 57 #[.pointer (some ⟨mb.p, 0, none⟩), .int .i64 i] w fun e w' => e = .returned (.bool (st.isCaller i)) ∧ w = w' := by
  obtain ⟨A, cap, h0, h1, h2, hA, hl, hcap, hn⟩ := hm.fields
  by_cases a : 0 ≤ i
  · go_enter Try.func57, Try.ntmps57
    go_wp2
    go_ret
    exact ⟨ret_bool (by simp [MS.isCaller, a]), rfl⟩
  · go_enter Try.func57, Try.ntmps57
    go_wp2
    go_ret
    exact ⟨ret_bool (by simp [MS.isCaller]; omega), rfl⟩

set_option maxHeartbeats 400000 in
theorem rstep_ok (mb : MB) (st : MS) (i at_ : Int) (w : World) (hm : MachR w mb st) (g1 : st.isCaller i = true) (g2 : st.isGiven at_ = true) :
    Calls Try.prog 62 #[.pointer (some ⟨mb.p, 0, none⟩), .int .i64 i, .int .i64 at_] w fun e w' =>
      e = .returned (.int .i64 0) ∧ MachR w' mb (st.did i) ∧ Kept mb.has w w' := by
  obtain ⟨cap, h0, h2, hs, hc, fs, fc, a1, a2, b1, b2, s1, s2, s3, s4, s5, s6, l1, l2, l3⟩ := MachR.opens hm g1 g2
  go_enter Try.func62, Try.ntmps62
  go_wp2_with (go_at_call 57; refine (rcaller_any mb st i _ hm).mono ?_; rintro e w' ⟨rfl, rfl⟩)
  go_ret
  exact ⟨rfl, MachR.did' hm i (by omega), kept_s _ _ _ _⟩

set_option maxHeartbeats 400000 in
theorem rstep_no (mb : MB) (st : MS) (i at_ : Int) (w : World) (hm : MachR w mb st) (g : st.isCaller i = false ∨ st.isGiven at_ = false) :
    Calls Try.prog 62 #[.pointer (some ⟨mb.p, 0, none⟩), .int .i64 i, .int .i64 at_] w fun e w' =>
      e = .returned (.int .i64 10) ∧ w = w' := by
  obtain ⟨A, cap, h0, h1, h2, hA, hl, hcap, hn⟩ := hm.fields
  clear hA hn
  cases h : st.isCaller i with
  | false =>
    clear g
    go_enter Try.func62, Try.ntmps62
    go_wp2_with (go_at_call 57; refine (rcaller_any mb st i _ hm).mono ?_; rintro e w' ⟨rfl, rfl⟩)
    go_ret
    exact ⟨rfl, rfl⟩
  | true =>
    have g2 : st.isGiven at_ = false := by simpa [h] using g
    clear g
    by_cases a : at_ < 0
    · have a' : decide (at_ < 0) = true := by simp; omega
      clear g2
      go_enter Try.func62, Try.ntmps62
      go_wp2_with (go_at_call 57; refine (rcaller_any mb st i _ hm).mono ?_; rintro e w' ⟨rfl, rfl⟩)
      go_ret
      exact ⟨rfl, rfl⟩
    · have a' : decide (at_ < 0) = false := by simp; omega
      have b : ¬ at_ < st.cells.length := by intro hb; simp [MS.isGiven] at g2; omega
      clear g2
      go_enter Try.func62, Try.ntmps62
      go_wp2_with (go_at_call 57; refine (rcaller_any mb st i _ hm).mono ?_; rintro e w' ⟨rfl, rfl⟩)
      go_ret
      exact ⟨rfl, rfl⟩

/-! ## The operations -/
theorem rload_ok (mb : MB) (st : MS) (i at_ : Int) (w : World) (hm : MachR w mb st) (g1 : st.isCaller i = true) (g2 : st.isGiven at_ = true) :
    Calls Try.prog 52 #[.pointer (some ⟨mb.p, 0, none⟩), .int .i64 i, .int .i64 at_] w fun e w' =>
      e = .returned (.tuple #[.int .i64 (st.cellOf at_), .int .i64 0]) ∧ MachR w' mb (st.did i) ∧ Kept mb.has w w' := by
  go_enter Try.func52, Try.ntmps52
  go_wp2_with fail
  refine (rstep_ok mb st i at_ _ hm g1 g2).mono ?_
  rintro e w1 ⟨rfl, hm1, hk1⟩
  obtain ⟨cap, h0, h2, hs, hc, fs, fc, a1, a2, b1, b2, s1, s2, s3, s4, s5, s6, l1, l2, l3⟩ := MachR.opens hm1 (by rw [isCaller_did]; exact g1) g2
  rw [MS.cells_did] at h0 hc b2
  go_wp2
  go_ret2
  exact ⟨ret_tup (int_eq (cell_val (by omega) b1)) rfl, hm1, hk1⟩
theorem rload_no (mb : MB) (st : MS) (i at_ : Int) (w : World) (hm : MachR w mb st) (g : st.isCaller i = false ∨ st.isGiven at_ = false) :
    Calls Try.prog 52 #[.pointer (some ⟨mb.p, 0, none⟩), .int .i64 i, .int .i64 at_] w fun e w' =>
      e = .returned (.tuple #[.int .i64 0, .int .i64 10]) ∧ w = w' := by
  go_enter Try.func52, Try.ntmps52
  go_wp2_with (go_at_call 62; refine (rstep_no mb st i at_ _ hm g).mono ?_; rintro e w' ⟨rfl, rfl⟩)
  go_ret2
  exact ⟨rfl, rfl⟩
theorem rstore_ok (mb : MB) (st : MS) (i at_ x : Int) (w : World) (hm : MachR w mb st) (g1 : st.isCaller i = true) (g2 : st.isGiven at_ = true) :
    Calls Try.prog 53 #[.pointer (some ⟨mb.p, 0, none⟩), .int .i64 i, .int .i64 at_, .int .i64 x] w fun e w' =>
      e = .returned (.int .i64 0) ∧ MachR w' mb ((st.did i).putAt at_ x) ∧ Kept mb.has w w' := by
  go_enter Try.func53, Try.ntmps53
  go_wp2_with fail
  refine (rstep_ok mb st i at_ _ hm g1 g2).mono ?_
  rintro e w1 ⟨rfl, hm1, hk1⟩
  obtain ⟨cap, h0, h2, hs, hc, fs, fc, a1, a2, b1, b2, s1, s2, s3, s4, s5, s6, l1, l2, l3⟩ := MachR.opens hm1 (by rw [isCaller_did]; exact g1) g2
  rw [MS.cells_did] at h0 hc b2
  go_wp2
  go_ret
  exact ⟨rfl, hm1.put _ (by rw [MS.cells_did]; omega) _, kept_c hk1 _ _⟩
theorem rstore_no (mb : MB) (st : MS) (i at_ x : Int) (w : World) (hm : MachR w mb st) (g : st.isCaller i = false ∨ st.isGiven at_ = false) :
    Calls Try.prog 53 #[.pointer (some ⟨mb.p, 0, none⟩), .int .i64 i, .int .i64 at_, .int .i64 x] w fun e w' =>
      e = .returned (.int .i64 10) ∧ w = w' := by
  go_enter Try.func53, Try.ntmps53
  go_wp2_with (go_at_call 62; refine (rstep_no mb st i at_ _ hm g).mono ?_; rintro e w' ⟨rfl, rfl⟩)
  go_ret
  exact ⟨rfl, rfl⟩
theorem radd_ok (mb : MB) (st : MS) (i at_ x : Int) (w : World) (hm : MachR w mb st) (g1 : st.isCaller i = true) (g2 : st.isGiven at_ = true) :
    Calls Try.prog 55 #[.pointer (some ⟨mb.p, 0, none⟩), .int .i64 i, .int .i64 at_, .int .i64 x] w fun e w' =>
      e = .returned (.tuple #[.int .i64 (st.cellOf at_), .int .i64 0]) ∧ MachR w' mb ((st.did i).putAt at_ (wrap64 (st.cellOf at_ + x))) ∧ Kept mb.has w w' := by
  obtain ⟨v, hv⟩ : ∃ v, st.cellOf at_ = v := ⟨_, rfl⟩
  rw [hv]
  have HV := Lib.hid hv
  clear hv
  go_enter Try.func55, Try.ntmps55
  go_wp2_with fail
  refine (rstep_ok mb st i at_ _ hm g1 g2).mono ?_
  rintro e w1 ⟨rfl, hm1, hk1⟩
  obtain ⟨cap, h0, h2, hs, hc, fs, fc, a1, a2, b1, b2, s1, s2, s3, s4, s5, s6, l1, l2, l3⟩ := MachR.opens hm1 (by rw [isCaller_did]; exact g1) g2
  rw [MS.cells_did] at h0 hc b2
  rw [← MS.cellOf_of g2, HV.out] at hc
  go_wp2
  go_ret2
  exact ⟨rfl, hm1.put _ (by rw [MS.cells_did]; omega) _, kept_c hk1 _ _⟩
theorem radd_no (mb : MB) (st : MS) (i at_ x : Int) (w : World) (hm : MachR w mb st) (g : st.isCaller i = false ∨ st.isGiven at_ = false) :
    Calls Try.prog 55 #[.pointer (some ⟨mb.p, 0, none⟩), .int .i64 i, .int .i64 at_, .int .i64 x] w fun e w' =>
      e = .returned (.tuple #[.int .i64 0, .int .i64 10]) ∧ w = w' := by
  go_enter Try.func55, Try.ntmps55
  go_wp2_with (go_at_call 62; refine (rstep_no mb st i at_ _ hm g).mono ?_; rintro e w' ⟨rfl, rfl⟩)
  go_ret2
  exact ⟨rfl, rfl⟩
theorem rcas_hit (mb : MB) (st : MS) (i at_ old x : Int) (w : World) (hm : MachR w mb st) (g1 : st.isCaller i = true) (g2 : st.isGiven at_ = true) (hold : st.cellOf at_ = old) :
    Calls Try.prog 54 #[.pointer (some ⟨mb.p, 0, none⟩), .int .i64 i, .int .i64 at_, .int .i64 old, .int .i64 x] w fun e w' =>
      e = .returned (.tuple #[.bool true, .int .i64 0]) ∧ MachR w' mb ((st.did i).putAt at_ x) ∧ Kept mb.has w w' := by
  have HO := Lib.hid hold
  clear hold
  go_enter Try.func54, Try.ntmps54
  go_wp2_with fail
  refine (rstep_ok mb st i at_ _ hm g1 g2).mono ?_
  rintro e w1 ⟨rfl, hm1, hk1⟩
  obtain ⟨cap, h0, h2, hs, hc, fs, fc, a1, a2, b1, b2, s1, s2, s3, s4, s5, s6, l1, l2, l3⟩ := MachR.opens hm1 (by rw [isCaller_did]; exact g1) g2
  rw [MS.cells_did] at h0 hc b2
  rw [← MS.cellOf_of g2, HO.out] at hc
  go_wp2
  go_ret2
  exact ⟨rfl, hm1.put _ (by rw [MS.cells_did]; omega) _, kept_c hk1 _ _⟩
theorem rcas_miss (mb : MB) (st : MS) (i at_ old x : Int) (w : World) (hm : MachR w mb st) (g1 : st.isCaller i = true) (g2 : st.isGiven at_ = true) (hold : ¬ st.cellOf at_ = old) :
    Calls Try.prog 54 #[.pointer (some ⟨mb.p, 0, none⟩), .int .i64 i, .int .i64 at_, .int .i64 old, .int .i64 x] w fun e w' =>
      e = .returned (.tuple #[.bool false, .int .i64 0]) ∧ MachR w' mb (st.did i) ∧ Kept mb.has w w' := by
  go_enter Try.func54, Try.ntmps54
  go_wp2_with fail
  refine (rstep_ok mb st i at_ _ hm g1 g2).mono ?_
  rintro e w1 ⟨rfl, hm1, hk1⟩
  obtain ⟨cap, h0, h2, hs, hc, fs, fc, a1, a2, b1, b2, s1, s2, s3, s4, s5, s6, l1, l2, l3⟩ := MachR.opens hm1 (by rw [isCaller_did]; exact g1) g2
  rw [MS.cells_did] at h0 hc b2
  rw [← MS.cellOf_of g2] at hc
  obtain ⟨v, hv⟩ : ∃ v, st.cellOf at_ = v := ⟨_, rfl⟩
  rw [hv] at hc hold
  have hne' : (v != old) = true := by simpa using hold
  clear hold hv
  go_wp2
  go_ret2
  exact ⟨rfl, hm1, hk1⟩
theorem rcas_no (mb : MB) (st : MS) (i at_ old x : Int) (w : World) (hm : MachR w mb st) (g : st.isCaller i = false ∨ st.isGiven at_ = false) :
    Calls Try.prog 54 #[.pointer (some ⟨mb.p, 0, none⟩), .int .i64 i, .int .i64 at_, .int .i64 old, .int .i64 x] w fun e w' =>
      e = .returned (.tuple #[.bool false, .int .i64 10]) ∧ w = w' := by
  go_enter Try.func54, Try.ntmps54
  go_wp2_with (go_at_call 62; refine (rstep_no mb st i at_ _ hm g).mono ?_; rintro e w' ⟨rfl, rfl⟩)
  go_ret2
  exact ⟨rfl, rfl⟩
theorem rof_any (mb : MB) (st : MS) (i : Int) (w : World) (hm : MachR w mb st) :
    Calls Try.prog 30 #[.pointer (some ⟨mb.p, 0, none⟩), .int .i64 i] w fun e w' => e = .returned (.int .i64 (st.stepsOf i)) ∧ w = w' := by
  obtain ⟨A, cap, h0, h1, h2, hA, hl, hcap, hn⟩ := hm.fields
  clear hA hn
  cases hc : st.isCaller i with
  | false =>
    go_enter Try.func30, Try.ntmps30
    go_wp2_with (go_at_call 57; refine (rcaller_any mb st i _ hm).mono ?_; rintro e w' ⟨rfl, rfl⟩)
    go_ret
    exact ⟨ret_int (by unfold MS.stepsOf; rw [if_neg (by simpa [MS.isCaller] using hc)]), rfl⟩
  | true =>
    obtain ⟨hi1, hi2⟩ := MS.isCaller_lt hc
    have hcell := hm.stepAt i.toNat (by omega)
    go_enter Try.func30, Try.ntmps30
    go_wp2_with (go_at_call 57; refine (rcaller_any mb st i _ hm).mono ?_; rintro e w' ⟨rfl, rfl⟩)
    go_ret
    exact ⟨ret_int (by unfold MS.stepsOf; rw [if_pos ⟨hi1, hi2⟩]; simp [show i.toNat < st.steps.length by omega]), rfl⟩
theorem rpeek_any (mb : MB) (st : MS) (i : Int) (w : World) (hm : MachR w mb st) :
    Calls Try.prog 31 #[.pointer (some ⟨mb.p, 0, none⟩), .int .i64 i] w fun e w' => e = .returned (.int .i64 (st.cellOf i)) ∧ w = w' := by
  obtain ⟨A, cap, h0, h1, h2, hA, hl, hcap, hn⟩ := hm.fields
  by_cases a : i < 0
  · have a' : decide (i < 0) = true := by simp; omega
    clear hA hn
    go_enter Try.func31, Try.ntmps31
    go_wp2
    go_ret
    exact ⟨ret_int (by unfold MS.cellOf; rw [if_neg (by omega)]), rfl⟩
  · have a' : decide (i < 0) = false := by simp; omega
    by_cases b : i < st.cells.length
    · have hne : st.cells ≠ [] := by intro h; rw [h] at b; simp at b; omega
      obtain rfl := hA hne
      have hcell := hm.cellAt i.toNat (by omega)
      clear hA hn hne
      go_enter Try.func31, Try.ntmps31
      go_wp2
      go_ret
      exact ⟨ret_int (by unfold MS.cellOf; rw [if_pos ⟨by omega, b⟩]; simp [show i.toNat < st.cells.length by omega]), rfl⟩
    · clear hA hn
      go_enter Try.func31, Try.ntmps31
      go_wp2
      go_ret
      exact ⟨ret_int (by unfold MS.cellOf; rw [if_neg (by omega)]), rfl⟩
end Go.Proofs.Ytelphbfdibfmoaa
