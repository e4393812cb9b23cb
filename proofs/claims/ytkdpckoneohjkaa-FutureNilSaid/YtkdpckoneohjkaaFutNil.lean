/-
  WHAT IS PROVED HERE: contracts of package future's functions, and of the law's own function 'do', where there is no machine, or a machine of which no cell is given away. Conditions: as stated.
-/
import Derived.Test.YtkdpckoneohjkaaFutC
import Derived.Defers
import Derived.Deep.RegionHeld3
namespace Go.Proofs.Ytkdpckoneohjkaa
open Go.RowKit

theorem load_nil (i at_ : Int) (w : World) : Calls Try.prog 55 #[.pointer none, .int .i64 i, .int .i64 at_] w fun e w' => e = .returned (.tuple #[.int .i64 0, .int .i64 2]) ∧ w = w' := by
  go_enter Try.func55, Try.ntmps55
  go_wp2
  go_ret2
  exact ⟨rfl, rfl⟩
theorem store_nil (i at_ x : Int) (w : World) : Calls Try.prog 54 #[.pointer none, .int .i64 i, .int .i64 at_, .int .i64 x] w fun e w' => e = .returned (.int .i64 2) ∧ w = w' := by
  go_enter Try.func54, Try.ntmps54
  go_wp2
  go_ret
  exact ⟨rfl, rfl⟩
theorem cas_nil (i at_ x y : Int) (w : World) : Calls Try.prog 53 #[.pointer none, .int .i64 i, .int .i64 at_, .int .i64 x, .int .i64 y] w fun e w' => e = .returned (.tuple #[.bool false, .int .i64 2]) ∧ w = w' := by
  go_enter Try.func53, Try.ntmps53
  go_wp2
  go_ret2
  exact ⟨rfl, rfl⟩

/-- Nothing is there: no machine, or one of which no cell is given away. -/
def NoM (m : Option Addr) (er : Int) (w : World) : Prop := (m = none ∧ er = 2) ∨ ∃ (mb : MB) (st : MS), m = some ⟨mb.p, 0, none⟩ ∧ er = 10 ∧ MachP w mb st ∧ st.cells = []
theorem NoM.below {m : Option Addr} {er : Int} {w w' : World} (h : NoM m er w) (hb : Below w.heap.size w w') : NoM m er w' := by
  rcases h with h | ⟨mb, st, h1, h2, h3, h4⟩
  · exact .inl h
  · exact .inr ⟨mb, st, h1, h2, h3.kept (Kept.of_below (S := fun _ => False) hb) (fun _ _ f => f), h4⟩
theorem ungiven {st : MS} (h : st.cells = []) (a : Int) : st.isGiven a = false := by simp [MS.isGiven, h]
theorem ungiven_cell {st : MS} (h : st.cells = []) (a : Int) : st.cellOf a = 0 := by unfold MS.cellOf; rw [if_neg (by rw [h]; simp)]

section
variable {m : Option Addr} {er : Int} {w : World}
theorem n_load (h : NoM m er w) (i a : Int) : Calls Try.prog 55 #[.pointer m, .int .i64 i, .int .i64 a] w fun e w' => e = .returned (.tuple #[.int .i64 0, .int .i64 er]) ∧ w = w' := by
  rcases h with ⟨rfl, rfl⟩ | ⟨mb, st, rfl, rfl, hm, hc⟩
  · exact load_nil i a w
  · exact load_no mb st i a w hm (.inr (ungiven hc a))
theorem n_store (h : NoM m er w) (i a x : Int) : Calls Try.prog 54 #[.pointer m, .int .i64 i, .int .i64 a, .int .i64 x] w fun e w' => e = .returned (.int .i64 er) ∧ w = w' := by
  rcases h with ⟨rfl, rfl⟩ | ⟨mb, st, rfl, rfl, hm, hc⟩
  · exact store_nil i a x w
  · exact store_no mb st i a x w hm (.inr (ungiven hc a))
theorem n_cas (h : NoM m er w) (i a x y : Int) : Calls Try.prog 53 #[.pointer m, .int .i64 i, .int .i64 a, .int .i64 x, .int .i64 y] w fun e w' => e = .returned (.tuple #[.bool false, .int .i64 er]) ∧ w = w' := by
  rcases h with ⟨rfl, rfl⟩ | ⟨mb, st, rfl, rfl, hm, hc⟩
  · exact cas_nil i a x y w
  · exact cas_no mb st i a x y w hm (.inr (ungiven hc a))
theorem n_fload (h : NoM m er w) (a i : Int) :
    Calls Try.prog 18 #[.agg #[.int .i64 a], .pointer m, .int .i64 i] w fun e w' => e = .returned (.tuple #[.int .i64 0, .int .i64 er]) ∧ Below w.heap.size w w' := by
  have hx := boxF w a
  have bel := (Below.refl _ w).alloc (Nat.le_refl _) (.cells #[.int .i64 a] 30)
  have h1 := h.below bel
  go_enter Try.func18, Try.ntmps18
  go_wp2_with fail
  refine (n_load h1 _ _).mono ?_
  rintro e w2 ⟨rfl, rfl⟩
  clear hx
  go_wp2
  go_ret2
  exact ⟨rfl, bel⟩
theorem n_fvalue (h : NoM m er w) (a i : Int) :
    Calls Try.prog 19 #[.agg #[.int .i64 a], .pointer m, .int .i64 i] w fun e w' => e = .returned (.tuple #[.int .i64 0, .int .i64 er]) ∧ Below w.heap.size w w' := by
  have hx := boxF w a
  have bel := (Below.refl _ w).alloc (Nat.le_refl _) (.cells #[.int .i64 a] 30)
  have h1 := h.below bel
  go_enter Try.func19, Try.ntmps19
  go_wp2_with fail
  refine (n_load h1 _ _).mono ?_
  rintro e w2 ⟨rfl, rfl⟩
  clear hx
  go_wp2
  go_ret2
  exact ⟨rfl, bel⟩
theorem n_fwaiters (h : NoM m er w) (a i : Int) :
    Calls Try.prog 21 #[.agg #[.int .i64 a], .pointer m, .int .i64 i] w fun e w' => e = .returned (.tuple #[.int .i64 0, .int .i64 er]) ∧ Below w.heap.size w w' := by
  have hx := boxF w a
  have bel := (Below.refl _ w).alloc (Nat.le_refl _) (.cells #[.int .i64 a] 30)
  have h1 := h.below bel
  go_enter Try.func21, Try.ntmps21
  go_wp2_with fail
  refine (n_load h1 _ _).mono ?_
  rintro e w2 ⟨rfl, rfl⟩
  clear hx
  go_wp2
  go_ret2
  exact ⟨rfl, bel⟩
theorem n_fclaim (h : NoM m er w) (a i : Int) :
    Calls Try.prog 15 #[.agg #[.int .i64 a], .pointer m, .int .i64 i] w fun e w' => e = .returned (.tuple #[.bool false, .int .i64 er]) ∧ Below w.heap.size w w' := by
  have hx := boxF w a
  have bel := (Below.refl _ w).alloc (Nat.le_refl _) (.cells #[.int .i64 a] 30)
  have h1 := h.below bel
  go_enter Try.func15, Try.ntmps15
  go_wp2_with fail
  refine (n_cas h1 _ _ _ _).mono ?_
  rintro e w2 ⟨rfl, rfl⟩
  clear hx
  go_wp2
  go_ret2
  exact ⟨rfl, bel⟩
theorem n_fput (h : NoM m er w) (a i x : Int) :
    Calls Try.prog 16 #[.agg #[.int .i64 a], .pointer m, .int .i64 i, .int .i64 x] w fun e w' => e = .returned (.int .i64 er) ∧ Below w.heap.size w w' := by
  have hx := boxF w a
  have bel := (Below.refl _ w).alloc (Nat.le_refl _) (.cells #[.int .i64 a] 30)
  have h1 := h.below bel
  go_enter Try.func16, Try.ntmps16
  go_wp2_with fail
  refine (n_store h1 _ _ _).mono ?_
  rintro e w2 ⟨rfl, rfl⟩
  clear hx
  go_wp2
  go_ret
  exact ⟨rfl, bel⟩
theorem n_fend (h : NoM m er w) (a i x : Int) :
    Calls Try.prog 17 #[.agg #[.int .i64 a], .pointer m, .int .i64 i, .int .i64 x] w fun e w' => e = .returned (.tuple #[.bool false, .int .i64 er]) ∧ Below w.heap.size w w' := by
  have hx := boxF w a
  have bel := (Below.refl _ w).alloc (Nat.le_refl _) (.cells #[.int .i64 a] 30)
  have h1 := h.below bel
  rcases h with ⟨rfl, rfl⟩ | ⟨mb, st, rfl, rfl, hm, hc⟩
  · go_enter Try.func17, Try.ntmps17
    go_wp2_with fail
    go_ret2
    exact ⟨rfl, bel⟩
  · by_cases l2 : x < 2
    · have l2' : decide (x < 2) = true := by simp; omega
      go_enter Try.func17, Try.ntmps17
      go_wp2_with fail
      go_ret2
      exact ⟨rfl, bel⟩
    · have l2' : decide (x < 2) = false := by simp; omega
      by_cases l4 : 4 < x
      · have l4' : decide (4 < x) = true := by simp; omega
        go_enter Try.func17, Try.ntmps17
        go_wp2_with fail
        go_ret2
        exact ⟨rfl, bel⟩
      · have l4' : decide (4 < x) = false := by simp; omega
        go_enter Try.func17, Try.ntmps17
        go_wp2_with fail
        refine (n_cas h1 _ _ _ _).mono ?_
        rintro e w2 ⟨rfl, rfl⟩
        clear hx
        go_wp2
        go_ret2
        exact ⟨rfl, bel⟩
set_option maxHeartbeats 400000 in
theorem add_noB (mb : MB) (st : MS) (i at_ by_ : Int) (w : World) (hm : MachP w mb st) (g : st.isCaller i = false ∨ st.isGiven at_ = false) :
    Calls Try.prog 63 #[.pointer (some ⟨mb.p, 0, none⟩), .int .i64 i, .int .i64 at_, .int .i64 by_] w fun e w' =>
      e = .returned (.tuple #[.int .i64 0, .int .i64 10]) ∧ Below w.heap.size w w' := by
  go_enter_defers Try.func63, Try.ntmps63
  go_wp2_with fail
  refine (looks_no mb st i at_ _ (hm.boxed _ _ _) g).mono ?_
  rintro e W ⟨rfl, hW⟩
  have hbW : Below w.heap.size w W := hW ▸ (((Below.refl _ w).alloc (Nat.le_refl _) _).alloc (by simp) _).alloc (by simp; omega) _
  have HW := Lib.hid hW
  clear hW
  go_wp2_with fail
  exact ⟨_, results_tmp2 (t := 8) (u := 9) rfl _ _ _, rfl, hbW⟩
set_option maxRecDepth 100000 in
set_option maxHeartbeats 800000 in
theorem n_fturn (h : NoM m er w) (a i t : Int) :
    Calls Try.prog 57 #[.agg #[.int .i64 a], .pointer m, .int .i64 i, .int .i64 t] w fun e w' => e = .returned (.int .i64 er) ∧ Below w.heap.size w w' := by
  have hx := boxF w a
  have bel := (Below.refl _ w).alloc (Nat.le_refl _) (.cells #[.int .i64 a] 30)
  have h1 := h.below bel
  rcases h with ⟨rfl, rfl⟩ | ⟨mb, st, rfl, rfl, hm, hc⟩
  · go_enter Try.func57, Try.ntmps57
    go_wp2_with fail
    go_ret
    exact ⟨rfl, bel⟩
  · by_cases l2 : i < 0
    · have l2' : decide (i < 0) = true := by simp; omega
      go_enter Try.func57, Try.ntmps57
      go_wp2_with fail
      go_ret
      exact ⟨rfl, bel⟩
    · have l2' : decide (i < 0) = false := by simp; omega
      by_cases l4 : 16 < i
      · have l4' : decide (16 < i) = true := by simp; omega
        go_enter Try.func57, Try.ntmps57
        go_wp2_with fail
        go_ret
        exact ⟨rfl, bel⟩
      · have l4' : decide (16 < i) = false := by simp; omega
        have i0 : 0 ≤ i := by omega
        have i64 : i ≤ 64 := by omega
        obtain ⟨b, hb⟩ : ∃ b, IntKind.i64.wrap (t * 2 ^ i.toNat) = b := ⟨_, rfl⟩
        obtain ⟨a2, ha2⟩ : ∃ a2, IntKind.i64.wrap (a + 2) = a2 := ⟨_, rfl⟩
        have hm1 := hm.alloc (.cells #[.int .i64 a] 30)
        have HC := Lib.hid hc
        clear h1 hc
        go_enter Try.func57, Try.ntmps57
        go_wp2_with fail
        have cx0 := hx 0
        simp only [List.getElem?_cons_zero] at cx0
        have hzw : w.heap.size < (w.alloc (.cells #[.int .i64 a] 30)).heap.size := by simp
        clear hx
        generalize hw1 : w.alloc (.cells #[.int .i64 a] 30) = w1 at *
        have HW1 := Lib.hid hw1
        clear hw1
        have hmd := hm1.drew
        have cxd : w1.drew.cell? ⟨w.heap.size, 0, none⟩ = some (.int .i64 a) := cx0
        go_region_held3 (fun w' => w'.cell? ⟨w.heap.size, 0, none⟩ = some (.int .i64 a)) (first | exact cxd | exact cx2) (first | (go_at_call 63; refine (add_noB mb st i a2 b _ hmd (.inr (ungiven HC.out a2))).mono ?_; rintro e w2 ⟨rfl, hb2⟩; have cx2 : w2.cell? ⟨w.heap.size, 0, none⟩ = some (.int .i64 a) := ((hb2.cell (p := ⟨w.heap.size, 0, none⟩) hzw).trans cxd)))
        clear cx0 cxd cx2
        go_wp2
        go_ret
        exact ⟨rfl, (below_drewN' bel 1).trans (hb2.mono bel.size)⟩
theorem n_fwait (h : NoM m er w) (a i : Int) :
    Calls Try.prog 22 #[.agg #[.int .i64 a], .pointer m, .int .i64 i] w fun e w' => e = .returned (.int .i64 er) ∧ Below w.heap.size w w' := by
  have hx := boxF w a
  have bel := (Below.refl _ w).alloc (Nat.le_refl _) (.cells #[.int .i64 a] 30)
  have h1 := h.below bel
  go_enter Try.func22, Try.ntmps22
  go_wp2_with fail
  refine (n_fturn h1 _ _ _).mono ?_
  rintro e w2 ⟨rfl, hb2⟩
  clear hx
  go_wp2
  go_ret
  exact ⟨rfl, bel.trans (hb2.mono bel.size)⟩
theorem n_fleave (h : NoM m er w) (a i : Int) :
    Calls Try.prog 23 #[.agg #[.int .i64 a], .pointer m, .int .i64 i] w fun e w' => e = .returned (.int .i64 er) ∧ Below w.heap.size w w' := by
  have hx := boxF w a
  have bel := (Below.refl _ w).alloc (Nat.le_refl _) (.cells #[.int .i64 a] 30)
  have h1 := h.below bel
  go_enter Try.func23, Try.ntmps23
  go_wp2_with fail
  refine (n_fturn h1 _ _ _).mono ?_
  rintro e w2 ⟨rfl, hb2⟩
  clear hx
  go_wp2
  go_ret
  exact ⟨rfl, bel.trans (hb2.mono bel.size)⟩
theorem n_fnew (i : Int) (w : World) :
    Calls Try.prog 13 #[.pointer none, .int .i64 i] w fun e w' => e = .returned (.tuple #[.agg #[.int .i64 0], .int .i64 2]) ∧ Below w.heap.size w w' := by
  have q1 : Blk (w.alloc (.cells #[.int .i64 0] 30)) w.heap.size 30 [.int .i64 0] := Blk.new w _ _
  have x1 := q1.cell
  have f1 := q1.frozen
  go_enter Try.func13, Try.ntmps13
  go_wp2
  exact bodyPost_ret (v := .tuple #[.agg #[.int .i64 0], .int .i64 2]) (by simp [results, Try.results13, go_sem]) rfl ⟨rfl, (Below.refl _ w).alloc (Nat.le_refl _) _⟩
theorem n_fpeek (h : NoM m er w) (a : Int) :
    Calls Try.prog 20 #[.agg #[.int .i64 a], .pointer m] w fun e w' => e = .returned (.tuple #[.int .i64 0, .int .i64 0, .int .i64 0]) ∧ Below w.heap.size w w' := by
  rcases h with ⟨rfl, rfl⟩ | ⟨mb, st, rfl, rfl, hm, hc⟩
  · go_enter Try.func20, Try.ntmps20
    go_wp2
    go_ret3
    exact ⟨rfl, (Below.refl _ w).alloc (Nat.le_refl _) _⟩
  · refine fut_peek mb st a 0 0 0 0 w hm (fun j hj => ?_) rfl
    rw [ungiven_cell hc]
    have : j = 0 ∨ j = 1 ∨ j = 2 := by omega
    rcases this with rfl | rfl | rfl <;> rfl

/-- The law's own function 'do', where nothing is there. -/
theorem n_do (h : NoM m er w) (a call i x : Int) (h0 : 0 ≤ call) (h7 : call ≤ 7) :
    Calls Try.prog 24 #[.agg #[.int .i64 a], .pointer m, .int .i64 call, .int .i64 i, .int .i64 x] w fun e w' => e = .returned (.tuple #[.int .i64 0, .int .i64 er]) ∧ Below w.heap.size w w' := by
  have hx := boxF w a
  have bel := (Below.refl _ w).alloc (Nat.le_refl _) (.cells #[.int .i64 a] 30)
  have h1 := h.below bel
  have : call = 0 ∨ call = 1 ∨ call = 2 ∨ call = 3 ∨ call = 4 ∨ call = 5 ∨ call = 6 ∨ call = 7 := by omega
  clear h h0 h7
  rcases this with rfl | rfl | rfl | rfl | rfl | rfl | rfl | rfl
  · go_enter Try.func24, Try.ntmps24
    go_wp2_with fail
    refine (n_fload h1 _ _).mono ?_
    rintro e w2 ⟨rfl, hb2⟩
    clear hx
    go_wp2
    go_ret2
    exact ⟨rfl, bel.trans (hb2.mono bel.size)⟩
  · go_enter Try.func24, Try.ntmps24
    go_wp2_with fail
    refine (n_fclaim h1 _ _).mono ?_
    rintro e w2 ⟨rfl, hb2⟩
    clear hx
    go_wp2
    go_ret2
    exact ⟨rfl, bel.trans (hb2.mono bel.size)⟩
  · go_enter Try.func24, Try.ntmps24
    go_wp2_with fail
    refine (n_fput h1 _ _ _).mono ?_
    rintro e w2 ⟨rfl, hb2⟩
    clear hx
    go_wp2
    go_ret2
    exact ⟨rfl, bel.trans (hb2.mono bel.size)⟩
  · go_enter Try.func24, Try.ntmps24
    go_wp2_with fail
    refine (n_fend h1 _ _ _).mono ?_
    rintro e w2 ⟨rfl, hb2⟩
    clear hx
    go_wp2
    go_ret2
    exact ⟨rfl, bel.trans (hb2.mono bel.size)⟩
  · go_enter Try.func24, Try.ntmps24
    go_wp2_with fail
    refine (n_fvalue h1 _ _).mono ?_
    rintro e w2 ⟨rfl, hb2⟩
    clear hx
    go_wp2
    go_ret2
    exact ⟨rfl, bel.trans (hb2.mono bel.size)⟩
  · go_enter Try.func24, Try.ntmps24
    go_wp2_with fail
    refine (n_fwait h1 _ _).mono ?_
    rintro e w2 ⟨rfl, hb2⟩
    clear hx
    go_wp2
    go_ret2
    exact ⟨rfl, bel.trans (hb2.mono bel.size)⟩
  · go_enter Try.func24, Try.ntmps24
    go_wp2_with fail
    refine (n_fleave h1 _ _).mono ?_
    rintro e w2 ⟨rfl, hb2⟩
    clear hx
    go_wp2
    go_ret2
    exact ⟨rfl, bel.trans (hb2.mono bel.size)⟩
  · go_enter Try.func24, Try.ntmps24
    go_wp2_with fail
    refine (n_fwaiters h1 _ _).mono ?_
    rintro e w2 ⟨rfl, hb2⟩
    clear hx
    go_wp2
    go_ret2
    exact ⟨rfl, bel.trans (hb2.mono bel.size)⟩
end
end Go.Proofs.Ytkdpckoneohjkaa
