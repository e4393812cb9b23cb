/-
  WHAT IS PROVED HERE: the contracts of the reference's Bits and Members (pelotonref12). Conditions: none.
-/
import Derived.Test.YtkilghhknimolaaDoorSame
namespace Go.Proofs.YtkilghhknimolaaDoor
open Go.RowKit

theorem linfo_bool : ∃ i0, Tryd.prog.info? 4 = some i0 ∧ i0.zero = some (.bool false) ∧ i0.size = 1 ∧ i0.bytes = 1 := by
  have h : (Tryd.prog.info? 4).map (fun i => (i.zero, i.size, i.bytes)) = some (some (.bool false), 1, 1) := by kernel_rfl
  cases hc : Tryd.prog.info? 4 with
  | none => rw [hc] at h; simp at h
  | some i =>
    rw [hc] at h
    simp at h
    exact ⟨i, rfl, h.1, h.2.1, h.2.2⟩
/-- The first k bits. -/
def bitsTo (x k : Nat) : List Bool := (List.range k).map x.testBit
theorem bitsTo_succ (x k : Nat) : bitsTo x (k + 1) = bitsTo x k ++ [x.testBit k] := by simp [bitsTo, List.range_succ]
theorem length_bitsTo (x k : Nat) : (bitsTo x k).length = k := by simp [bitsTo]
set_option maxRecDepth 20000 in
set_option maxHeartbeats 1000000 in
theorem rbits_ok (z : Int) (w : World) :
    Calls Tryd.prog 47 #[.int .i64 z] w fun e w' => ∃ g cap, e = .returned (.slice (some ⟨g, 0, none⟩) 64 cap) ∧ Rw w' g cap 4 (bvs (bitsTo (u64 z) 64)) ∧ w.heap.size ≤ g ∧ Below w.heap.size w w' := by
  obtain ⟨ii, hii, hi0, hi1, hi2⟩ := linfo_bool
  have hs : IntKind.u64.signed = false := rfl
  have hwr := wrap_u64_cast z
  obtain ⟨x, hx⟩ : ∃ x, u64 z = x := ⟨_, rfl⟩
  have hxl : x < 18446744073709551616 := by rw [← hx]; exact u64_lt z
  rw [hx] at hwr ⊢
  clear hx
  have hR0 : Rw (w.alloc (.cells #[] 4)) w.heap.size 0 4 (bvs (bitsTo x 0)) := Rw.of (Blk.new w 4 []) (by rw [length_bvs, length_bitsTo]; unfold maxLen; omega)
  have hB0 : Below w.heap.size w (w.alloc (.cells #[] 4)) := (Below.refl _ w).alloc (Nat.le_refl _) _
  go_enter Tryd.func47, Tryd.ntmps47
  go_wp2_with fail
  go_loopw [3, 4, 5] (fun o l i wr => ∃ k g cap : Nat, k ≤ 64 ∧ o = .slice (some ⟨g, 0, none⟩) k cap ∧ l = .int .u64 (x / 2 ^ k : Nat) ∧ i = .int .i64 k ∧ Rw wr g cap 4 (bvs (bitsTo x k)) ∧ w.heap.size ≤ g ∧ Below w.heap.size w wr) (fun _ _ i _ => 64 - (intOf i).toNat)
  case atStart => exact ⟨0, w.heap.size, 0, by omega, rfl, by simp, rfl, hR0, Nat.le_refl _, hB0⟩
  case round =>
    clear hR0 hB0 hwr
    obtain ⟨k, g, cap, hk, rfl, rfl, rfl, hR, hg, hB⟩ := hrel
    by_cases hlt : k < 64
    · obtain ⟨y, hy⟩ : ∃ y, x / 2 ^ k = y := ⟨_, rfl⟩
      have hyl : y < 18446744073709551616 := by rw [← hy]; exact Nat.lt_of_le_of_lt (Nat.div_le_self _ _) hxl
      rw [hy]
      obtain ⟨b, hb⟩ : ∃ b, x.testBit k = b := ⟨_, rfl⟩
      have hm1 : ((y : Int) % 2 == 1) = b := by
        rw [← hb, Nat.testBit_eq_decide_div_mod_eq, hy]
        by_cases h : y % 2 = 1
        · rw [decide_eq_true h]; simp; omega
        · rw [decide_eq_false h]; simp; omega
      have hm2 : ((y : Int).tmod 2 == 1) = b := by
        rw [Int.tmod_eq_emod_of_nonneg (by omega)]; exact hm1
      have HB := Lib.hid hb
      have HY := Lib.hid hy
      clear hb hy
      have RI := Lib.hid (hR.alloc (.cells #[.bool b] 4))
      have NB : Hid ((wr.alloc (.cells #[.bool b] 4)).cell? ⟨wr.heap.size, 0, none⟩ = some (.bool b)) := Lib.hid ((Blk.new wr 4 [.bool b]).cell 0)
      have HBL := Lib.hid hB
      clear hR hB
      go_upto_region 7 with (at_builtin; go_loud (refine wpList_append_row _ rfl (.tmp 13) (.tmp 17) 84 rfl 4 ii (.bool false) 1 Tryd.underlying84 hii hi0 hi1 hi2 rfl g cap k (bvs (bitsTo x k)) rfl (by rw [length_bvs, length_bitsTo]) RI.out wr.heap.size (.bool b) rfl NB.out rfl (by rw [length_bvs, length_bitsTo]; omega) (by omega) ?_); intro g' cap' w1 ri1 hk1 hw1 hl1; have RI1 := Lib.hid ri1; have HK1 := Lib.hid hk1; have HW1 := Lib.hid hw1; clear ri1 hk1 hw1)
      have hB1 : Below w.heap.size w w1 := (HBL.out.alloc HBL.out.size _).trans (HK1.out.below (by have := HBL.out.size; simp; omega) (fun q e => by rw [e]; exact hg))
      have hg1 : w.heap.size ≤ g' := by
        rcases HW1.out with e | e
        · omega
        · rw [World.size_alloc] at e; have := HBL.out.size; omega
      have hdiv : (y : Int) / 2 = ((x / 2 ^ (k + 1) : Nat) : Int) := by
        rw [Nat.pow_succ, ← Nat.div_div_eq_div_mul, HY.out]; rfl
      have hdiv2 : (y : Int).tdiv 2 = ((x / 2 ^ (k + 1) : Nat) : Int) := by rw [Int.tdiv_eq_ediv_of_nonneg (by omega)]; exact hdiv
      have hwd : IntKind.u64.wrap (((x / 2 ^ (k + 1) : Nat)) : Int) = ((x / 2 ^ (k + 1) : Nat) : Int) := by
        have : x / 2 ^ (k + 1) ≤ x := Nat.div_le_self _ _
        rw [IntKind.wrap_u64]; omega
      have hwd' : IntKind.u64.wrap ((x : Int) / 2 ^ (k + 1)) = ((x / 2 ^ (k + 1) : Nat) : Int) := by
        have e : ((x : Int) / 2 ^ (k + 1)) = ((x / 2 ^ (k + 1) : Nat) : Int) := by simp
        rw [e]; exact hwd
      have HWD := Lib.hid hwd'
      clear hwd'
      go_wp2_with fail
      go_roundw
      case rel => exact ⟨k + 1, g', cap', by omega, rfl, by rw [HWD.out], by go_num, by rw [bitsTo_succ, HB.out]; simpa [bvs] using RI1.out, hg1, hB1⟩
      case measure => simp [intOf]; omega
    · obtain rfl : k = 64 := by omega
      go_wp2_with fail
      go_ret
      exact ⟨g, cap, rfl, hR, hg, hB⟩
/-- The workers among the first k bits. -/
def memTo (x k : Nat) : List Int := ((List.range k).filter x.testBit).map fun (n : Nat) => (n : Int)
theorem memTo_succ (x k : Nat) : memTo x (k + 1) = memTo x k ++ (if x.testBit k then [(k : Int)] else []) := by
  unfold memTo
  rw [List.range_succ, List.filter_append, List.map_append]
  congr 1
  by_cases h : x.testBit k = true
  · rw [List.filter_cons, if_pos h, if_pos h]; rfl
  · rw [List.filter_cons, if_neg h, if_neg h]; rfl
theorem memTo_len (x k : Nat) : (memTo x k).length ≤ k := by
  unfold memTo
  rw [List.length_map]
  exact Nat.le_trans (List.length_filter_le _ _) (by simp)
set_option maxRecDepth 20000 in
set_option maxHeartbeats 1000000 in
theorem rmem_ok (z : Int) (w : World) :
    Calls Tryd.prog 13 #[.int .i64 z] w fun e w' => ∃ g cap, e = .returned (.slice (some ⟨g, 0, none⟩) (membersOf z).length cap) ∧ Rw w' g cap 3 (ints (membersOf z)) ∧ w.heap.size ≤ g ∧ Below w.heap.size w w' := by
  obtain ⟨ii, hii, hi0, hi1, hi2⟩ := linfo_int
  obtain ⟨ms, hms⟩ : ∃ ms, membersOf z = ms := ⟨_, rfl⟩
  rw [hms]
  have hms' : memTo (u64 z) 64 = ms := hms
  have HMS := Lib.hid hms'
  clear hms hms'
  have hR0 : Rw (w.alloc (.cells #[] 3)) w.heap.size 0 3 (ints (memTo (u64 z) 0)) := Rw.of (Blk.new w 3 []) (by rw [length_ints]; have := memTo_len (u64 z) 0; unfold maxLen; omega)
  have hB0 : Below w.heap.size w (w.alloc (.cells #[] 3)) := (Below.refl _ w).alloc (Nat.le_refl _) _
  have z0 : (w.alloc (.cells #[] 3)).heap.size = w.heap.size + 1 := by simp
  go_enter Tryd.func13, Tryd.ntmps13
  go_wp2_with fail
  refine (rbits_ok z _).mono ?_
  rintro e w2 ⟨gl, cl, rfl, hL, hgl, hb2⟩
  have hR2 := hR0.below hb2 (by omega)
  have hB2 : Below w.heap.size w w2 := hB0.trans (hb2.mono (by omega))
  rw [z0] at hgl
  have hz2 : w.heap.size + 1 ≤ w2.heap.size := by have := hb2.size; omega
  clear hR0 hB0 hb2
  go_wp2_with fail
  go_loopw [3, 5] (fun o i wr => ∃ k g cap : Nat, k ≤ 64 ∧ o = .slice (some ⟨g, 0, none⟩) (memTo (u64 z) k).length cap ∧ i = .int .i64 k ∧ Rw wr g cap 3 (ints (memTo (u64 z) k)) ∧ Rw wr gl cl 4 (bvs (bitsTo (u64 z) 64)) ∧ w.heap.size ≤ g ∧ Below w.heap.size w wr) (fun _ i _ => 64 - (intOf i).toNat)
  case atStart => exact ⟨0, w.heap.size, 0, by omega, by simp [memTo], rfl, hR2, hL, Nat.le_refl _, hB2⟩
  case round =>
    clear hR2 hL hB2
    obtain ⟨k, g, cap, hk, rfl, rfl, hR, hL, hg, hB⟩ := hrel
    have hrl := hL.room
    rw [length_bvs, length_bitsTo] at hrl
    by_cases hlt : k < 64
    · have hml := memTo_len (u64 z) k
      have cb : wr.cell? ⟨gl, k, none⟩ = some (.bool ((u64 z).testBit k)) := hL.cell (by rw [get_bvs]; simp [bitsTo, hlt])
      have hsucc := memTo_succ (u64 z) k
      have hgb : gl ≠ g := fun e => by
        obtain ⟨r1, h1, _⟩ := hL
        obtain ⟨r2, h2, _⟩ := hR
        subst e
        have h3 : some (Obj.cells _ _ (0, 0)) = some (Obj.cells _ _ (0, 0)) := h1.symm.trans h2
        injection h3 with h3
        injection h3 with _ h3
        exact absurd h3 (by decide)
      cases hbit : (u64 z).testBit k with
      | false =>
        rw [hbit] at cb hsucc
        have HSU := Lib.hid hsucc
        clear hsucc hbit
        go_wp2_with fail
        go_roundw
        case rel => exact ⟨k + 1, g, cap, by omega, by rw [HSU.out]; simp, by go_num, by rw [HSU.out]; simpa using hR, hL, hg, hB⟩
        case measure => simp [intOf]; omega
      | true =>
        rw [hbit] at cb hsucc
        have HSU := Lib.hid hsucc
        have RI := Lib.hid (hR.alloc (.cells #[.int .i64 k] 3))
        have NB : Hid ((wr.alloc (.cells #[.int .i64 k] 3)).cell? ⟨wr.heap.size, 0, none⟩ = some (.int .i64 k)) := Lib.hid ((Blk.new wr 3 [.int .i64 k]).cell 0)
        have HL := Lib.hid (hL.alloc (.cells #[.int .i64 k] 3))
        have HBL := Lib.hid hB
        clear hsucc hbit hR hL hB
        go_wp2_with (at_builtin; go_loud (refine wpList_append_row _ rfl (.tmp 17) (.tmp 19) 22 rfl 3 ii (.int .i64 0) 8 Tryd.underlying22 hii hi0 hi1 hi2 rfl g cap (memTo (u64 z) k).length (ints (memTo (u64 z) k)) rfl (length_ints _).symm RI.out wr.heap.size (.int .i64 k) rfl NB.out rfl (by rw [length_ints]; omega) (by omega) ?_); intro g' cap' w1 ri1 hk1 hw1 hl1; have hL1 := HL.out.kept hk1 hgb; have HL1 := Lib.hid hL1; have RI1 := Lib.hid ri1; have HK1 := Lib.hid hk1; have HW1 := Lib.hid hw1; clear ri1 hk1 hw1 hL1)
        have hB1 : Below w.heap.size w w1 := (HBL.out.alloc HBL.out.size _).trans (HK1.out.below (by have := HBL.out.size; simp; omega) (fun q e => by rw [e]; exact hg))
        have hg1 : w.heap.size ≤ g' := by
          rcases HW1.out with e | e
          · omega
          · rw [World.size_alloc] at e; have := HBL.out.size; omega
        go_roundw
        case rel => exact ⟨k + 1, g', cap', by omega, by rw [HSU.out]; simp, by go_num, by rw [HSU.out]; simpa [ints] using RI1.out, HL1.out, hg1, hB1⟩
        case measure => simp [intOf]; omega
    · obtain rfl : k = 64 := by omega
      rw [HMS.out] at hR ⊢
      clear hL
      go_wp2_with fail
      go_ret
      exact ⟨g, cap, rfl, hR, hg, hB⟩
end Go.Proofs.YtkilghhknimolaaDoor
