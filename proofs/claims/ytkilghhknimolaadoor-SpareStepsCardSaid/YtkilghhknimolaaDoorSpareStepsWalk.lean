/-
  WHAT IS PROVED HERE: the walk of SpareSteps. Conditions: the table math/bits.deBruijn64tab lies as its initialiser lays it.
-/
import Derived.Test.YtkilghhknimolaaDoorSpareW
import Derived.Test.YtkilghhknimolaaDoorArgs
namespace Go.Proofs.YtkilghhknimolaaDoor
open Go.RowKit

theorem map_ref_set (refs : List (Option (Nat × Nat))) (r i x : Nat) : (refs.map refPtr).set r (.pointer (some ⟨x, 0, none⟩)) = (refs.set r (some (i, x))).map refPtr := by rw [List.map_set]; rfl
theorem ref_any {refs : List (Option (Nat × Nat))} {r : Nat} (h : r < refs.length) : (refs.map refPtr)[r]? = some (refPtr (refs.getD r none)) := by
  rw [List.getElem?_map, List.getD_eq_getElem?_getD, List.getElem?_eq_getElem h]; rfl
theorem ref_get {refs : List (Option (Nat × Nat))} {r i x : Nat} (h : refs[r]? = some (some (i, x))) : (refs.map refPtr)[r]? = some (.pointer (some ⟨x, 0, none⟩)) := by
  rw [List.getElem?_map, h]; rfl
theorem spM_steps (sz : Int) {l : List Int} (wt on : Int) (h : l.length = 4) (i : Int) (j : Nat) (e : i = j) (hj : j < 4) : (spM sz l wt on).stepsOf i = l.getD j 0 := by
  subst e
  unfold MS.stepsOf spM
  rw [if_pos (by dsimp only; omega)]
  simp [List.getD_eq_getElem?_getD]
theorem Calls.below_same {P : Program} {f : FuncId} {args : Array Value} {w : World} (p : BelowOf w) {v : Value}
    (h : Calls P f args p.v fun e w' => e = .returned v ∧ p.v = w') : Calls P f args p.v fun e w' => e = .returned v ∧ ∃ q : BelowOf w, w' = q.v :=
  h.mono fun _ _ ⟨he, hb⟩ => ⟨he, p, hb.symm⟩
set_option maxRecDepth 20000 in
set_option maxHeartbeats 2000000 in
/-- Spares that are not right. -/
theorem steps_wrong (W : World) (hT : Tab W) (b m : Int) (hm : i64B m) (hr : rightB b m = false) (A : Option Addr) (n cp : Nat) :
    Calls Tryd.prog 8 #[.int .i64 b, .int .i64 m, .slice A n cp] W fun e w' => e = .returned (.bool true) ∧ Below W.heap.size W w' := by
  have HT := Lib.hid hT
  have HR := Lib.hid hr
  clear hT hr
  go_enter Tryd.func8, Tryd.ntmps8
  go_wp2_with fail
  refine (new_ok 2 3 _ (by omega) (by omega) (by omega) (by omega)).mono ?_
  rintro e w1 ⟨p, s, rfl, hm1, hk1, hp, hsl⟩
  have HB1 := Lib.hid (show Below W.heap.size W w1 from hk1.below (Nat.le_refl _) (fun _ h => h.elim))
  have HM1 := Lib.hid hm1
  have HN := Lib.hid (new_wrong ⟨p, 0, none⟩ 3 b m w1 hm HR.out)
  clear hm1 hk1
  go_wp2_with fail
  refine HN.out.mono ?_
  rintro e w2 ⟨rfl, hb2⟩
  unfold spV
  have hb3 : Below w1.heap.size w1 (w2.alloc (.cells #[.int .i64 0, .int .i64 0, .int .i64 0] 42)) := hb2.alloc hb2.size _
  have hm3 := HM1.out.kept (Kept.of_below (S := fun _ => False) hb3) (fun _ _ e => e)
  have HB3 := Lib.hid (HB1.out.trans (hb3.mono HB1.out.size))
  have HM3 := Lib.hid hm3
  have c3 := (Blk.new w2 42 [.int .i64 0, .int .i64 0, .int .i64 0]).cell
  clear hb2 hb3 hm3 HM1 HB1 HN
  go_upto_region 3 with fail
  obtain ⟨bS, hbS⟩ : ∃ b, w2.heap.size = b := ⟨_, rfl⟩
  rw [hbS] at c3 ⊢
  generalize (w2.alloc (.cells #[.int .i64 0, .int .i64 0, .int .i64 0] 42)) = w3 at *
  clear hbS
  go_wp2_with fail
  refine (rright_ok b m w3).mono ?_
  rintro e wn ⟨rfl, rfl⟩
  rw [HR.out]
  go_wp2_with fail
  refine (used_any ⟨p, p, s⟩ _ w3 HM3.out).mono ?_
  rintro e wn ⟨rfl, rfl⟩
  rw [show ((MS.fresh 2 (3 : Int).toNat).cells.length : Int) = 0 from rfl]
  go_wp2_with fail
  refine (awake18_any w3 (HT.out.below HB3.out HT.out.lt)).mono ?_
  rintro e w4 ⟨rfl, hb4⟩
  have hbel := HB3.out.trans (hb4.mono HB3.out.size)
  clear hb4
  go_wp2_with fail
  go_ret
  exact ⟨rfl, hbel⟩
set_option maxRecDepth 20000 in
set_option maxHeartbeats 2000000 in
/-- Too many turns. -/
theorem steps_far (W : World) (hT : Tab W) (B M : Nat) (hB1 : 1 ≤ B) (hBM : B + M ≤ 16) (hr : rightB B M = true) (A : Option Addr) (n cp : Nat) (hn : (300 : Int) < (n : Int)) :
    Calls Tryd.prog 8 #[.int .i64 B, .int .i64 M, .slice A n cp] W fun e w' => e = .returned (.bool true) ∧ Below W.heap.size W w' := by
  have d0 : decide ((300 : Int) < (n : Int)) = true := decide_eq_true hn
  have hi : i64B (M : Int) := by unfold i64B; omega
  have HT := Lib.hid hT
  have HR := Lib.hid hr
  clear hT hr
  go_enter Tryd.func8, Tryd.ntmps8
  go_wp2_with fail
  refine (new_ok 2 3 _ (by omega) (by omega) (by omega) (by omega)).mono ?_
  rintro e w1 ⟨p, s, rfl, hm1, hk1, hp, hsl⟩
  have hb1 : Below W.heap.size W w1 := hk1.below (Nat.le_refl _) (fun _ h => h.elim)
  have hn := new_okS hm1 3 B M hi HR.out (by decide +kernel) (by decide +kernel) (by decide +kernel)
  have HN := Lib.hid hn
  have HB1 := Lib.hid hb1
  clear hn hb1 hm1 hk1
  go_wp2_with fail
  refine HN.out.mono ?_
  rintro e w2 ⟨rfl, hk2, c, hc, hm2⟩
  have hW2 : SpW W w2 ⟨p, c, s⟩ B M 2 [0, 0, 0, 1] 0 0 (List.replicate 4 none) := SpW.first (b := B) (m := M) (sz := 2) (l := [0, 0, 0, 1]) W HT.out HB1.out hp hsl hc hk2 HR.out (st := ((MS.fresh 2 (Int.toNat 3)).did 3).more 2) (by first | rfl | kernel_rfl) hm2 4
  rw [show spV ((MS.fresh 2 (3 : Int).toNat).cells.length : Nat) B M = .agg #[.int .i64 0, .int .i64 B, .int .i64 M] from rfl]
  have hE2 : El W w2 ⟨p, c, s⟩ B M [0, 0, 0, 1] 0 (gapL B B) (List.replicate 4 none) [] := ⟨⟨rfl, by rw [bits_gap0 B (by omega)]; exact hW2⟩, gapL_in (Nat.le_refl _) (by omega) (by omega), (fun i g t cs e => by simp at e), (fun i j g t t' cs cs' _ e => by simp at e)⟩
  have HE3 := Lib.hid (hE2.alloc 42 [.int .i64 0, .int .i64 B, .int .i64 M])
  have c3 := (Blk.new w2 42 [.int .i64 0, .int .i64 B, .int .i64 M]).cell
  clear hW2 hm2 hk2 HN HB1 hp hsl hc hi hE2
  go_upto_region 3 with fail
  obtain ⟨bS, hbS⟩ : ∃ b, w2.heap.size = b := ⟨_, rfl⟩
  rw [hbS] at HE3 c3 ⊢
  generalize (w2.alloc (.cells #[.int .i64 0, .int .i64 B, .int .i64 M] 42)) = w3 at *
  change Hid (El W w3 ⟨p, c, s⟩ B M [0, 0, 0, 1] 0 (gapL B B) (List.replicate 4 none) [(bS, 42, [.int .i64 0, .int .i64 B, .int .i64 M])]) at HE3
  clear hbS
  go_wp2_with fail
  refine (rright_ok B M w3).mono ?_
  rintro e wn ⟨rfl, rfl⟩
  rw [HR.out]
  go_wp2_with fail
  refine (awake18_any w3 HE3.out.tab).mono ?_
  rintro e w4 ⟨rfl, hb4⟩
  have hbel := HE3.out.bel.trans (hb4.mono HE3.out.bel.size)
  clear hb4
  go_wp2_with fail
  go_ret
  exact ⟨rfl, hbel⟩
set_option maxRecDepth 20000 in
set_option maxHeartbeats 8000000 in
theorem steps_near (W : World) (hT : Tab W) (B M : Nat) (hB1 : 1 ≤ B) (hBM : B + M ≤ 16) (hr : rightB B M = true) (A : Option Addr) (n cp : Nat) (z : List Int) (hN : n ≤ 300) (F : Flat W A (n * 4) z) :
    Calls Tryd.prog 8 #[.int .i64 B, .int .i64 M, .slice A n cp] W fun e w' => e = .returned (.bool true) ∧ Below W.heap.size W w' := by
  have d0 : decide ((300 : Int) < (n : Int)) = false := decide_eq_false (by omega)
  have hi : i64B (M : Int) := by unfold i64B; omega
  have HT := Lib.hid hT
  have HR := Lib.hid hr
  clear hT hr
  go_enter Tryd.func8, Tryd.ntmps8
  go_wp2_with fail
  refine (new_ok 2 3 _ (by omega) (by omega) (by omega) (by omega)).mono ?_
  rintro e w1 ⟨p, s, rfl, hm1, hk1, hp, hsl⟩
  have hb1 : Below W.heap.size W w1 := hk1.below (Nat.le_refl _) (fun _ h => h.elim)
  have hn := new_okS hm1 3 B M hi HR.out (by decide +kernel) (by decide +kernel) (by decide +kernel)
  have HN := Lib.hid hn
  have HB1 := Lib.hid hb1
  clear hn hb1 hm1 hk1
  go_wp2_with fail
  refine HN.out.mono ?_
  rintro e w2 ⟨rfl, hk2, c, hc, hm2⟩
  have hW2 : SpW W w2 ⟨p, c, s⟩ B M 2 [0, 0, 0, 1] 0 0 (List.replicate 4 none) := SpW.first (b := B) (m := M) (sz := 2) (l := [0, 0, 0, 1]) W HT.out HB1.out hp hsl hc hk2 HR.out (st := ((MS.fresh 2 (Int.toNat 3)).did 3).more 2) (by first | rfl | kernel_rfl) hm2 4
  rw [show spV ((MS.fresh 2 (3 : Int).toNat).cells.length : Nat) B M = .agg #[.int .i64 0, .int .i64 B, .int .i64 M] from rfl]
  have hE2 : El W w2 ⟨p, c, s⟩ B M [0, 0, 0, 1] 0 (gapL B B) (List.replicate 4 none) [] := ⟨⟨rfl, by rw [bits_gap0 B (by omega)]; exact hW2⟩, gapL_in (Nat.le_refl _) (by omega) (by omega), (fun i g t cs e => by simp at e), (fun i j g t t' cs cs' _ e => by simp at e)⟩
  have HE3 := Lib.hid (hE2.alloc 42 [.int .i64 0, .int .i64 B, .int .i64 M])
  have c3 := (Blk.new w2 42 [.int .i64 0, .int .i64 B, .int .i64 M]).cell
  clear hW2 hm2 hk2 HN HB1 hp hsl hc hi hE2
  go_upto_region 3 with fail
  obtain ⟨bS, hbS⟩ : ∃ b, w2.heap.size = b := ⟨_, rfl⟩
  rw [hbS] at HE3 c3 ⊢
  generalize (w2.alloc (.cells #[.int .i64 0, .int .i64 B, .int .i64 M] 42)) = w3 at *
  change Hid (El W w3 ⟨p, c, s⟩ B M [0, 0, 0, 1] 0 (gapL B B) (List.replicate 4 none) [(bS, 42, [.int .i64 0, .int .i64 B, .int .i64 M])]) at HE3
  clear hbS
  go_wp2_with fail
  refine (rright_ok B M w3).mono ?_
  rintro e wn ⟨rfl, rfl⟩
  rw [HR.out]
  have hmk1 : ∀ w, (Instr.makeSlice 62 (.int .i64 4) (.int .i64 4)).run Tryd.prog w = .ok (.slice (some ⟨w.heap.size, 0, none⟩) 4 4) (w.alloc (.cells #[.pointer none, .pointer none, .pointer none, .pointer none] 36)) := fun _ => by kernel_rfl
  have hmk2 : ∀ w, (Instr.makeSlice 63 (.int .i64 4) (.int .i64 4)).run Tryd.prog w = .ok (.slice (some ⟨w.heap.size, 0, none⟩) 4 4) (w.alloc (.cells #[.pointer none, .pointer none, .pointer none, .pointer none] 64)) := fun _ => by kernel_rfl
  go_upto_region 12 with fail
  clear c3 d0
  have hE4 := HE3.out.alloc 61 [.int .i64 0, .int .i64 0, .int .i64 B, .int .i64 M]
  obtain ⟨rB, hrB⟩ : ∃ b, w3.heap.size = b := ⟨_, rfl⟩
  rw [hrB] at hE4 ⊢
  generalize (w3.alloc (.cells _ 61)) = w4 at *
  have HE4 := Lib.hid hE4
  clear hE4 hrB HE3
  go_upto_region 13 with fail
  have hE5 := HE4.out.alloc 36 [.pointer none, .pointer none, .pointer none, .pointer none]
  obtain ⟨gO, hgO⟩ : ∃ b, w4.heap.size = b := ⟨_, rfl⟩
  rw [hgO] at hE5 ⊢
  generalize (w4.alloc (.cells _ 36)) = w5 at *
  have HE5 := Lib.hid hE5
  clear hE5 hgO HE4 hmk1
  go_upto_region 14 with fail
  have hE6 := HE5.out.alloc 64 [.pointer none, .pointer none, .pointer none, .pointer none]
  obtain ⟨gR, hgR⟩ : ∃ b, w5.heap.size = b := ⟨_, rfl⟩
  rw [hgR] at hE6 ⊢
  generalize (w5.alloc (.cells _ 64)) = w6 at *
  have hE7 : El W w6 ⟨p, c, s⟩ B M [0, 0, 0, 1] 0 (gapL B B) (List.replicate 4 none) ((bS, 42, [.int .i64 0, .int .i64 B, .int .i64 M]) :: (rB, 61, [.int .i64 (0), .int .i64 (bitsNat (gapL B B) : Nat), .int .i64 B, .int .i64 M]) :: (gO, 36, (List.replicate 4 none).map ptrOf) :: (gR, 64, (List.replicate 4 none).map refPtr) :: ([])) := by rw [bits_gap0 B (by omega)]; exact hE6
  have HE7 := Lib.hid hE7
  clear hE6 hE7 hgR HE5 hmk2
  go_wp2_with fail
  go_loopw [14, 15] (fun x v wr => ∃ (k : Nat) (did wt : Int) (l : List Int) (L : List Bool) (ops : List (Option (Nat × OS))) (refs : List (Option (Nat × Nat))) (xs : List BB), k ≤ n ∧ 1 ≤ did ∧ did ≤ k + 1 ∧ -(k : Int) ≤ wt ∧ wt ≤ k ∧ x = .int .i64 did ∧ v = .int .i64 k ∧ Sum4 l did ∧ El W wr ⟨p, c, s⟩ B M l wt L ops ((bS, 42, [.int .i64 0, .int .i64 B, .int .i64 M]) :: (rB, 61, [.int .i64 (wt), .int .i64 (bitsNat (L) : Nat), .int .i64 B, .int .i64 M]) :: (gO, 36, (ops).map ptrOf) :: (gR, 64, (refs).map refPtr) :: (xs)) ∧ StOk B M ops refs xs) (fun _ v _ => n - (intOf v).toNat)
  case atStart => exact ⟨0, 1, 0, [0, 0, 0, 1], gapL B B, List.replicate 4 none, List.replicate 4 none, [], by omega, by omega, by omega, by simp, by simp, rfl, rfl, Sum4.first, HE7.out, StOk.first B M⟩
  case round =>
    clear HE7
    obtain ⟨k, did, wt, l, L, ops, refs, xs, hk, hd1, hd2, hw1, hw2, rfl, rfl, hS, hE, hC⟩ := hrel
    by_cases hlt : k < n
    · obtain ⟨_, _, hcell⟩ := F
      obtain ⟨g, off, rfl, hgb, hgc⟩ := hcell (by omega)
      obtain ⟨sl, hsl⟩ : ∃ v, v = z.getD (k * 4) 0 := ⟨_, rfl⟩
      obtain ⟨dv, hdv⟩ : ∃ v, v = z.getD (k * 4 + 1) 0 := ⟨_, rfl⟩
      obtain ⟨self, hself⟩ : ∃ v, v = z.getD (k * 4 + 2) 0 := ⟨_, rfl⟩
      obtain ⟨wv, hwv⟩ : ∃ v, v = z.getD (k * 4 + 3) 0 := ⟨_, rfl⟩
      have cl : wr.cell? ⟨g, off + k * 4, none⟩ = some (.int .i64 sl) := by rw [hsl, hE.bel.cell (by exact hgb)]; exact hgc (k * 4) (by omega)
      have HD : Hid (∀ w', Below W.heap.size W w' → w'.cell? ⟨g, off + k * 4 + 1, none⟩ = some (.int .i64 dv)) := Lib.hid (fun w' hb => by rw [hdv, hb.cell (by exact hgb)]; exact hgc (k * 4 + 1) (by omega))
      have HS : Hid (∀ w', Below W.heap.size W w' → w'.cell? ⟨g, off + k * 4 + 2, none⟩ = some (.int .i64 self)) := Lib.hid (fun w' hb => by rw [hself, hb.cell (by exact hgb)]; exact hgc (k * 4 + 2) (by omega))
      have HV : Hid (∀ w', Below W.heap.size W w' → w'.cell? ⟨g, off + k * 4 + 3, none⟩ = some (.int .i64 wv)) := Lib.hid (fun w' hb => by rw [hwv, hb.cell (by exact hgb)]; exact hgc (k * 4 + 3) (by omega))
      obtain ⟨r, hr4, hrr⟩ := pick4 sl
      obtain ⟨kd0, hkd, hkk⟩ := pick3 dv
      have HKK := Lib.hid hkk
      have HKI : Hid ((IntKind.i64.wrap (dv.tmod 3 + 3)).tmod 3 = (kd0 : Int)) := Lib.hid (by rw [← wrap_i64']; exact hkk)
      have HE := Lib.hid hE
      have HC := Lib.hid hC
      have HSm := Lib.hid hS
      clear hcell hsl hdv hself hwv hgc hkk hE hC hS
      go_upto_region 19 with fail
      clear cl hrr
      have g1 : (0 : Int) ≤ (r : Int) := by omega
      have g2 : (r : Int) < 4 := by omega
      go_cut [108] from 86 to 108 (fun y wc => ∃ tb : Bool, y = .bool tb ∧ wr = wc ∧ (tb = true ∨ ∃ o q idx x kd sf se nx n on mv, StD B M ops refs xs r o q idx x kd sf se nx n on mv))
      case first =>
        as_aux_lemma =>
          have c1 := HD.out wr HE.out.bel
          rcases HC.out.slot r hr4 with h1 | ⟨o, q, idx, x, kd, sf, se, nx, nn, on, mv, hd⟩
          · have cR := HE.out.cell 3 rfl r (v := .pointer none) (by rw [List.getElem?_map, h1]; rfl)
            clear h1
            go_wp2_with fail
            go_meet
            case rel => exact ⟨true, rfl, by first | trivial | rfl, .inl rfl⟩
          · have cR := HE.out.cell 3 rfl r (v := .pointer (some ⟨x, 0, none⟩)) (by rw [List.getElem?_map, hd.ref]; rfl)
            have cX := HE.out.cell (idx + 4) hd.at_ 2 (v := .int .i64 nx) rfl
            have HDD := Lib.hid hd
            clear hd
            cases e1 : (nx == 0) with
            | true =>
              cases e2 : (dv != 9) with
              | true =>
                go_wp2_with fail
                go_meet
                case rel => exact ⟨true, rfl, by first | trivial | rfl, .inl rfl⟩
              | false =>
                go_wp2_with fail
                go_meet
                case rel => exact ⟨false, rfl, by first | trivial | rfl, .inr ⟨o, q, idx, x, kd, sf, se, nx, nn, on, mv, HDD.out⟩⟩
            | false =>
              go_wp2_with fail
              go_meet
              case rel => exact ⟨false, rfl, by first | trivial | rfl, .inr ⟨o, q, idx, x, kd, sf, se, nx, nn, on, mv, HDD.out⟩⟩
      case rest =>
      obtain ⟨tb, rfl, rfl, htb⟩ := hcut
      have HTB := Lib.hid htb
      clear htb
      go_upto_if 108 with fail
      go_cut [17] from 109 to 140 (fun _ wc => ∃ ops' refs' xs' o q idx x kd sf se nx nn on mv, El W wc ⟨p, c, s⟩ B M l wt L ops' ((bS, 42, [.int .i64 0, .int .i64 B, .int .i64 M]) :: (rB, 61, [.int .i64 (wt), .int .i64 (bitsNat (L) : Nat), .int .i64 B, .int .i64 M]) :: (gO, 36, (ops').map ptrOf) :: (gR, 64, (refs').map refPtr) :: (xs')) ∧ StOk B M ops' refs' xs' ∧ StD B M ops' refs' xs' r o q idx x kd sf se nx nn on mv)
      case first =>
        as_aux_lemma =>
          cases tb with
          | false =>
            go_wp2_with fail
            go_meet
            case rel =>
              rcases HTB.out with h | ⟨o, q, idx, x, kd, sf, se, nx, nn, on, mv, hd⟩
              · cases h
              · exact ⟨ops, refs, xs, o, q, idx, x, kd, sf, se, nx, nn, on, mv, HE.out, HC.out, hd⟩
          | true =>
            have c1 := HD.out wr HE.out.bel
            have c2 := HS.out wr HE.out.bel
            have c0 := (HE.out.blk 0 _ _ _ rfl).1.cell
            go_upto_region 20 with fail
            have HE4 := Lib.hid (HE.out.below ((Below.refl _ wr).drew))
            have HBeg := Lib.hid (HE4.out.begin r self dv kd0 hkd HKK.out)
            go_region_held3 (fun w' => (∀ i, w'.cell? ⟨bS, i, none⟩ = [Value.int .i64 0, .int .i64 B, .int .i64 M][i]?) ∧ w'.cell? ⟨g, off + k * 4 + 1, none⟩ = some (.int .i64 dv) ∧ w'.cell? ⟨g, off + k * 4 + 2, none⟩ = some (.int .i64 self)) (first | exact ⟨c0, c1, c2⟩ | exact ⟨c0', c1', c2'⟩ | exact ⟨e0', e1', e2'⟩) (first
              | (go_at_call 27; refine HBeg.out.mono ?_; rintro e w13 ⟨o, rfl, hE5⟩; have HE5 := Lib.hid hE5; have c0' := (HE5.out.blk 0 _ _ _ rfl).1.cell; have c1' := HD.out w13 HE5.out.bel; have c2' := HS.out w13 HE5.out.bel; have fO := HE5.out.frozen 2 rfl r; have cO0 := HE5.out.cell 2 rfl r (ptr_any (ops := ops) (by rw [HC.out.lo]; exact hr4)); have HE6 := Lib.hid (HE5.out.store 2 rfl r (.pointer (some ⟨o, 0, none⟩))); have e0' := (HE6.out.blk 0 _ _ _ rfl).1.cell; have e1' := HD.out _ HE6.out.bel; have e2' := HS.out _ HE6.out.bel; clear hE5))
            clear HE4 HBeg c0 c1 c2 c0' c1' c2' e0' e1' e2' HE6 fO cO0
            have hE6 := HE5.out.store 2 rfl r (.pointer (some ⟨o, 0, none⟩))
            rw [map_ptr_set ops r o (begQ kd0 self)] at hE6
            have HE6 := Lib.hid hE6
            clear hE6 HE5
            generalize (w13.setCell ⟨gO, r, none⟩ (.pointer (some ⟨o, 0, none⟩))) = w14 at *
            have HE7 := Lib.hid (HE6.out.below ((Below.refl _ w14).drew))
            have c1 := HD.out w14 HE6.out.bel
            have c2 := HS.out w14 HE6.out.bel
            go_upto_region 21 with fail
            go_region_held3 (fun w' => w'.cell? ⟨g, off + k * 4 + 1, none⟩ = some (.int .i64 dv) ∧ w'.cell? ⟨g, off + k * 4 + 2, none⟩ = some (.int .i64 self)) (first | exact ⟨c1, c2⟩ | exact ⟨c1', c2'⟩ | exact ⟨e1', e2'⟩) (first
              | (go_at_call 36; rw [HKI.out]; refine (rbegin_ok kd0 self _).mono ?_; rintro e w15 ⟨x, rfl, hx, hrp, hb⟩; have HE8 := Lib.hid (HE7.out.more hb hx hrp); have c1' := HD.out w15 HE8.out.bel; have c2' := HS.out w15 HE8.out.bel; have fR := HE8.out.frozen 3 rfl r; have cR0 := HE8.out.cell 3 rfl r (ref_any (refs := refs) (by rw [HC.out.lr]; exact hr4)); have HE9 := Lib.hid (HE8.out.store 3 rfl r (.pointer (some ⟨x, 0, none⟩))); have e1' := HD.out _ HE9.out.bel; have e2' := HS.out _ HE9.out.bel; clear hx hrp hb))
            clear HE6 HE7 c1 c2 c1' c2' e1' e2' HE9 fR cR0
            have hE9 := HE8.out.store 3 rfl r (.pointer (some ⟨x, 0, none⟩))
            rw [map_ref_set refs r xs.length x] at hE9
            have HE9 := Lib.hid hE9
            clear hE9 HE8
            obtain ⟨hC', hD'⟩ := HC.out.begins hr4 o x kd0 hkd self
            have HC' := Lib.hid hC'
            have HD' := Lib.hid hD'
            clear hC' hD'
            go_wp2_with fail
            go_meet
            case rel => exact ⟨_, _, _, _, _, _, _, _, _, _, _, _, _, _, HE9.out, HC'.out, HD'.out⟩
      case rest =>
      obtain ⟨ops', refs', xs', o, q, idx, x, kd, sf, se, nx, nn, on, mv, hE1, hC1, hD1⟩ := hcut
      have HE1 := Lib.hid hE1
      have HC1 := Lib.hid hC1
      have HD1 := Lib.hid hD1
      clear hE1 hC1 hD1 HE HC HTB HKK HKI
      have hEd := HE1.out.below ((Below.refl _ wc).drew)
      obtain ⟨dn, op, er, l', wt', L', q', hB⟩ := both hEd HD1.out rfl HD1.out.at_ (by omega) wv
      have HB := Lib.hid hB
      have cO := HE1.out.cell 2 rfl r (ptr_get HD1.out.op)
      have cV := HV.out wc HE1.out.bel
      clear hEd hB
      go_upto_region 22 with fail
      go_region_held3 (fun w' => w'.cell? ⟨gO, r, none⟩ = some (.pointer (some ⟨o, 0, none⟩)) ∧ w'.cell? ⟨g, off + k * 4 + 3, none⟩ = some (.int .i64 wv)) (first | exact ⟨cO, cV⟩ | exact ⟨cO', cV'⟩) (first
        | (go_at_call 25; refine HB.out.one.mono ?_; rintro e w16 ⟨rfl, hE2⟩; have HE2 := Lib.hid hE2; have cO' := HE2.out.cell 2 rfl r (ptr_get HD1.out.op); have cV' := HV.out w16 HE2.out.bel; clear hE2))
      clear cO cV cO' cV'
      have cR := HE2.out.cell 3 rfl r (ref_get HD1.out.ref)
      have cV := HV.out w16 HE2.out.bel
      have HE2d := Lib.hid (HE2.out.below ((Below.refl _ w16).drew))
      have HTwo := Lib.hid (HB.out.two _ HE2d.out)
      go_upto_region 23 with fail
      go_region_held3 (fun w' => w'.cell? ⟨gR, r, none⟩ = some (.pointer (some ⟨x, 0, none⟩)) ∧ w'.cell? ⟨g, off + k * 4 + 3, none⟩ = some (.int .i64 wv)) (first | exact ⟨cR, cV⟩ | exact ⟨cR', cV'⟩) (first
        | (go_at_call 37; refine HTwo.out.mono ?_; rintro e w17 ⟨rfl, se', nx', n', on', mv', hR', hE3⟩; have HE3 := Lib.hid hE3; have HR' := Lib.hid hR'; have cR' := HE3.out.cell 3 rfl r (ref_get HD1.out.ref); have cV' := HV.out w17 HE3.out.bel; clear hE3 hR'))
      clear cR cV cR' cV' HTwo HE2d HE2
      have hE4 : El W w17 ⟨p, c, s⟩ B M l' wt' L' (ops'.set r (some (o, q'))) ((bS, 42, [.int .i64 0, .int .i64 B, .int .i64 M]) :: (rB, 61, [.int .i64 (wt'), .int .i64 (bitsNat (L') : Nat), .int .i64 B, .int .i64 M]) :: (gO, 36, (ops'.set r (some (o, q'))).map ptrOf) :: (gR, 64, (refs').map refPtr) :: (xs'.set idx (x, 66, rcells kd se' nx' n' on' mv'))) := by rw [map_ptr_same ops' r o q q' HD1.out.op]; exact HE3.out
      obtain ⟨hC2, hD2⟩ := HC1.out.steps hr4 HD1.out HR'.out
      have HE4 := Lib.hid hE4
      have HC2 := Lib.hid hC2
      have HD2 := Lib.hid hD2
      clear hE4 hC2 hD2 HE3 HC1
      go_upto_region 24 with fail
      go_cut [202] from 169 to 202 (fun y wx => y = .bool false ∧ El W wx ⟨p, c, s⟩ B M l' wt' L' (ops'.set r (some (o, q'))) ((bS, 42, [.int .i64 0, .int .i64 B, .int .i64 M]) :: (rB, 61, [.int .i64 (wt'), .int .i64 (bitsNat (L') : Nat), .int .i64 B, .int .i64 M]) :: (gO, 36, (ops'.set r (some (o, q'))).map ptrOf) :: (gR, 64, (refs').map refPtr) :: (xs'.set idx (x, 66, rcells kd se' nx' n' on' mv'))))
      case first =>
        as_aux_lemma =>
          have hdn := HB.out.dne
          have hnx := HR'.out.nx
          have HMV : Hid (∀ p' : BelowOf w17, Calls Tryd.prog 26 #[.pointer (some ⟨o, 0, none⟩)] p'.v fun e w' => e = .returned (.int .i64 mv') ∧ ∃ q2 : BelowOf w17, w' = q2.v) := Lib.hid (fun p' => Calls.below_same p' ((HE4.out.below p'.bel).moved HD2.out.op mv' HR'.out.mv))
          have cO : ∀ p' : BelowOf w17, p'.v.cell? ⟨gO, r, none⟩ = some (.pointer (some ⟨o, 0, none⟩)) := fun p' => (HE4.out.below p'.bel).cell 2 rfl r (ptr_get HD2.out.op)
          have cR : ∀ p' : BelowOf w17, p'.v.cell? ⟨gR, r, none⟩ = some (.pointer (some ⟨x, 0, none⟩)) := fun p' => (HE4.out.below p'.bel).cell 3 rfl r (ref_get HD2.out.ref)
          have cX2 : ∀ p' : BelowOf w17, p'.v.cell? ⟨x, 2, none⟩ = some (.int .i64 nx') := fun p' => (HE4.out.below p'.bel).cell (idx + 4) HD2.out.at_ 2 rfl
          have cX5 : ∀ p' : BelowOf w17, p'.v.cell? ⟨x, 5, none⟩ = some (.int .i64 mv') := fun p' => (HE4.out.below p'.bel).cell (idx + 4) HD2.out.at_ 5 rfl
          have n2 : (mv' != mv') = false := by simp
          rcases HB.out.ere with e0 | e0
          · subst e0
            rw [← hnx] at hdn
            have hnz : (nx' == 0) = dn := by rw [hdn]; simp
            have n1 : (dn != dn) = false := by simp
            clear hdn hnx
            refine wp_region_quiet_below (by kernel_rfl) (by kernel_rfl) ?_
            repeat (go_big_quiet_step ((go_at_call 26; exact HMV.out _)))
            refine wpQuiet_nil ?_
            intro _ hw'
            obtain ⟨pq, hw''⟩ := hw'
            subst hw''
            have HE5 := Lib.hid (HE4.out.below pq.bel)
            clear cO cR cX2 cX5
            go_wp2_with fail
            go_meet
            case rel => exact ⟨rfl, HE5.out⟩
          · subst e0
            have hdn' : dn = false := by rw [hdn]; rfl
            subst hdn'
            clear hdn hnx
            refine wp_region_quiet_below (by kernel_rfl) (by kernel_rfl) ?_
            repeat (go_big_quiet_step ((go_at_call 26; exact HMV.out _)))
            refine wpQuiet_nil ?_
            intro _ hw'
            obtain ⟨pq, hw''⟩ := hw'
            subst hw''
            have HE5 := Lib.hid (HE4.out.below pq.bel)
            clear cO cR cX2 cX5
            go_wp2_with fail
            go_meet
            case rel => exact ⟨rfl, HE5.out⟩
      case rest =>
      obtain ⟨rfl, hE5⟩ := hcut
      have HE5 := Lib.hid hE5
      clear hE5 HE4
      go_upto_if 203 with fail
      go_cut [14] from 203 to 205 (fun y wx => ∃ did' : Int, y = .int .i64 did' ∧ wc = wx ∧ Sum4 l' did' ∧ did ≤ did' ∧ did' ≤ did + 1)
      case first =>
        as_aux_lemma =>
          cases op with
          | true =>
            obtain ⟨y1, y2⟩ := HB.out.yes rfl
            have hs := HSm.out.dl (by omega) wv y2
            rw [← y1] at hs
            have HS2 := Lib.hid hs
            clear y1 y2 hs
            go_wp2_with fail
            go_meet
            case rel => exact ⟨did + 1, by go_num, by first | trivial | rfl, HS2.out, by omega, by omega⟩
          | false =>
            have hs := HSm.out
            rw [← HB.out.no rfl] at hs
            have HS2 := Lib.hid hs
            clear hs
            go_wp2_with fail
            go_meet
            case rel => exact ⟨did, rfl, by first | trivial | rfl, HS2.out, by omega, by omega⟩
      case rest =>
      obtain ⟨did', rfl, rfl, hS2, hdd1, hdd2⟩ := hcut
      have hw5 := HB.out.wte
      have hn0 := hS2.lo 0
      have hn1 := hS2.lo 1
      have hn2 := hS2.lo 2
      have hn3 := hS2.lo 3
      have hsum := hS2.sum
      have HS2 := Lib.hid hS2
      obtain ⟨a0, ha0⟩ : ∃ v, l'.getD 0 0 = v := ⟨_, rfl⟩
      obtain ⟨a1, ha1⟩ : ∃ v, l'.getD 1 0 = v := ⟨_, rfl⟩
      obtain ⟨a2, ha2⟩ : ∃ v, l'.getD 2 0 = v := ⟨_, rfl⟩
      obtain ⟨a3, ha3⟩ : ∃ v, l'.getD 3 0 = v := ⟨_, rfl⟩
      rw [ha0] at hn0 hsum
      rw [ha1] at hn1 hsum
      rw [ha2] at hn2 hsum
      rw [ha3] at hn3 hsum
      have i1 : IntKind.i64.wrap (a0 + a1) = a0 + a1 := by rw [IntKind.wrap_i64]; omega
      have i2 : IntKind.i64.wrap (a0 + a1 + a2) = a0 + a1 + a2 := by rw [IntKind.wrap_i64]; omega
      have i3 : IntKind.i64.wrap (a0 + a1 + a2 + a3) = did' := by rw [IntKind.wrap_i64]; omega
      have n1 : (did' != did') = false := by simp
      have n2 : (wt' != wt') = false := by simp
      have n3 : ((bitsNat L' : Int) != (bitsNat L' : Int)) = false := by simp
      have HP0 : Hid (∀ p' : BelowOf wc, Calls Tryd.prog 32 #[.pointer (some ⟨p, 0, none⟩), .int .i64 0] p'.v fun e w' => e = .returned (.int .i64 a0) ∧ ∃ q2 : BelowOf wc, w' = q2.v) := Lib.hid (fun p' => by rw [← ha0, ← spM_steps 2 wt' (bitsNat L' : Nat) HS2.out.len 0 0 rfl (by omega)]; exact Calls.below_same p' (steps_any ⟨p, c, s⟩ _ 0 _ (HE5.out.below p'.bel).sp.2.mach))
      have HP1 : Hid (∀ p' : BelowOf wc, Calls Tryd.prog 32 #[.pointer (some ⟨p, 0, none⟩), .int .i64 1] p'.v fun e w' => e = .returned (.int .i64 a1) ∧ ∃ q2 : BelowOf wc, w' = q2.v) := Lib.hid (fun p' => by rw [← ha1, ← spM_steps 2 wt' (bitsNat L' : Nat) HS2.out.len 1 1 rfl (by omega)]; exact Calls.below_same p' (steps_any ⟨p, c, s⟩ _ 1 _ (HE5.out.below p'.bel).sp.2.mach))
      have HP2 : Hid (∀ p' : BelowOf wc, Calls Tryd.prog 32 #[.pointer (some ⟨p, 0, none⟩), .int .i64 2] p'.v fun e w' => e = .returned (.int .i64 a2) ∧ ∃ q2 : BelowOf wc, w' = q2.v) := Lib.hid (fun p' => by rw [← ha2, ← spM_steps 2 wt' (bitsNat L' : Nat) HS2.out.len 2 2 rfl (by omega)]; exact Calls.below_same p' (steps_any ⟨p, c, s⟩ _ 2 _ (HE5.out.below p'.bel).sp.2.mach))
      have HP3 : Hid (∀ p' : BelowOf wc, Calls Tryd.prog 32 #[.pointer (some ⟨p, 0, none⟩), .int .i64 3] p'.v fun e w' => e = .returned (.int .i64 a3) ∧ ∃ q2 : BelowOf wc, w' = q2.v) := Lib.hid (fun p' => by rw [← ha3, ← spM_steps 2 wt' (bitsNat L' : Nat) HS2.out.len 3 3 rfl (by omega)]; exact Calls.below_same p' (steps_any ⟨p, c, s⟩ _ 3 _ (HE5.out.below p'.bel).sp.2.mach))
      have HK0 : Hid (∀ p' : BelowOf wc, Calls Tryd.prog 34 #[.pointer (some ⟨p, 0, none⟩), .int .i64 0] p'.v fun e w' => e = .returned (.int .i64 wt') ∧ ∃ q2 : BelowOf wc, w' = q2.v) := Lib.hid (fun p' => Calls.below_same p' (peek_any ⟨p, c, s⟩ _ 0 _ (HE5.out.below p'.bel).sp.2.mach))
      have HK1 : Hid (∀ p' : BelowOf wc, Calls Tryd.prog 34 #[.pointer (some ⟨p, 0, none⟩), .int .i64 1] p'.v fun e w' => e = .returned (.int .i64 (bitsNat L' : Nat)) ∧ ∃ q2 : BelowOf wc, w' = q2.v) := Lib.hid (fun p' => Calls.below_same p' (peek_any ⟨p, c, s⟩ _ 1 _ (HE5.out.below p'.bel).sp.2.mach))
      have HBl : Hid (∀ p' : BelowOf wc, Calls Tryd.prog 30 #[.agg #[.int .i64 0, .int .i64 B, .int .i64 M], .pointer (some ⟨p, 0, none⟩)] p'.v fun e w' => e = .returned (.int .i64 wt') ∧ ∃ q2 : BelowOf wc, w' = q2.v) := Lib.hid (fun p' => Calls.below_of p' (HE5.out.below p'.bel).blocked)
      clear ha0 ha1 ha2 ha3 hS2 hsum
      go_upto_region 28 with fail
      have cS : ∀ (p' : BelowOf wc) (i : Nat), p'.v.cell? ⟨bS, i, none⟩ = [Value.int .i64 0, .int .i64 B, .int .i64 M][i]? := fun p' => ((HE5.out.below p'.bel).blk 0 _ _ _ rfl).1.cell
      have cr0 : ∀ p' : BelowOf wc, p'.v.cell? ⟨rB, 0, none⟩ = some (.int .i64 wt') := fun p' => (HE5.out.below p'.bel).cell 1 rfl 0 rfl
      have cr1 : ∀ p' : BelowOf wc, p'.v.cell? ⟨rB, 1, none⟩ = some (.int .i64 (bitsNat L' : Nat)) := fun p' => (HE5.out.below p'.bel).cell 1 rfl 1 rfl
      refine wp_region_quiet_below (by kernel_rfl) (by kernel_rfl) ?_
      repeat (go_big_quiet_step (first
        | (go_at_call 32; with_reducible first | exact HP0.out _ | exact HP1.out _ | exact HP2.out _ | exact HP3.out _)
        | (go_at_call 34; with_reducible first | exact HK0.out _ | exact HK1.out _)
        | (go_at_call 30; exact HBl.out _)))
      refine wpQuiet_nil ?_
      intro _ hw'
      obtain ⟨pq, hw''⟩ := hw'
      subst hw''
      have HE6 := Lib.hid (HE5.out.below pq.bel)
      clear cS cr0 cr1 HE5
      go_wp2_with fail
      go_roundw
      case rel => exact ⟨k + 1, did', wt', l', L', _, _, _, by omega, by omega, by omega, by omega, by omega, rfl, by go_num, HS2.out, HE6.out, HC2.out⟩
      case measure => simp [intOf]; omega
    · obtain rfl : k = n := by omega
      have HE := Lib.hid hE
      clear hE
      go_wp2_with fail
      refine (awake18_any wr HE.out.tab).mono ?_
      rintro e w11 ⟨rfl, hb11⟩
      have hbel := HE.out.bel.trans (hb11.mono HE.out.bel.size)
      clear hb11 HE
      go_wp2_with fail
      go_ret
      exact ⟨rfl, hbel⟩
end Go.Proofs.YtkilghhknimolaaDoor
