/-
  WHAT IS PROVED HERE: pelotonlaw18's awake returns true. Conditions: the table math/bits.deBruijn64tab lies as its initialiser lays it.
-/
import Derived.Test.YtkilghhknimolaaDoorSpareI
namespace Go.Proofs.YtkilghhknimolaaDoor
open Go.RowKit

deriving instance DecidableEq for OS
deriving instance DecidableEq for PS
instance (s : PS) : Decidable (OkP s) := by unfold OkP; infer_instance
theorem aw1 : itP 2 1 3 ⟨0, 0, begQ 0 0⟩ = ⟨1, 4, ⟨2, 1, 0, 2, 0⟩⟩ ∧ Runs 2 1 ⟨0, 0, begQ 0 0⟩ 3 := ⟨by decide +kernel, by decide, by decide, by decide +kernel, by decide +kernel⟩
theorem aw2 : itP 2 1 2 ⟨1, 4, begQ 0 0⟩ = ⟨2, 4, ⟨0, 2, 4, -1, 0⟩⟩ ∧ Runs 2 1 ⟨1, 4, begQ 0 0⟩ 2 := ⟨by decide +kernel, by decide, by decide, by decide +kernel, by decide +kernel⟩
theorem aw3 : itP 2 1 2 ⟨2, 4, begQ 2 2⟩ = ⟨2, 4, ⟨2, 2, 4, -1, 0⟩⟩ ∧ Runs 2 1 ⟨2, 4, begQ 2 2⟩ 2 := ⟨by decide +kernel, by decide, by decide, by decide +kernel, by decide +kernel⟩
theorem aw4 : itP 2 1 1 ⟨2, 4, begQ 1 0⟩ = ⟨1, 4, ⟨0, 0, 0, -1, 0⟩⟩ ∧ Runs 2 1 ⟨2, 4, begQ 1 0⟩ 1 := ⟨by decide +kernel, by decide, by decide, by decide +kernel, by decide +kernel⟩
theorem aw5 : itP 2 1 1 ⟨1, 4, begQ 1 0⟩ = ⟨0, 4, ⟨0, 0, 0, -1, 0⟩⟩ ∧ Runs 2 1 ⟨1, 4, begQ 1 0⟩ 1 := ⟨by decide +kernel, by decide, by decide, by decide +kernel, by decide +kernel⟩
theorem aw6 : itP 2 1 3 ⟨0, 4, begQ 2 2⟩ = ⟨0, 0, ⟨2, 0, 4, 2, 0⟩⟩ ∧ Runs 2 1 ⟨0, 4, begQ 2 2⟩ 3 := ⟨by decide +kernel, by decide, by decide, by decide +kernel, by decide +kernel⟩
theorem bv4 : bitsV 2 4 = 7 := by decide +kernel
theorem bv0 : bitsV 2 0 = 3 := by decide +kernel
set_option maxRecDepth 20000 in
set_option maxHeartbeats 4000000 in
theorem awake18_any (w : World) (hT : Tab w) :
    Calls Tryd.prog 33 #[] w fun e w' => e = .returned (.bool true) ∧ Below w.heap.size w w' := by
  have HT0 := Lib.hid hT
  clear hT
  go_enter Tryd.func33, Tryd.ntmps33
  go_wp2_with fail
  refine (new_ok 2 3 _ (by omega) (by omega) (by omega) (by omega)).mono ?_
  rintro e w1 ⟨p, s, rfl, hm1, hk1, hp, hsl⟩
  have hb1 : Below w.heap.size w w1 := hk1.below (Nat.le_refl _) (fun _ h => h.elim)
  have hn := new_okS hm1 3 2 1 (by unfold i64B; omega) (by decide) (by decide +kernel) (by decide +kernel) (by decide +kernel)
  have HN := Lib.hid hn
  have HB1 := Lib.hid hb1
  clear hn hb1 hm1 hk1
  go_wp2_with fail
  refine HN.out.mono ?_
  rintro e w2 ⟨rfl, hk2, c, hc, hm2⟩
  have hW2 : SpW w w2 ⟨p, c, s⟩ 2 1 2 [0, 0, 0, 1] 0 0 (List.replicate 4 none) := SpW.first (b := 2) (m := 1) (sz := 2) (l := [0, 0, 0, 1]) w HT0.out HB1.out hp hsl hc hk2 (by decide) (st := ((MS.fresh 2 (Int.toNat 3)).did 3).more 2) (by first | rfl | kernel_rfl) hm2 4
  rw [show spV ((MS.fresh 2 (3 : Int).toNat).cells.length : Nat) 2 1 = .agg #[.int .i64 0, .int .i64 2, .int .i64 1] from rfl]
  clear hm2 hk2 HN HB1 hp hsl hc
  have b3 := Blk.new w2 42 [.int .i64 0, .int .i64 2, .int .i64 1]
  have hW3 : SpW w (w2.alloc (.cells #[.int .i64 0, .int .i64 2, .int .i64 1] 42)) ⟨p, c, s⟩ 2 1 2 [0, 0, 0, 1] 0 0 (List.replicate 4 none) := hW2.below ((Below.refl _ _).alloc (Nat.le_refl _) _)
  have nb : ¬ (⟨p, c, s⟩ : MB).has w2.heap.size := fun e => by have := hW2.mach.lt _ e; omega
  have c3 := b3.cell
  have HBS3 := Lib.hid b3
  have HW3 := Lib.hid hW3
  clear b3 hW3 hW2
  go_upto_region 5 with fail
  obtain ⟨bS, hbS⟩ : ∃ b, w2.heap.size = b := ⟨_, rfl⟩
  rw [hbS] at nb c3 HBS3 ⊢
  generalize (w2.alloc (.cells #[.int .i64 0, .int .i64 2, .int .i64 1] 42)) = w3 at *
  change Hid (Blk w3 bS 42 [.int .i64 0, .int .i64 2, .int .i64 1]) at HBS3
  change Hid (SpW w w3 ⟨p, c, s⟩ 2 1 2 [0, 0, 0, 1] 0 0 (List.replicate 4 none)) at HW3
  go_wp2_with fail
  have h4 := HW3.out.block 0
  unfold spV at h4
  refine h4.mono ?_
  rintro e w4 ⟨oa, rfl, ho4, hb4, hW4⟩
  have neoa : oa ≠ bS := by have := HBS3.out.lt; omega
  have HBS4 := Lib.hid (HBS3.out.below hb4 HBS3.out.lt)
  have HW4 := Lib.hid hW4
  have c4 := HBS4.out.cell
  clear h4 hb4 hW4 ho4 c3 HBS3 HW3
  go_wp2_with fail
  have h5 := HW4.out.block 1
  unfold spV at h5
  refine h5.mono ?_
  rintro e w5 ⟨ob, rfl, ho5, hb5, hW5⟩
  have neob : ob ≠ bS := by have := HBS4.out.lt; omega
  have HBS5 := Lib.hid (HBS4.out.below hb5 HBS4.out.lt)
  have HW5 := Lib.hid hW5
  have c5 := HBS5.out.cell
  clear h5 hb5 hW5 ho5 c4 HBS4 HW4
  go_wp2_with fail
  have h6 := HW5.out.retire 2 2
  unfold spV at h6
  refine h6.mono ?_
  rintro e w6 ⟨oc, rfl, ho6, hb6, hW6⟩
  have neoc : oc ≠ bS := by have := HBS5.out.lt; omega
  have HBS6 := Lib.hid (HBS5.out.below hb6 HBS5.out.lt)
  have HW6 := Lib.hid hW6
  have c6 := HBS6.out.cell
  clear h6 hb6 hW6 ho6 c5 HBS5 HW5
  go_wp2_with fail
  refine (HW6.out.run (k := 0) rfl 3 _ aw1.1 aw1.2 0 (by decide +kernel) 3 rfl).mono ?_
  rintro e w7 ⟨rfl, hW7, hk7⟩
  have HBS7 := Lib.hid (HBS6.out.kept hk7 (by rintro (e | e); exact nb e; exact neoa e.symm))
  have HW7 := Lib.hid hW7
  have c7 := HBS7.out.cell
  clear hk7 hW7 c6 HBS6 HW6
  go_wp2_with fail
  refine (HW7.out.moved (k := 0) rfl (2) rfl).mono ?_
  rintro e wn ⟨rfl, rfl⟩
  go_wp2_with fail
  have h8 := HW7.out.bits 7 bv4
  unfold spV at h8
  refine h8.mono ?_
  rintro e w8 ⟨rfl, hW8, hb8⟩
  have HBS8 := Lib.hid (HBS7.out.below hb8 HBS7.out.lt)
  have HW8 := Lib.hid hW8
  have c8 := HBS8.out.cell
  clear h8 hb8 hW8 c7 HBS7 HW7
  go_wp2_with fail
  refine (HW8.out.run (k := 1) rfl 2 _ aw2.1 aw2.2 1 (by decide +kernel) 2 rfl).mono ?_
  rintro e w9 ⟨rfl, hW9, hk9⟩
  have HBS9 := Lib.hid (HBS8.out.kept hk9 (by rintro (e | e); exact nb e; exact neob e.symm))
  have HW9 := Lib.hid hW9
  have c9 := HBS9.out.cell
  clear hk9 hW9 c8 HBS8 HW8
  go_wp2_with fail
  refine (HW9.out.moved (k := 1) rfl (-1) rfl).mono ?_
  rintro e wn ⟨rfl, rfl⟩
  go_wp2_with fail
  refine (HW9.out.run (k := 2) rfl 2 _ aw3.1 aw3.2 2 (by decide +kernel) 2 rfl).mono ?_
  rintro e w10 ⟨rfl, hW10, hk10⟩
  have HBS10 := Lib.hid (HBS9.out.kept hk10 (by rintro (e | e); exact nb e; exact neoc e.symm))
  have HW10 := Lib.hid hW10
  have c10 := HBS10.out.cell
  clear hk10 hW10 c9 HBS9 HW9
  go_wp2_with fail
  refine (HW10.out.moved (k := 2) rfl (-1) rfl).mono ?_
  rintro e wn ⟨rfl, rfl⟩
  go_wp2_with fail
  have h11 := HW10.out.blocked
  unfold spV at h11
  refine h11.mono ?_
  rintro e w11 ⟨rfl, hW11, hb11⟩
  have HBS11 := Lib.hid (HBS10.out.below hb11 HBS10.out.lt)
  have HW11 := Lib.hid hW11
  have c11 := HBS11.out.cell
  clear h11 hb11 hW11 c10 HBS10 HW10
  go_wp2_with fail
  have h12 := HW11.out.retire 0 2
  unfold spV at h12
  refine h12.mono ?_
  rintro e w12 ⟨od, rfl, ho12, hb12, hW12⟩
  have neod : od ≠ bS := by have := HBS11.out.lt; omega
  have HBS12 := Lib.hid (HBS11.out.below hb12 HBS11.out.lt)
  have HW12 := Lib.hid hW12
  have c12 := HBS12.out.cell
  clear h12 hb12 hW12 ho12 c11 HBS11 HW11
  go_wp2_with fail
  have h13 := HW12.out.resume 1
  unfold spV at h13
  refine h13.mono ?_
  rintro e w13 ⟨oe, rfl, ho13, hb13, hW13⟩
  have neoe : oe ≠ bS := by have := HBS12.out.lt; omega
  have HBS13 := Lib.hid (HBS12.out.below hb13 HBS12.out.lt)
  have HW13 := Lib.hid hW13
  have c13 := HBS13.out.cell
  clear h13 hb13 hW13 ho13 c12 HBS12 HW12
  go_wp2_with fail
  refine (HW13.out.run (k := 1) rfl 1 _ aw4.1 aw4.2 0 (by decide +kernel) 1 rfl).mono ?_
  rintro e w14 ⟨rfl, hW14, hk14⟩
  have HBS14 := Lib.hid (HBS13.out.kept hk14 (by rintro (e | e); exact nb e; exact neoe e.symm))
  have HW14 := Lib.hid hW14
  have c14 := HBS14.out.cell
  clear hk14 hW14 c13 HBS13 HW13
  go_wp2_with fail
  have h15 := HW14.out.resume 1
  unfold spV at h15
  refine h15.mono ?_
  rintro e w15 ⟨of, rfl, ho15, hb15, hW15⟩
  have neof : of ≠ bS := by have := HBS14.out.lt; omega
  have HBS15 := Lib.hid (HBS14.out.below hb15 HBS14.out.lt)
  have HW15 := Lib.hid hW15
  have c15 := HBS15.out.cell
  clear h15 hb15 hW15 ho15 c14 HBS14 HW14
  go_wp2_with fail
  refine (HW15.out.run (k := 1) rfl 1 _ aw5.1 aw5.2 1 (by decide +kernel) 1 rfl).mono ?_
  rintro e w16 ⟨rfl, hW16, hk16⟩
  have HBS16 := Lib.hid (HBS15.out.kept hk16 (by rintro (e | e); exact nb e; exact neof e.symm))
  have HW16 := Lib.hid hW16
  have c16 := HBS16.out.cell
  clear hk16 hW16 c15 HBS15 HW15
  go_wp2_with fail
  refine (HW16.out.run (k := 0) rfl 3 _ aw6.1 aw6.2 2 (by decide +kernel) 3 rfl).mono ?_
  rintro e w17 ⟨rfl, hW17, hk17⟩
  have HBS17 := Lib.hid (HBS16.out.kept hk17 (by rintro (e | e); exact nb e; exact neod e.symm))
  have HW17 := Lib.hid hW17
  have c17 := HBS17.out.cell
  clear hk17 hW17 c16 HBS16 HW16
  go_wp2_with fail
  refine (HW17.out.moved (k := 0) rfl (2) rfl).mono ?_
  rintro e wn ⟨rfl, rfl⟩
  go_wp2_with fail
  have h18 := HW17.out.bits 3 bv0
  unfold spV at h18
  refine h18.mono ?_
  rintro e w18 ⟨rfl, hW18, hb18⟩
  have HBS18 := Lib.hid (HBS17.out.below hb18 HBS17.out.lt)
  have HW18 := Lib.hid hW18
  have c18 := HBS18.out.cell
  clear h18 hb18 hW18 c17 HBS17 HW17
  go_wp2_with fail
  go_ret
  exact ⟨rfl, HW18.out.bel⟩
end Go.Proofs.YtkilghhknimolaaDoor
