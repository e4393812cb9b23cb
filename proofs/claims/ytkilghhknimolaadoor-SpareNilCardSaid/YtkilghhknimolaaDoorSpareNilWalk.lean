/-
  WHAT IS PROVED HERE: the walk of SpareNil. Conditions: the table math/bits.deBruijn64tab lies as its initialiser lays it.
-/
import Derived.Test.YtkilghhknimolaaDoorSpareK
import Derived.Test.YtkilghhknimolaaDoorArgs
namespace Go.Proofs.YtkilghhknimolaaDoor
open Go.RowKit

set_option maxRecDepth 20000 in
set_option maxHeartbeats 8000000 in
theorem nil_any (W : World) (hT : Tab W) (b m : Int) (him : i64B m) (sl dv self wv : Int) :
    Calls Tryd.prog 5 #[.int .i64 b, .int .i64 m, .agg #[.int .i64 sl, .int .i64 dv, .int .i64 self, .int .i64 wv]] W fun e w' => e = .returned (.bool true) ∧ Below W.heap.size W w' := by
  obtain ⟨kd, hkd, hkk⟩ := pick3 dv
  have HT := Lib.hid hT
  have BT0 := Lib.hid (Blk.new W 35 [.int .i64 sl, .int .i64 dv, .int .i64 self, .int .i64 wv])
  have HB0 : Hid (Below W.heap.size W (W.alloc (.cells #[.int .i64 sl, .int .i64 dv, .int .i64 self, .int .i64 wv] 35))) := Lib.hid ((Below.refl _ W).alloc (Nat.le_refl _) _)
  have hz : (W.alloc (.cells #[.int .i64 sl, .int .i64 dv, .int .i64 self, .int .i64 wv] 35)).heap.size = W.heap.size + 1 := by simp
  clear hT
  go_enter Tryd.func5, Tryd.ntmps5
  go_wp2_with fail
  refine (new_ok 3 3 _ (by omega) (by omega) (by omega) (by omega)).mono ?_
  rintro e w1 ⟨p, s, rfl, hm1, hk1, hp, hsl⟩
  have hb1 : Below W.heap.size W w1 := HB0.out.trans (hk1.below (by omega) (fun _ h => h.elim))
  have bt1 := BT0.out.kept hk1 (fun h => h.elim)
  have hn := new_okS hm1 3 1 1 (by unfold i64B; omega) (by decide) (by decide +kernel) (by decide +kernel) (by decide +kernel)
  have BT1 := Lib.hid bt1
  have HN := Lib.hid hn
  have HB1 := Lib.hid hb1
  clear hn hb1 hm1 hk1 bt1 BT0 HB0
  go_wp2_with fail
  refine HN.out.mono ?_
  rintro e w2 ⟨rfl, hk2, c, hc, hm2⟩
  have hW2 : SpW W w2 ⟨p, c, s⟩ 1 1 3 [0, 0, 0, 1] 0 0 (List.replicate 0 none) := SpW.first (b := 1) (m := 1) (sz := 3) (l := [0, 0, 0, 1]) W HT.out HB1.out (by omega) (by omega) hc hk2 (by decide) (st := ((MS.fresh 3 (Int.toNat 3)).did 3).more 2) (by first | rfl | kernel_rfl) hm2 0
  rw [show spV ((MS.fresh 3 (3 : Int).toNat).cells.length : Nat) 1 1 = .agg #[.int .i64 0, .int .i64 1, .int .i64 1] from rfl]
  have nb1 : ¬ (⟨p, p, s⟩ : MB).has W.heap.size := by
    rintro (e | e | e)
    · have e' : W.heap.size = p := e; omega
    · have e' : W.heap.size = p := e; omega
    · have e' : W.heap.size = s := e; omega
  have nb : ¬ (⟨p, c, s⟩ : MB).has W.heap.size := by
    have := BT1.out.lt
    rintro (e | e | e)
    · have e' : W.heap.size = p := e; omega
    · have e' : W.heap.size = c := e; omega
    · have e' : W.heap.size = s := e; omega
  have bt2 := BT1.out.kept hk2 nb1
  generalize hbT : W.heap.size = bT at *
  have b3 := Blk.new w2 42 [.int .i64 0, .int .i64 1, .int .i64 1]
  have hb3 : Below w2.heap.size w2 (w2.alloc (.cells #[.int .i64 0, .int .i64 1, .int .i64 1] 42)) := (Below.refl _ _).alloc (Nat.le_refl _) _
  have hW3 := hW2.below hb3
  have bt3 := bt2.below hb3 bt2.lt
  have ct := bt3.cell
  have c3 := b3.cell
  have BS := Lib.hid b3
  have HW := Lib.hid hW3
  have BT := Lib.hid bt3
  clear b3 hW3 hW2 bt3 bt2 hb3 hm2 hk2 HN HB1 BT1 nb1 hp hsl hc hz
  go_upto_region 4 with fail
  obtain ⟨bS, hbS⟩ : ∃ b, w2.heap.size = b := ⟨_, rfl⟩
  rw [hbS] at c3 BS ⊢
  generalize (w2.alloc (.cells #[.int .i64 0, .int .i64 1, .int .i64 1] 42)) = w3 at *
  change Hid (Blk w3 bS 42 [.int .i64 0, .int .i64 1, .int .i64 1]) at BS
  change Hid (SpW W w3 ⟨p, c, s⟩ 1 1 3 [0, 0, 0, 1] 0 0 []) at HW
  change Hid (Blk w3 bT 35 [.int .i64 sl, .int .i64 dv, .int .i64 self, .int .i64 wv]) at BT
  clear hbS
  go_wp2_with fail
  refine (new_nomach wv b m w3).mono ?_
  rintro e w4 ⟨rfl, hb4⟩
  unfold spV
  have hb5 : Below w3.heap.size w3 (w4.alloc (.cells #[.int .i64 0, .int .i64 0, .int .i64 0] 42)) := hb4.alloc hb4.size _
  have b5 := Blk.new w4 42 [.int .i64 0, .int .i64 0, .int .i64 0]
  have BS5 := Lib.hid (BS.out.below hb5 BS.out.lt)
  have BT5 := Lib.hid (BT.out.below hb5 BT.out.lt)
  have HW5 := Lib.hid (HW.out.below hb5)
  have ct5 := BT5.out.cell
  have c5 := b5.cell
  clear BS BT HW hb5 b5 hb4 ct c3
  go_upto_region 5 with fail
  obtain ⟨bN, hbN⟩ : ∃ b, w4.heap.size = b := ⟨_, rfl⟩
  rw [hbN] at c5 ⊢
  generalize (w4.alloc (.cells #[.int .i64 0, .int .i64 0, .int .i64 0] 42)) = w5 at *
  clear hbN
  go_wp2_with fail
  refine (step_nil _ _ w5).mono ?_
  rintro e wn ⟨rfl, rfl⟩
  go_wp2_with fail
  refine (moved_nil w5).mono ?_
  rintro e wn ⟨rfl, rfl⟩
  go_upto_region 8 with fail
  have b6 := Blk.new w5 42 [.int .i64 0, .int .i64 b, .int .i64 m]
  have hb6 : Below w5.heap.size w5 (w5.alloc (.cells #[.int .i64 0, .int .i64 b, .int .i64 m] 42)) := (Below.refl _ _).alloc (Nat.le_refl _) _
  have BS6 := Lib.hid (BS5.out.below hb6 BS5.out.lt)
  have BT6 := Lib.hid (BT5.out.below hb6 BT5.out.lt)
  have HW6 := Lib.hid (HW5.out.below hb6)
  have BX6 := Lib.hid b6
  have ct6 := BT6.out.cell
  have cx6 := b6.cell
  clear BS5 BT5 HW5 hb6 b6 ct5 c5
  go_upto_region 9 with fail
  obtain ⟨bX, hbX⟩ : ∃ b, w5.heap.size = b := ⟨_, rfl⟩
  rw [hbX] at cx6 BX6 ⊢
  generalize (w5.alloc (.cells #[.int .i64 0, .int .i64 b, .int .i64 m] 42)) = w6 at *
  change Hid (Blk w6 bX 42 [.int .i64 0, .int .i64 b, .int .i64 m]) at BX6
  clear hbX
  have h7 := begin_ok b m self dv kd hkd hkk w6
  unfold spV at h7
  have H7 := Lib.hid h7
  clear h7
  go_wp2_with fail
  refine H7.out.mono ?_
  rintro e w7 ⟨o, rfl, ho, hq7, hb7⟩
  have BS7 := Lib.hid (BS6.out.below hb7 BS6.out.lt)
  have BT7 := Lib.hid (BT6.out.below hb7 BT6.out.lt)
  have BX7 := Lib.hid (BX6.out.below hb7 BX6.out.lt)
  have neo : bT ≠ o := by have := BT6.out.lt; omega
  have HBW7 := Lib.hid hb7
  have HQ7 := Lib.hid hq7
  have ct7 := BT7.out.cell
  clear BS6 BT6 BX6 H7 hb7 hq7 ct6 cx6
  go_wp2_with fail
  refine (step_nomach o _ w7).mono ?_
  rintro e wn ⟨rfl, rfl⟩
  have cx7 := BX7.out.cell
  have h8 := bits_nomach 0 b m w7
  unfold spV at h8
  have H8 := Lib.hid h8
  clear h8
  go_wp2_with fail
  refine H8.out.mono ?_
  rintro e w8 ⟨rfl, hb8⟩
  have BS8 := Lib.hid (BS7.out.below hb8 BS7.out.lt)
  have BT8 := Lib.hid (BT7.out.below hb8 BT7.out.lt)
  have BX8 := Lib.hid (BX7.out.below hb8 BX7.out.lt)
  have HBW8 := Lib.hid (HBW7.out.trans (hb8.mono HBW7.out.size))
  have HQ8 := Lib.hid (HQ7.out.below hb8 HQ7.out.lt)
  have ct8 := BT8.out.cell
  have cx8 := BX8.out.cell
  clear BS7 BT7 BX7 H8 HBW7 HQ7 ct7 cx7 hb8
  have h9 := on_nomach b m self w8
  rw [hasBit_zero] at h9
  unfold spV at h9
  have H9 := Lib.hid h9
  clear h9
  go_wp2_with fail
  refine H9.out.mono ?_
  rintro e w9 ⟨rfl, hb9⟩
  have BS9 := Lib.hid (BS8.out.below hb9 BS8.out.lt)
  have BT9 := Lib.hid (BT8.out.below hb9 BT8.out.lt)
  have BX9 := Lib.hid (BX8.out.below hb9 BX8.out.lt)
  have HBW9 := Lib.hid (HBW8.out.trans (hb9.mono HBW8.out.size))
  have HQ9 := Lib.hid (HQ8.out.below hb9 HQ8.out.lt)
  have cx9 := BX9.out.cell
  clear BS8 BT8 BX8 H9 HBW8 HQ8 ct8 cx8 hb9
  have h10 := blocked_nomach 0 b m w9
  unfold spV at h10
  have H10 := Lib.hid h10
  clear h10
  go_wp2_with fail
  refine H10.out.mono ?_
  rintro e w10 ⟨rfl, hb10⟩
  have BS10 := Lib.hid (BS9.out.below hb10 BS9.out.lt)
  have BT10 := Lib.hid (BT9.out.below hb10 BT9.out.lt)
  have BX10 := Lib.hid (BX9.out.below hb10 BX9.out.lt)
  have HBW10 := Lib.hid (HBW9.out.trans (hb10.mono HBW9.out.size))
  have HQ10 := Lib.hid (HQ9.out.below hb10 HQ9.out.lt)
  have cs10 := BS10.out.cell
  clear BS9 BT9 BX9 H10 HBW9 HQ9 cx9 hb10
  have h11 := bits_nomach 0 1 1 w10
  unfold spV at h11
  have H11 := Lib.hid h11
  clear h11
  go_wp2_with fail
  refine H11.out.mono ?_
  rintro e w11 ⟨rfl, hb11⟩
  have BT11 := Lib.hid (BT10.out.below hb11 BT10.out.lt)
  have BX11 := Lib.hid (BX10.out.below hb11 BX10.out.lt)
  have HBW11 := Lib.hid (HBW10.out.trans (hb11.mono HBW10.out.size))
  have HQ11 := Lib.hid (HQ10.out.below hb11 HQ10.out.lt)
  clear BS10 BT10 BX10 H11 HBW10 HQ10 cs10 hb11
  go_wp2_with fail
  refine (rright_ok b m w11).mono ?_
  rintro e wn ⟨rfl, rfl⟩
  have cx11 := BX11.out.cell
  have ct11 := BT11.out.cell
  cases hr : rightB b m with
  | false =>
    have hw11 := HW6.out.below HBW11.out
    have HW11 := Lib.hid hw11
    have h12 := step_wrong HQ11.out hr him wv ⟨p, 0, none⟩
    have H12 := Lib.hid h12
    clear h12 hw11 HW6 HBW11
    go_wp2_with fail
    refine H12.out.mono ?_
    rintro e w12 ⟨rfl, hb12⟩
    have BT12 := Lib.hid (BT11.out.below hb12 BT11.out.lt)
    have BX12 := Lib.hid (BX11.out.below hb12 BX11.out.lt)
    have HW12 := Lib.hid (HW11.out.below hb12)
    have HQ12 := HQ11.out.below hb12 HQ11.out.lt
    have hmv : Calls Tryd.prog 26 #[.pointer (some ⟨o, 0, none⟩)] w12 fun e w' => e = .returned (.int .i64 (-1)) ∧ w12 = w' := by
      have hcase : kd = 0 ∨ kd = 1 ∨ kd = 2 := by omega
      rcases hcase with rfl | rfl | rfl <;> exact moved_ok HQ12
    have HMV := Lib.hid hmv
    have ct12 := BT12.out.cell
    have cx12 := BX12.out.cell
    clear hmv HQ12 hb12 HQ11 HW11 BT11 BX11 H12 ct11 cx11
    go_wp2_with fail
    refine HMV.out.mono ?_
    rintro e wn ⟨rfl, rfl⟩
    have h13 := bits_wrong 0 b m ⟨p, 0, none⟩ him hr w12
    unfold spV at h13
    have H13 := Lib.hid h13
    clear h13 HMV
    go_wp2_with fail
    refine H13.out.mono ?_
    rintro e w13 ⟨rfl, hb13⟩
    have BT13 := Lib.hid (BT12.out.below hb13 BT12.out.lt)
    have BX13 := Lib.hid (BX12.out.below hb13 BX12.out.lt)
    have HW13 := Lib.hid (HW12.out.below hb13)
    have ct13 := BT13.out.cell
    have cx13 := BX13.out.cell
    clear HW12 BT12 BX12 H13 hb13 ct12 cx12
    have h14 := on_wrong b m ⟨p, 0, none⟩ him hr self w13
    rw [hasBit_zero] at h14
    unfold spV at h14
    have H14 := Lib.hid h14
    clear h14
    go_wp2_with fail
    refine H14.out.mono ?_
    rintro e w14 ⟨rfl, hb14⟩
    have BX14 := Lib.hid (BX13.out.below hb14 BX13.out.lt)
    have HW14 := Lib.hid (HW13.out.below hb14)
    have cx14 := BX14.out.cell
    clear HW13 BT13 BX13 H14 hb14 ct13 cx13
    have h15 := blocked_wrong 0 b m ⟨p, 0, none⟩ him hr w14
    unfold spV at h15
    have H15 := Lib.hid h15
    clear h15
    go_wp2_with fail
    refine H15.out.mono ?_
    rintro e w15 ⟨rfl, hb15⟩
    have HW15 := Lib.hid (HW14.out.below hb15)
    clear HW14 BX14 H15 hb15 cx14
    go_wp2_with fail
    refine (steps_any ⟨p, c, s⟩ _ 0 _ HW15.out.mach).mono ?_
    rintro e wn ⟨rfl, rfl⟩
    rw [show (spM 3 [0, 0, 0, 1] 0 0).stepsOf 0 = 0 from rfl]
    go_wp2_with fail
    refine (steps_any ⟨p, c, s⟩ _ 1 _ HW15.out.mach).mono ?_
    rintro e wn ⟨rfl, rfl⟩
    rw [show (spM 3 [0, 0, 0, 1] 0 0).stepsOf 1 = 0 from rfl]
    go_wp2_with fail
    refine (steps_any ⟨p, c, s⟩ _ 2 _ HW15.out.mach).mono ?_
    rintro e wn ⟨rfl, rfl⟩
    rw [show (spM 3 [0, 0, 0, 1] 0 0).stepsOf 2 = 0 from rfl]
    go_wp2_with fail
    refine (steps_any ⟨p, c, s⟩ _ 3 _ HW15.out.mach).mono ?_
    rintro e wn ⟨rfl, rfl⟩
    rw [show (spM 3 [0, 0, 0, 1] 0 0).stepsOf 3 = 1 from rfl]
    go_wp2_with fail
    refine (awake18_any w15 HW15.out.tab).mono ?_
    rintro e w16 ⟨rfl, hb16⟩
    have hbel := HW15.out.bel.trans (hb16.mono HW15.out.bel.size)
    clear hb16 HW15
    rw [← hbT]
    go_wp2_with fail
    go_ret
    exact ⟨rfl, hbel⟩
  | true =>
    have hb1 : 1 ≤ b ∧ b ≤ 16 := by
      unfold rightB at hr
      rw [decide_eq_true_iff] at hr
      omega
    obtain ⟨B, rfl⟩ := Int.eq_ofNat_of_zero_le (show 0 ≤ b by omega)
    have hw11 : SpW W w11 ⟨p, c, s⟩ B m 3 [0, 0, 0, 1] 0 0 [some (o, begQ kd self)] := (HW6.out.again hr 1).lay HBW11.out ho HQ11.out 0
    have hok : OkP ⟨0, 0, begQ kd self⟩ := by
      have hcase : kd = 0 ∨ kd = 1 ∨ kd = 2 := by omega
      rcases hcase with rfl | rfl | rfl <;> exact ⟨by simp [begQ], by simp [begQ], fun h => by simp [begQ] at h⟩
    have h12 := hw11.step_no (k := 0) rfl hok (-1) (by decide)
    have H12 := Lib.hid h12
    clear h12 hw11 HW6 HBW11 HQ11
    go_wp2_with fail
    refine H12.out.mono ?_
    rintro e w12 ⟨rfl, hw12, hk12⟩
    have BT12 := Lib.hid (BT11.out.kept hk12 (by rintro (e | e); exact nb e; exact neo e))
    have HW12 : Hid (SpW W w12 ⟨p, c, s⟩ B m 3 [0, 0, 0, 1] 0 0 [some (o, begQ kd self)]) := Lib.hid hw12
    clear H12 hw12 hk12 BT11 ct11 cx11 BX11
    go_wp2_with fail
    refine (peek_any ⟨p, c, s⟩ _ 0 _ HW12.out.mach).mono ?_
    rintro e wn ⟨rfl, rfl⟩
    rw [spM_cell0]
    have h13 := new_full HW12.out.mach 0 B m him hr (by decide +kernel) (by simp [spM]) (by simp [spM]) (by simp [spM])
    have H13 := Lib.hid h13
    clear h13
    go_wp2_with fail
    refine H13.out.mono ?_
    rintro e w13 ⟨rfl, hb13⟩
    have BT13 := Lib.hid (BT12.out.below hb13 BT12.out.lt)
    have HW13 := Lib.hid (HW12.out.below hb13)
    clear H13 hb13 BT12 HW12
    obtain ⟨dn, hdn⟩ : ∃ dn, ((stepP B m ⟨0, 0, begQ kd self⟩).q.ph == 0) = dn := ⟨_, rfl⟩
    have hde : ((kd : Int) == 1) = dn := by
      rw [← hdn]
      have hcase : kd = 0 ∨ kd = 1 ∨ kd = 2 := by omega
      rcases hcase with rfl | rfl | rfl <;> simp [stepP, begQ]
    have hself : (dn == dn) = true := by simp
    have h14 := HW13.out.step (k := 0) rfl hok 1 (by decide) _ rfl dn hdn
    have H14 := Lib.hid h14
    clear h14
    go_wp2_with fail
    refine H14.out.mono ?_
    rintro e w14 ⟨rfl, hw14, hk14⟩
    have BT14 := Lib.hid (BT13.out.kept hk14 (by rintro (e | e); exact nb e; exact neo e))
    have HW14 := Lib.hid hw14
    have ct14 := BT14.out.cell
    clear H14 hw14 hk14 BT13 HW13
    go_wp2_with fail
    refine (steps_any ⟨p, c, s⟩ _ 1 _ HW14.out.mach).mono ?_
    rintro e wn ⟨rfl, rfl⟩
    rw [show ∀ x y, (spM 3 (dl [0, 0, 0, 1] 1) x y).stepsOf 1 = 1 from fun _ _ => by first | rfl | kernel_rfl]
    go_wp2_with fail
    refine (awake18_any w14 HW14.out.tab).mono ?_
    rintro e w16 ⟨rfl, hb16⟩
    have hbel := HW14.out.bel.trans (hb16.mono HW14.out.bel.size)
    clear hb16 HW14 BT14 ct14
    rw [← hbT]
    go_wp2_with fail
    go_ret
    exact ⟨rfl, hbel⟩
theorem turn4 {zs : List Int} (h : zs.length = 4) : ∃ a b c d, zs = [a, b, c, d] := by
  match zs, h with
  | [a, b, c, d], _ => exact ⟨a, b, c, d, rfl⟩
theorem spareNil_walk (W : World) (hT : Tab W) (b : Int) (_w0 : (Lit.int .i64 b).wf = true) (m : Int) (w1 : (Lit.int .i64 m).wf = true) (zs : List Int) (hl : zs.length = 4) (_w2 : ∀ z ∈ zs, (Lit.int .i64 z).wf = true) :
    Calls Tryd.prog 5 #[.int .i64 b, .int .i64 m, .agg (zs.map (Value.int .i64)).toArray] W fun e w' => e = .returned (.bool true) ∧ Below W.heap.size W w' := by
  obtain ⟨a, x, y, z, rfl⟩ := turn4 hl
  exact nil_any W hT b m (wf_range w1) a x y z
end Go.Proofs.YtkilghhknimolaaDoor
