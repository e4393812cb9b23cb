/-
  WHAT IS PROVED HERE: the walk of the law pelotonlaw12.IdleMoves: it returns true, and what was there before the call stays. Conditions: the table math/bits.deBruijn64tab lies as its initialiser lays it.
-/
import Derived.Test.YtkilghhknimolaaDoorMovesP
import Derived.Test.YtkilghhknimolaaDoorArgs
namespace Go.Proofs.YtkilghhknimolaaDoor
open Go.RowKit

theorem ipeek_ok {w : World} {mb : MB} {st : MS} (hm : MachP w mb st) (at_ : Int) (v : Int) (hv : st.cellOf at_ = v) :
    Calls Tryd.prog 41 #[setV at_, .pointer (some ⟨mb.p, 0, none⟩)] w fun e w' => e = .returned (.int .i64 v) ∧ Below w.heap.size w w' := by
  have b0 : Blk (w.alloc (.cells #[.int .i64 at_] 71)) w.heap.size 71 [.int .i64 at_] := Blk.new w _ _
  have c0 := b0.cell 0
  simp only [List.getElem?_cons_zero] at c0
  have ht := peek_any mb st at_ _ (hm.alloc (.cells #[.int .i64 at_] 71))
  rw [hv] at ht
  have hb : Below w.heap.size w (w.alloc (.cells #[.int .i64 at_] 71)) := (Below.refl _ w).alloc (Nat.le_refl _) _
  unfold setV
  have HT := Lib.hid ht
  clear ht hm hv
  go_enter Tryd.func41, Tryd.ntmps41
  go_wp2_with fail
  refine HT.out.mono ?_
  rintro e wn ⟨rfl, rfl⟩
  go_wp2_with fail
  go_ret
  exact ⟨rfl, hb⟩
theorem has_quiet (z v : Int) (b : Bool) (w : World) (n : Nat) (hb : hasBit z v = b) :
    Calls Tryd.prog 18 #[.int .i64 z, .int .i64 v] (w.drewN n) fun e w' => e = .returned (.bool b) ∧ ∃ m, w' = w.drewN m := by
  subst hb
  exact Calls.quiet_of_same ((has_ok z v _).mono fun _ _ h => ⟨h.1, h.2.symm⟩)
theorem pick17 (v : Int) : ∃ r : Nat, r < 17 ∧ (wrap64 (v.tmod 17 + 17)).tmod 17 = (r : Int) := by
  have a := Int.tmod_lt_of_pos v (show (0 : Int) < 17 by omega)
  have b := Int.lt_tmod_of_pos v (show (0 : Int) < 17 by omega)
  have e : wrap64 (v.tmod 17 + 17) = v.tmod 17 + 17 := by unfold wrap64; omega
  rw [e]
  obtain ⟨u, hu⟩ := Int.eq_ofNat_of_zero_le (show 0 ≤ v.tmod 17 + 17 by omega)
  rw [hu]
  exact ⟨u % 17, Nat.mod_lt _ (by omega), rfl⟩
set_option maxRecDepth 100000 in
set_option maxHeartbeats 4000000 in
theorem moves_head (W : World) (hT : Tab W) (A : Option Addr) (n c : Nat) (z : List Int) (F : Flat W A n z) :
    Calls Tryd.prog 9 #[.slice A n c] W fun e w' => e = .returned (.bool true) ∧ Below W.heap.size W w' := by
  have hlt := hT.lt
  go_enter Tryd.func9, Tryd.ntmps9
  go_wp2_with fail
  refine (new_ok 2 16 _ (by omega) (by omega) (by omega) (by omega)).mono ?_
  rintro e w1 ⟨p, s, rfl, hm1, hk1, hp, hsl⟩
  have hb1 : Below W.heap.size W w1 := hk1.below (Nat.le_refl _) (fun _ h => h.elim)
  clear hk1
  go_wp2_with fail
  refine (inew_ok hm1 16 (by decide +kernel) (by decide +kernel) (by decide +kernel)).mono ?_
  rintro e w2 ⟨rfl, hk2, c2, hc2, hm2⟩
  rw [show setV ((MS.fresh 2 (16 : Int).toNat).cells.length : Nat) = .agg #[.int .i64 0] from rfl]
  have hmw1 : ∀ q, (⟨p, p, s⟩ : MB).has q → W.heap.size ≤ q := fun q e => by
    rcases e with e | e | e
    · have e' : q = p := e; omega
    · have e' : q = p := e; omega
    · have e' : q = s := e; omega
  have hb2 : Below W.heap.size W w2 := hb1.trans (hk2.below hb1.size hmw1)
  have hmw2 : ∀ q, (⟨p, c2, s⟩ : MB).has q → W.heap.size ≤ q := fun q e => by
    rcases e with e | e | e
    · have e' : q = p := e; omega
    · have e' : q = c2 := e; have := hb1.size; omega
    · have e' : q = s := e; omega
  have hl2 := hm2.lt
  have hm3 := hm2.alloc (.cells #[.int .i64 0] 71)
  have hs3 := Blk.new w2 71 [.int .i64 0]
  have hb3 : Below W.heap.size W (w2.alloc (.cells #[.int .i64 0] 71)) := hb2.alloc hb2.size _
  have hn3 : ¬ (⟨p, c2, s⟩ : MB).has w2.heap.size := fun e => by have := hl2 _ e; omega
  have hz3 : (w2.alloc (.cells #[.int .i64 0] 71)).heap.size = w2.heap.size + 1 := by simp
  clear hm1 hk2 hm2 hmw1
  go_wp2_with fail
  obtain ⟨bs, hbs⟩ : ∃ b, w2.heap.size = b := ⟨_, rfl⟩
  rw [hbs] at hs3 hn3 hz3 ⊢
  generalize (w2.alloc (.cells #[.int .i64 0] 71)) = w3 at *
  change Blk w3 bs 71 [.int .i64 0] at hs3
  refine (inew_ok hm3 16 (by decide +kernel) (by decide +kernel) (by decide +kernel)).mono ?_
  rintro e w4 ⟨rfl, hk4, c4, hc4, hm4⟩
  rw [show setV ((((MS.fresh 2 (16 : Int).toNat).did 16).more 1).cells.length : Nat) = .agg #[.int .i64 1] from rfl]
  have hs4 := hs3.kept hk4 hn3
  have hb4 : Below W.heap.size W w4 := hb3.trans (hk4.below hb3.size hmw2)
  have hmw4 : ∀ q, (⟨p, c4, s⟩ : MB).has q → W.heap.size ≤ q := fun q e => by
    rcases e with e | e | e
    · have e' : q = p := e; omega
    · have e' : q = c4 := e; have := hb3.size; omega
    · have e' : q = s := e; omega
  have hl4 := hm4.lt
  have hn4 : ¬ (⟨p, c4, s⟩ : MB).has bs := fun e => by
    rcases e with e | e | e
    · exact hn3 (.inl e)
    · have e' : bs = c4 := e; omega
    · exact hn3 (.inr (.inr e))
  have hm5 := hm4.alloc (.cells #[.int .i64 1] 71)
  have ht5 := Blk.new w4 71 [.int .i64 1]
  have hs5 := hs4.alloc (.cells #[.int .i64 1] 71)
  have hb5 : Below W.heap.size W (w4.alloc (.cells #[.int .i64 1] 71)) := hb4.alloc hb4.size _
  have hn5 : ¬ (⟨p, c4, s⟩ : MB).has w4.heap.size := fun e => by have := hl4 _ e; omega
  have hz5 : (w4.alloc (.cells #[.int .i64 1] 71)).heap.size = w4.heap.size + 1 := by simp
  have hbl := hs4.lt
  have cs5 : (w4.alloc (.cells #[.int .i64 1] 71)).cell? ⟨bs, 0, none⟩ = some (.int .i64 0) := hs5.cell 0
  have ct5 : (w4.alloc (.cells #[.int .i64 1] 71)).cell? ⟨w4.heap.size, 0, none⟩ = some (.int .i64 1) := ht5.cell 0
  have cs4 : w4.cell? ⟨bs, 0, none⟩ = some (.int .i64 0) := hs4.cell 0
  clear hm3 hk4 hm4 hmw2 hs3 hb1 hb2 hb3 hn3 hz3 hl2
  go_wp2_with fail
  obtain ⟨bt, hbt⟩ : ∃ b, w4.heap.size = b := ⟨_, rfl⟩
  rw [hbt] at ht5 hn5 hz5 hbl ct5 ⊢
  generalize (w4.alloc (.cells #[.int .i64 1] 71)) = w5 at *
  change Blk w5 bt 71 [.int .i64 1] at ht5
  have he := enter_ok hm5 1 5 (by omega) (by decide +kernel) (by decide +kernel) 0 (by decide +kernel)
  unfold setV at he
  refine he.mono ?_
  rintro e w6 ⟨rfl, hm6, hk6⟩
  clear he cs5 ct5 cs4
  rw [show ((5 : Nat) : Int) = 5 from rfl, show wrap64 (0 + IntKind.i64.wrap (1 * 2 ^ 5)) = 32 by decide +kernel] at hm6
  have hv6 : Mv ((((((MS.fresh 2 (16 : Int).toNat).did 16).more 1).did 16).more 1).did 5 |>.putAt 1 32) (bitsNat (List.replicate 17 false)) := ⟨by decide +kernel, by decide +kernel, by decide +kernel, by decide +kernel, by decide +kernel⟩
  generalize ((((((MS.fresh 2 (16 : Int).toNat).did 16).more 1).did 16).more 1).did 5).putAt 1 32 = st6 at *
  have hs6 := hs5.kept hk6 hn4
  have ht6 := ht5.kept hk6 hn5
  have hb6 : Below W.heap.size W w6 := hb5.trans (hk6.below hb5.size hmw4)
  have hl6 := hm6.lt
  have hM : MvW W (w6.alloc (.cells #[.bool false, .bool false, .bool false, .bool false, .bool false, .bool false, .bool false, .bool false, .bool false, .bool false, .bool false, .bool false, .bool false, .bool false, .bool false, .bool false, .bool false] 75)) ⟨p, c4, s⟩ bs bt w6.heap.size st6 (List.replicate 17 false) := by
    refine ⟨hm6.alloc _, hs6.alloc _, ht6.alloc _, Blk.new w6 75 (bvs (List.replicate 17 false)), hn4, hn5, fun e => by have := hl6 _ e; omega, hmw4, hb6.size, hb6.alloc hb6.size _, by simp, hv6⟩
  have hsi : bs ≠ w6.heap.size := by have := hs6.lt; omega
  have hti : bt ≠ w6.heap.size := by have := ht6.lt; omega
  have hT6 := hT.below hb6 hlt
  clear hm5 hk6 hm6 hs5 ht5 hs4 hs6 ht6 hb4 hb5 hmw4 hl4 hl6 hn4 hn5 hz5 hv6 hc2 hc4 hp hsl
  by_cases hn : 300 < n
  · have d1 : decide ((300 : Int) < (n : Int)) = true := by simp; omega
    clear hM
    go_wp2_with fail
    refine (awake12_any w6 hT6).mono ?_
    rintro e w9 ⟨rfl, hb9⟩
    go_wp2_with fail
    go_ret
    exact ⟨rfl, hb6.trans (hb9.mono hb6.size)⟩
  · have d1 : decide ((300 : Int) < (n : Int)) = false := by simp; omega
    clear hT6 hb6
    go_wp2_with fail
    obtain ⟨bi, hbi⟩ : ∃ b, w6.heap.size = b := ⟨_, rfl⟩
    rw [hbi] at hM hsi hti ⊢
    generalize (w6.alloc (.cells #[.bool false, .bool false, .bool false, .bool false, .bool false, .bool false, .bool false, .bool false, .bool false, .bool false, .bool false, .bool false, .bool false, .bool false, .bool false, .bool false, .bool false] 75)) = w7 at *
    clear hbi
    go_loopw [10] (fun i wr => ∃ (k : Nat) (l : List Bool) (st : MS), k ≤ n ∧ i = .int .i64 k ∧ MvW W wr ⟨p, c4, s⟩ bs bt bi st l) (fun i _ => n - (intOf i).toNat)
    case atStart => exact ⟨0, _, st6, Nat.zero_le _, rfl, hM⟩
    case round =>
      clear hM
      obtain ⟨k, l, st, hk, rfl, hM⟩ := hrel
      have cs := hM.s.cell 0
      simp only [List.getElem?_cons_zero] at cs
      by_cases hku : k < n
      · obtain ⟨_, _, hcell⟩ := F
        obtain ⟨b, off, rfl, hb, hc⟩ := hcell (by omega)
        obtain ⟨zv, hzv⟩ : ∃ v, v = z.getD k 0 := ⟨_, rfl⟩
        have cc : wr.cell? ⟨b, off + k, none⟩ = some (.int .i64 zv) := by rw [hzv, hM.bel.cell (by exact hb)]; exact hc k hku
        clear hcell hc hzv
        obtain ⟨r, hr1, hr⟩ := pick17 zv
        have HR := Lib.hid hr
        clear hr
        go_upto_region 13 with fail
        rw [HR.out]
        clear HR cc
        have hr16 : r ≤ 16 := by omega
        have hri : (r : Int) < 17 := by omega
        have hst := steps_any ⟨p, c4, s⟩ st r wr hM.m
        obtain ⟨d, hd⟩ : ∃ d, st.stepsOf r = d := ⟨_, rfl⟩
        rw [hd] at hst
        obtain ⟨v, hv⟩ : ∃ v, l[r]? = some v := ⟨l[r]'(by rw [hM.len]; exact hr1), by simp [hM.len, hr1]⟩
        have ci : wr.cell? ⟨bi, r, none⟩ = some (.bool v) := by rw [hM.i.cell, get_bvs, hv]; rfl
        have HD := Lib.hid hd
        clear hd
        go_wp2_with fail
        refine hst.mono ?_
        rintro e wn ⟨rfl, rfl⟩
        clear hst
        go_upto_if 81 with fail
        go_cut [13] from 79 to 89 (fun x wc => x = .int .i64 0 ∧ ∃ st' : MS, Kept (⟨p, c4, s⟩ : MB).has wr wc ∧ MachP wc ⟨p, c4, s⟩ st' ∧ Mv st' (bitsNat (l.set r (!v))) ∧ st'.stepsOf r = wrap64 (d + 1))
        case first =>
          have hblt := bitsNat_lt l
          rw [hM.len] at hblt
          cases v with
          | true =>
            have hoff := bitsNat_off l r hv
            have hblt2 := bitsNat_lt (l.set r false)
            rw [List.length_set, hM.len] at hblt2
            have he := ileave_ok hM.m 0 r hr16 (hM.mv.caller hr16) hM.mv.g0 _ hM.mv.cell
            rw [← hoff, leave_val (by omega) hr16] at he
            unfold setV at he
            have hgo := hM.mv.go r (bitsNat (l.set r false))
            have hss := hM.mv.steps hr16 (bitsNat (l.set r false))
            rw [HD.out] at hss
            have HE := Lib.hid he
            have HGO := Lib.hid hgo
            have HSS := Lib.hid hss
            clear he hgo hss hoff hblt hblt2 hM ci
            go_wp2_with fail
            refine HE.out.mono ?_
            rintro e w8 ⟨rfl, hm8, hk8⟩
            have HM8 := Lib.hid hm8
            clear hm8 HE
            go_wp2_with fail
            go_meet
            case rel => exact ⟨rfl, _, hk8, HM8.out, HGO.out, HSS.out⟩
          | false =>
            have hon := bitsNat_on l r hv
            have he := enter_ok hM.m 0 r hr16 (hM.mv.caller hr16) hM.mv.g0 _ hM.mv.cell
            rw [enter_val (by omega) hr16, ← hon] at he
            unfold setV at he
            have hgo := hM.mv.go r (bitsNat (l.set r true))
            have hss := hM.mv.steps hr16 (bitsNat (l.set r true))
            rw [HD.out] at hss
            have HE := Lib.hid he
            have HGO := Lib.hid hgo
            have HSS := Lib.hid hss
            clear he hgo hss hon hblt hM ci
            go_wp2_with fail
            refine HE.out.mono ?_
            rintro e w8 ⟨rfl, hm8, hk8⟩
            have HM8 := Lib.hid hm8
            clear hm8 HE
            go_wp2_with fail
            go_meet
            case rel => exact ⟨rfl, _, hk8, HM8.out, HGO.out, HSS.out⟩
        case rest =>
          obtain ⟨rfl, st', hk8, hm8, hv8, hss⟩ := hcut
          have hi8 := hM.i.kept hk8 hM.ni
          have ci8 : wc.cell? ⟨bi, r, none⟩ = some (.bool v) := by rw [hi8.cell, get_bvs, hv]; rfl
          have fi8 := hi8.frozen r
          have hM9 := hM.turn hsi hti hk8 hm8 hv8
          have hst9 := steps_any ⟨p, c4, s⟩ st' r _ hM9.m
          rw [hss] at hst9
          have hww : (wrap64 (d + 1) != wrap64 (d + 1)) = false := by simp
          obtain ⟨l', hl'⟩ : ∃ l', l.set r (!v) = l' := ⟨_, rfl⟩
          rw [hl'] at hM9
          have HM9 := Lib.hid hM9
          have HST := Lib.hid hst9
          clear hi8 hM9 hst9 hk8 hm8 hv8 hss hM cs ci hl'
          go_wp2_with fail
          refine HST.out.mono ?_
          rintro e wn ⟨rfl, rfl⟩
          clear HST ci8 fi8
          have hM9 := HM9.out
          clear HM9
          generalize (wc.setCell ⟨bi, r, none⟩ (.bool !v)) = w9 at *
          have cs9 := hM9.s.cell 0
          simp only [List.getElem?_cons_zero] at cs9
          have hp9 := ipeek_ok hM9.m 0 _ hM9.mv.cell
          unfold setV at hp9
          have HP9 := Lib.hid hp9
          have HM9 := Lib.hid hM9
          clear hp9 hM9
          go_wp2_with fail
          refine HP9.out.mono ?_
          rintro e w10 ⟨rfl, hb10⟩
          have hM10 := HM9.out.below hb10
          clear HP9 HM9 hb10 cs9
          go_wp2_with fail
          go_loopw [15, 16] (fun x i wr => ∃ j : Nat, j ≤ 17 ∧ x = .int .i64 ((memTo (bitsNat l') j).length : Nat) ∧ i = .int .i64 j ∧ MvW W wr ⟨p, c4, s⟩ bs bt bi st' l') (fun _ i _ => 17 - (intOf i).toNat)
          case atStart => exact ⟨0, by omega, by simp [memTo], rfl, hM10⟩
          case round =>
            clear hM10
            obtain ⟨j, hj, rfl, rfl, hM⟩ := hrel
            by_cases hj17 : j < 17
            · obtain ⟨v2, hv2⟩ : ∃ v, l'[j]? = some v := ⟨l'[j]'(by rw [hM.len]; exact hj17), by simp [hM.len, hj17]⟩
              have ci : wr.cell? ⟨bi, j, none⟩ = some (.bool v2) := by rw [hM.i.cell, get_bvs, hv2]; rfl
              have hbit : (bitsNat l').testBit j = v2 := by rw [bitsNat_testBit, List.getD_eq_getElem?_getD, hv2]; rfl
              have hhas : hasBit (bitsNat l' : Int) j = v2 := by rw [hasBit_nat _ (by omega), bitsNat_u64 hM.len, hbit]
              have hsucc := memTo_succ (bitsNat l') j
              rw [hbit] at hsucc
              have hml := memTo_len (bitsNat l') j
              have hvv : (v2 == v2) = true := by simp
              have hvv2 : (v2 != v2) = false := by simp
              have hji : (j : Int) < 17 := by omega
              have HH := Lib.hid hhas
              have HSU := Lib.hid hsucc
              have HM := Lib.hid hM
              clear hbit hhas hsucc hv2 hM
              obtain ⟨ml, hmlv⟩ : ∃ ml, (memTo (bitsNat l') j).length = ml := ⟨_, rfl⟩
              rw [hmlv] at hml ⊢
              have HMV := Lib.hid hmlv
              clear hmlv
              go_upto_region 26 with fail
              go_quiet ((go_at_call 18; exact has_quiet _ _ _ _ _ HH.out))
              cases v2 with
              | true =>
                go_wp2_with fail
                go_roundw
                case rel => exact ⟨j + 1, by omega, by rw [HSU.out, List.length_append, HMV.out]; exact int_eq (by simp), by go_num, HM.out.below (below_drewN' (Below.refl _ _) _)⟩
                case measure => simp [intOf]; omega
              | false =>
                go_wp2_with fail
                go_roundw
                case rel => exact ⟨j + 1, by omega, by rw [HSU.out, List.length_append, HMV.out]; rfl, by go_num, HM.out.below (below_drewN' (Below.refl _ _) _)⟩
                case measure => simp [intOf]; omega
            · obtain rfl : j = 17 := by omega
              have hc := count_ok (bitsNat l' : Int) wr (hT.below hM.bel hlt)
              rw [members_bits hM.len] at hc
              have hmm : (((memTo (bitsNat l') 17).length : Int) != ((memTo (bitsNat l') 17).length : Int)) = false := by simp
              have HM := Lib.hid hM
              have HC := Lib.hid hc
              clear hM hc
              go_wp2_with fail
              refine HC.out.mono ?_
              rintro e w11 ⟨rfl, hb11⟩
              have hM11 := HM.out.below hb11
              have ct11 := hM11.t.cell 0
              simp only [List.getElem?_cons_zero] at ct11
              have hp11 := ipeek_ok hM11.m 1 _ hM11.mv.other
              unfold setV at hp11
              have HP11 := Lib.hid hp11
              have HM11 := Lib.hid hM11
              clear hp11 hM11 hb11 HC HM
              go_wp2_with fail
              refine HP11.out.mono ?_
              rintro e w12 ⟨rfl, hb12⟩
              have HM12 := Lib.hid (HM11.out.below hb12)
              clear HP11 HM11 hb12 ct11
              go_wp2_with fail
              go_roundw
              case rel => exact ⟨k + 1, l', st', by omega, by go_num, HM12.out⟩
              case measure => simp [intOf]; omega
      · obtain rfl : k = n := by omega
        have hr := iread_ok hM.m 0 0 (hM.mv.caller (k := 0) (by omega)) hM.mv.g0 _ hM.mv.cell
        unfold setV at hr
        have HM := Lib.hid hM
        clear hM hku
        go_wp2_with fail
        refine hr.mono ?_
        rintro e w8 ⟨rfl, hm8, hk8⟩
        clear hr cs
        have hM8 := HM.out.same hk8 hm8 (HM.out.mv.did 0)
        have cs8 := hM8.s.cell 0
        simp only [List.getElem?_cons_zero] at cs8
        have hp8 := ipeek_ok hM8.m 0 _ hM8.mv.cell
        unfold setV at hp8
        have HP8 := Lib.hid hp8
        have HM8 := Lib.hid hM8
        have hvv : (((bitsNat l : Nat) : Int) == ((bitsNat l : Nat) : Int)) = true := by simp
        clear hm8 hk8 hM8 hp8
        go_wp2_with fail
        refine HP8.out.mono ?_
        rintro e w9 ⟨rfl, hb9⟩
        have hB9 := HM8.out.bel.trans (hb9.mono HM8.out.bel.size)
        clear HP8
        go_wp2_with fail
        refine (awake12_any w9 (hT.below hB9 hlt)).mono ?_
        rintro e w10 ⟨rfl, hb10⟩
        go_wp2_with fail
        go_ret
        exact ⟨rfl, hB9.trans (hb10.mono hB9.size)⟩
theorem idleMoves_walk (W : World) (hT : Tab W) (A : Option Addr) (n c : Nat) (z : List Int) (_h : n ≤ maxLen) (F : Flat W A n z) :
    Calls Tryd.prog 9 #[.slice A n c] W fun e w' => e = .returned (.bool true) ∧ Below W.heap.size W w' := moves_head W hT A n c z F
end Go.Proofs.YtkilghhknimolaaDoor
