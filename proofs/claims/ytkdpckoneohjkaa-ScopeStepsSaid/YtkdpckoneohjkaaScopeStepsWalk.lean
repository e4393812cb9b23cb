/-
  WHAT IS PROVED HERE: the walk of the law pelotonlaw14.ScopeSteps: it returns true, and what was there before the call stays. Conditions: the arguments are 64-bit numbers.
-/
import Derived.Test.YtkdpckoneohjkaaStepB
import Derived.Deep.RegionWith
import Derived.Deep.DeepCutAuto
import Derived.Deep.RegionHeld3
import Derived.Deep.CutBlock
namespace Go.Proofs.Ytkdpckoneohjkaa
open Go.RowKit

theorem info_of {t : TypeId} {z : Value} {s b : Nat} (h : (Try.prog.info? t).map (fun i => (i.zero, i.size, i.bytes)) = some (some z, s, b)) : ∃ i0, Try.prog.info? t = some i0 ∧ i0.zero = some z ∧ i0.size = s ∧ i0.bytes = b := by
  cases hc : Try.prog.info? t with
  | none => rw [hc] at h; simp at h
  | some i =>
    rw [hc] at h
    simp at h
    exact ⟨i, rfl, h.1, h.2.1, h.2.2⟩
theorem SD.steps3 {W w : World} {mb : MB} {t g : Nat} {size d : Int} {L : List Sc} (h : SD W w mb t g size 3 d L) : ∃ a0 a1 a2 : Int, 0 ≤ a0 ∧ 0 ≤ a1 ∧ 0 ≤ a2 ∧ a0 + a1 + a2 = d ∧ ∀ w', Below w.heap.size w w' →
    Calls Try.prog 25 #[.pointer (some ⟨mb.p, 0, none⟩), .int .i64 0] w' (fun e w'' => e = .returned (.int .i64 a0) ∧ w' = w'') ∧
    Calls Try.prog 25 #[.pointer (some ⟨mb.p, 0, none⟩), .int .i64 1] w' (fun e w'' => e = .returned (.int .i64 a1) ∧ w' = w'') ∧
    Calls Try.prog 25 #[.pointer (some ⟨mb.p, 0, none⟩), .int .i64 2] w' (fun e w'' => e = .returned (.int .i64 a2) ∧ w' = w'') := by
  obtain ⟨st, hl, hpos, hsum, hSW⟩ := h
  match st, hl, hpos, hsum, hSW with
  | [a0, a1, a2], _, hpos, hsum, hSW =>
    have p0 := hpos a0 (by simp)
    have p1 := hpos a1 (by simp)
    have p2 := hpos a2 (by simp)
    simp only [List.sum_cons, List.sum_nil, Int.add_zero] at hsum
    exact ⟨a0, a1, a2, p0, p1, p2, by omega, fun w' hb => ⟨steps_any mb _ 0 w' (hSW.below hb).m, steps_any mb _ 1 w' (hSW.below hb).m, steps_any mb _ 2 w' (hSW.below hb).m⟩⟩
set_option maxRecDepth 100000 in
set_option maxHeartbeats 4000000 in
theorem steps_near (W : World) (A0 : Option Addr) (n c : Nat) (z : List Int) (F0 : Flat W A0 n z) (hn : n ≤ 60) (A1 : Option Addr) (n1 c1 : Nat) (z1 : List Int) (F1 : Flat W A1 n1 z1) (hn1 : n1 ≤ 20) (A2 : Option Addr) (n2 c2 : Nat) (z2 : List Int) (F2 : Flat W A2 (n2 * 3) z2) (hn2 : n2 ≤ 200) :
    Calls Try.prog 8 #[.slice A0 n c, .slice A1 n1 c1, .slice A2 n2 c2] W fun e w' => e = .returned (.bool true) ∧ Below W.heap.size W w' := by
  have d1 : decide ((60 : Int) < (n : Int)) = false := by simp; omega
  have d2 : decide ((20 : Int) < (n1 : Int)) = false := by simp; omega
  have d3 : decide ((200 : Int) < (n2 : Int)) = false := by simp; omega
  obtain ⟨il, hil, hl0, hl1, hl2⟩ := info_of (t := 61) (z := .pointer none) (s := 1) (b := 8) (by kernel_rfl)
  obtain ⟨ir, hir, hr0, hr1, hr2⟩ := info_of (t := 75) (z := .pointer none) (s := 1) (b := 8) (by kernel_rfl)
  go_enter Try.func8, Try.ntmps8
  go_wp2_with fail
  refine (new_ok 200 2 _ (by omega) (by omega) (by omega) (by omega)).mono ?_
  rintro e w1 ⟨p, s0, rfl, hm1, hk1, hp, hs⟩
  have hb1 : Below W.heap.size W w1 := hk1.below (Nat.le_refl _) (fun _ h => h.elim)
  clear hk1
  go_wp2_with fail
  refine (grow_ok W w1 p s0 2 A0 n c z hm1 hb1 hp hs F0 (by omega)).mono ?_
  rintro e w2 ⟨c', t, g, bi, ci, L, rfl, hG, hlen⟩
  clear hm1 hb1 hp hs F0 d1 d2 d3
  go_wp2_with fail
  refine (ref_new w2).mono ?_
  rintro e w3 ⟨R0, rfl, hR0, hnew, hb3⟩
  have hI : GrR W w3 ⟨p, c', s0⟩ t g 3 bi ci L R0 (L.take 1) := by
    refine ⟨hG.below hb3, by rw [take_one hG.wf hG.zero]; exact hR0, fun q hq e => ?_, fun q hq => Nat.le_trans hG.sd.bel.size (hnew q hq)⟩
    have := hnew q hq
    rcases e with e | e
    · have := hG.sd.lt q e; omega
    · have := hG.rin.lt; omega
  have hwf := hG.wf
  have hzero := hG.zero
  have hpos := hwf.pos
  clear hG hR0 hnew hb3
  obtain ⟨r0, hr0'⟩ : ∃ r, R0.r = r := ⟨_, rfl⟩
  have HR0 : Hid (R0.r = r0) := Lib.hid hr0'
  rw [hr0']
  clear hr0'
  go_wp2_with fail
  go_loopw [13] (fun i wr => ∃ (k : Nat) (R : RB), 1 ≤ k ∧ k ≤ L.length ∧ i = .int .i64 k ∧ R.r = r0 ∧ GrR W wr ⟨p, c', s0⟩ t g 3 bi ci L R (L.take k)) (fun i _ => L.length - (intOf i).toNat)
  case atStart => exact ⟨1, R0, Nat.le_refl _, hpos, rfl, HR0.out, hI⟩
  case round =>
    clear hI HR0
    obtain ⟨k, R, hk1, hk, rfl, hr, hI⟩ := hrel
    by_cases hlt : k < L.length
    · obtain ⟨m, hm⟩ : ∃ m, L[k]? = some m := ⟨L[k], by simp [hlt]⟩
      obtain ⟨q, m', hpar, hqk, hm', hne⟩ := hwf.up k m hm (by omega)
      have cm := hI.gt.rin.cell (int_row Sc.par hm)
      rw [hpar] at cm
      have hmt : (L.take k)[q]? = some m' := by rw [List.getElem?_take, if_pos hqk]; exact hm'
      have hdm := hwf.deep k m hm
      have hop := ropen_ok hI.rt (wfs_take hwf k (by omega)) 0 1 2 q m' hmt (by omega) (by omega) (by omega) (by omega) (by simp; omega) m.nest
      rw [hr, take_next hzero hm hpar] at hop
      have hrm := hI.gt.rin.room
      rw [len_row] at hrm
      have HM := Lib.hid hne
      clear hpar hne
      as_aux_lemma =>
        go_wp2_with fail
        refine hop.mono ?_
        rintro e w4 ⟨R', rfl, hr', hR', hk', hn'⟩
        clear hop
        have hl4 := hI.gt.sd.lt
        have hlb := hI.gt.rin.lt
        have hI' : GrR W w4 ⟨p, c', s0⟩ t g 3 bi ci L R' (L.take (k + 1)) := by
          refine ⟨hI.gt.kept hk' (fun q e e' => hI.ap q e' e) (hI.gt.sd.bel.trans (hk'.below hI.gt.sd.bel.size (fun q e => hI.rw_ q e))), hR', fun q e => ?_, fun q e => ?_⟩
          · rcases hn' q e with e' | e'
            · exact hI.ap q e'
            · rintro (e2 | e2)
              · have := hl4 q e2; omega
              · omega
          · rcases hn' q e with e' | e'
            · exact hI.rw_ q e'
            · have := hI.gt.sd.bel.size; omega
        clear hI cm
        go_wp2_with fail
        go_roundw
        case rel => exact ⟨k + 1, R', by omega, by omega, by go_num, by first | exact hr' | exact hr'.trans hr, hI'⟩
        case measure => simp [intOf]; omega
    · obtain rfl : k = L.length := by omega
      rw [List.take_length] at hI
      clear hlt hk1 hk
      have hT : TS W ((wr.alloc (.cells #[] 61)).alloc (.cells #[] 75)) ⟨p, c', s0⟩ t g wr.heap.size L.length L R wr.heap.size 0 (wr.heap.size + 1) 0 [] := by
        have bl : Below wr.heap.size wr ((wr.alloc (.cells #[] 61)).alloc (.cells #[] 75)) := ((Below.refl _ wr).alloc (Nat.le_refl _) _).alloc (by simp) _
        refine ⟨(⟨hI.gt.sd, hI.rt, hwf, fun q hq e => hI.ap q hq (.inl e), hI.rw_⟩ : AS W wr ⟨p, c', s0⟩ t g 200 L.length L R).below bl, ?_, hI.gt.sd.bel.size, ?_, ?_, Nat.le_refl _, by omega, fun j x hx => by simp at hx, fun i j x y _ hx _ => by simp at hx⟩
        · rintro k (e | e)
          · exact hI.gt.sd.lt k e
          · exact hI.rt.lt k e
        · exact (Rw.of (Blk.new wr 61 []) (by unfold maxLen; simp)).alloc _
        · have := Rw.of (Blk.new (wr.alloc (.cells #[] 61)) 75 []) (by unfold maxLen; simp)
          rwa [World.size_alloc] at this
      have hdid : (L.length : Int) ≤ 61 := by omega
      have HRR := Lib.hid hr
      clear hI hr hlen hn
      go_wp2_with fail
      obtain ⟨N, hN⟩ : ∃ N, wr.heap.size = N := ⟨_, rfl⟩
      rw [hN] at hT ⊢
      generalize ((wr.alloc (.cells #[] 61)).alloc (.cells #[] 75)) = wz at *
      clear hN
      go_loopw [14, 15, 16] (fun x y i wr => ∃ (k zl cl zr cr : Nat) (xs : List Lo), k ≤ n1 ∧ i = .int .i64 k ∧ xs.length ≤ k ∧ x = .slice (some ⟨zl, 0, none⟩) xs.length cl ∧ y = .slice (some ⟨zr, 0, none⟩) xs.length cr ∧ TS W wr ⟨p, c', s0⟩ t g N L.length L R zl cl zr cr xs) (fun _ _ i _ => n1 - (intOf i).toNat)
      case atStart => exact ⟨0, N, 0, N + 1, 0, [], Nat.zero_le _, rfl, Nat.le_refl _, rfl, rfl, hT⟩
      case round =>
        clear hT
        obtain ⟨k, zl, cl, zr, cr, xs, hk, rfl, hxs, rfl, rfl, hT⟩ := hrel
        by_cases hlt : k < n1
        · obtain ⟨_, _, hcell⟩ := F1
          obtain ⟨b, off, rfl, hb, hc⟩ := hcell (by omega)
          obtain ⟨sv, hsv⟩ : ∃ v, v = z1.getD k 0 := ⟨_, rfl⟩
          have hcc : W.cell? ⟨b, off + k, none⟩ = some (.int .i64 sv) := by rw [hsv]; exact hc k hlt
          have HCC := Lib.hid hcc
          have cc : wr.cell? ⟨b, off + k, none⟩ = some (.int .i64 sv) := by rw [hT.as_.sd.bel.cell (by exact hb)]; exact hcc
          clear hcell hc hsv hcc
          have hrml := hT.rl.room
          have hrmr := hT.rr.room
          rw [len_lks] at hrml
          rw [len_rks] at hrmr
          cases hin : inT L.length sv with
          | false =>
            -- PART none
            go_wp2_with fail
            refine (look_none t g (scN L) sv wr hT.as_.sd.tr (by rw [length_scN]; exact hin)).mono ?_
            rintro e w4 ⟨rfl, hb4⟩
            have hT4 := hT.below hb4
            have cc4 : w4.cell? ⟨b, off + k, none⟩ = some (.int .i64 sv) := by rw [hT4.as_.sd.bel.cell (by exact hb)]; exact HCC.out
            have his := ris_in hT4.as_.rt hin
            rw [HRR.out] at his
            have HIS := Lib.hid his
            have HT4 := Lib.hid hT4
            clear hT hT4 cc his hb4
            go_wp2_with fail
            refine HIS.out.mono ?_
            rintro e wn ⟨rfl, rfl⟩
            clear HIS
            go_wp2_with fail
            go_roundw
            case rel => exact ⟨k + 1, zl, cl, zr, cr, xs, by omega, by go_num, by omega, rfl, rfl, HT4.out⟩
            case measure => simp [intOf]; omega
            -- END none
          | true =>
            obtain ⟨s, m, rfl, hm⟩ := inT_get hin
            go_wp2_with fail
            refine (sd_look hT.as_.sd s m hm).mono ?_
            rintro e w4 ⟨b4, rfl, hbs, _, _, hL4, _, hb4⟩
            have hT4 := hT.below hb4
            have cc4 : w4.cell? ⟨b, off + k, none⟩ = some (.int .i64 s) := by rw [hT4.as_.sd.bel.cell (by exact hb)]; exact HCC.out
            have his := ris_in hT4.as_.rt hin
            rw [HRR.out] at his
            have HIS := Lib.hid his
            have HT := Lib.hid hT
            have HT4 := Lib.hid hT4
            have HB4 := Lib.hid hb4
            have HL4 := Lib.hid hL4
            have hz4 := hb4.size
            have RI := Lib.hid (hT4.rl.alloc (.cells #[.pointer (some ⟨b4, 0, none⟩)] 61))
            have NB : Hid ((w4.alloc (.cells #[.pointer (some ⟨b4, 0, none⟩)] 61)).cell? ⟨w4.heap.size, 0, none⟩ = some (.pointer (some ⟨b4, 0, none⟩))) := Lib.hid ((Blk.new w4 61 [.pointer (some ⟨b4, 0, none⟩)]).cell 0)
            clear hT hT4 cc his hb4 hL4
            go_wp2_with fail
            refine HIS.out.mono ?_
            rintro e wn ⟨rfl, rfl⟩
            clear HIS
            go_upto_region 26 with (at_builtin; go_loud (refine wpList_append_row _ rfl (.tmp 107) (.tmp 109) 57 rfl 61 il (.pointer none) 8 Try.underlying57 hil hl0 hl1 hl2 rfl zl cl xs.length (lks xs) rfl len_lks.symm RI.out w4.heap.size (.pointer (some ⟨b4, 0, none⟩)) rfl NB.out rfl (by rw [len_lks]; omega) (by omega) ?_); intro zl' cl' w5 ri5 hk5 hw5 hl5; have RI5 := Lib.hid ri5; have HK5 := Lib.hid hk5; have HW5 := Lib.hid hw5; clear ri5 hk5 hw5)
            have hbel5 : Below W.heap.size W w5 := (HT4.out.as_.sd.bel.alloc HT4.out.as_.sd.bel.size _).trans (HK5.out.below (by have := HT4.out.as_.sd.bel.size; simp; omega) (fun q e => by rw [e]; exact Nat.le_trans HT4.out.nw HT4.out.zl_))
            have cc5 : w5.cell? ⟨b, off + k, none⟩ = some (.int .i64 s) := by rw [hbel5.cell (by exact hb)]; exact HCC.out
            have hbz5 : b < w5.heap.size := Nat.lt_of_lt_of_le hb hbel5.size
            have rr5 := (HT4.out.rr.alloc (.cells #[.pointer (some ⟨b4, 0, none⟩)] 61)).kept HK5.out (Rw.apart2 HT4.out.rr HT4.out.rl (by decide))
            have RJ := Lib.hid ((rr5.alloc (.cells #[.int .i64 s, .bool false, .bool false] 77)).alloc (.cells #[.pointer (some ⟨w5.heap.size, 0, none⟩)] 75))
            have nb5 := (Blk.new (w5.alloc (.cells #[.int .i64 s, .bool false, .bool false] 77)) 75 [.pointer (some ⟨w5.heap.size, 0, none⟩)]).cell 0
            rw [World.size_alloc] at nb5
            have NJ := Lib.hid nb5
            clear rr5 nb5 hbel5 cc4
            go_wp2_with (at_builtin; go_loud (refine wpList_append_row _ rfl (.tmp 111) (.tmp 118) 73 rfl 75 ir (.pointer none) 8 Try.underlying73 hir hr0 hr1 hr2 rfl zr cr xs.length (rks xs) rfl len_rks.symm RJ.out (w5.heap.size + 1) (.pointer (some ⟨w5.heap.size, 0, none⟩)) rfl NJ.out rfl (by rw [len_rks]; omega) (by omega) ?_); intro zr' cr' w7 ri7 hk7 hw7 hl7; have HT7 := Lib.hid (HT.out.more hm hbs HB4.out HL4.out HK5.out RI5.out HW5.out hk7 ri7 hw7); clear ri7 hk7 hw7)
            go_roundw
            case rel => exact ⟨k + 1, zl', cl', zr', cr', _, by omega, by go_num, by simp; omega, by simp, by simp, HT7.out⟩
            case measure => simp [intOf]; omega
        · obtain rfl : k = n1 := by omega
          clear hlt hk F1
          obtain ⟨a0, a1, a2, p0, p1, p2, hsum, hst⟩ := hT.as_.sd.steps3
          obtain ⟨q0, q1, q2⟩ := hst wr (Below.refl _ wr)
          have hw1 : wrap64 (a0 + a1) = a0 + a1 := by unfold wrap64; omega
          have hw2 : wrap64 (a0 + a1 + a2) = (L.length : Int) := by unfold wrap64; omega
          have Q0 := Lib.hid q0
          have Q1 := Lib.hid q1
          have Q2 := Lib.hid q2
          have HT := Lib.hid hT
          clear q0 q1 q2 hst hsum p0 p1 p2 hT
          go_wp2_with fail
          refine Q0.out.mono ?_
          rintro e wn ⟨rfl, rfl⟩
          go_wp2_with fail
          refine Q1.out.mono ?_
          rintro e wn ⟨rfl, rfl⟩
          go_wp2_with fail
          refine Q2.out.mono ?_
          rintro e wn ⟨rfl, rfl⟩
          clear Q0 Q1 Q2
          go_wp2_with fail
          have HW2 := Lib.hid hw2
          clear hw1 hw2
          obtain ⟨nx, hnx⟩ : ∃ nx, xs.length = nx := ⟨_, rfl⟩
          have hnx20 : nx ≤ 20 := by omega
          rw [hnx]
          go_loopw [19, 20] (fun x i wr => ∃ (k : Nat) (d : Int) (L' : List Sc) (xs' : List Lo), k ≤ n2 ∧ x = .int .i64 d ∧ i = .int .i64 k ∧ 0 ≤ d ∧ d ≤ 61 + (k : Int) ∧ xs'.length = nx ∧ TS W wr ⟨p, c', s0⟩ t g N d L' R zl cl zr cr xs') (fun _ i _ => n2 - (intOf i).toNat)
          case atStart => exact ⟨0, L.length, L, xs, Nat.zero_le _, by rw [HW2.out], rfl, by omega, by omega, hnx, HT.out⟩
          case round =>
            clear HT HW2
            obtain ⟨k, d, L', xs', hk, rfl, rfl, hd0, hd1, hnx', hT⟩ := hrel
            by_cases hlt : k < n2
            · obtain ⟨_, _, hcell⟩ := F2
              obtain ⟨b, off, rfl, hb, hc⟩ := hcell (by omega)
              obtain ⟨z0, hz0⟩ : ∃ v, v = z2.getD (k * 3) 0 := ⟨_, rfl⟩
              obtain ⟨sv, hsv⟩ : ∃ v, v = z2.getD (k * 3 + 1) 0 := ⟨_, rfl⟩
              obtain ⟨iv, hiv⟩ : ∃ v, v = z2.getD (k * 3 + 2) 0 := ⟨_, rfl⟩
              have cc0 : wr.cell? ⟨b, off + k * 3, none⟩ = some (.int .i64 z0) := by rw [hz0, hT.as_.sd.bel.cell (by exact hb)]; exact hc (k * 3) (by omega)
              have cc1 : wr.cell? ⟨b, off + k * 3 + 1, none⟩ = some (.int .i64 sv) := by rw [hsv, hT.as_.sd.bel.cell (by exact hb)]; exact hc (k * 3 + 1) (by omega)
              have cc2 : wr.cell? ⟨b, off + k * 3 + 2, none⟩ = some (.int .i64 iv) := by rw [hiv, hT.as_.sd.bel.cell (by exact hb)]; exact hc (k * 3 + 2) (by omega)
              clear hcell hc hz0 hsv hiv
              go_upto_region 32 with fail
              have hba := Blk.new wr 60 [.int .i64 z0, .int .i64 sv, .int .i64 iv]
              have hTa := hT.below ((Below.refl _ wr).alloc (Nat.le_refl _) (.cells #[.int .i64 z0, .int .i64 sv, .int .i64 iv] 60))
              have hab : N ≤ wr.heap.size := Nat.le_trans hT.zl_ (Nat.le_of_lt hT.rl.lt)
              clear cc0 cc1 cc2 hT
              generalize hgen : wr.heap.size = ab at *
              clear hgen
              change Blk (wr.alloc (.cells #[.int .i64 z0, .int .i64 sv, .int .i64 iv] 60)) ab 60 [.int .i64 z0, .int .i64 sv, .int .i64 iv] at hba
              generalize (wr.alloc (.cells #[.int .i64 z0, .int .i64 sv, .int .i64 iv] 60)) = wa at *
              have ca := hba.cell
              go_upto_if 140 with fail
              go_cut [22, 23, 24, 25, 26, 27, 28, 29, 30, 31, 32] from 138 to 220 (fun x _ _ _ _ _ _ _ _ _ _ wc => ∃ (op : Bool) (d' : Int) (L'' : List Sc) (xs'' : List Lo), x = .bool op ∧ ((op = true ∧ d' = d + 1) ∨ (op = false ∧ d' = d)) ∧ xs''.length = nx ∧ TS W wc ⟨p, c', s0⟩ t g N d' L'' R zl cl zr cr xs'')
              case first =>
                by_cases h4 : z0 = 4
                · skip
                  -- PART ask
                  have e4 : (z0 == 4) = true := by simp [h4]
                  clear h4
                  obtain ⟨v, hv⟩ : ∃ v, mayC L' iv 2 sv = v := ⟨_, rfl⟩
                  by_cases hv0 : v = 0
                  · as_aux_lemma =>
                    rw [hv0] at hv
                    clear hv0
                    obtain ⟨q, m, rfl, hm, i0, i1⟩ : ∃ (q : Nat) (m : Sc), sv = q ∧ L'[q]? = some m ∧ 0 ≤ iv ∧ iv < 3 := by
                      rcases may_cases hv with ⟨e, _⟩ | ⟨e, _⟩ | ⟨_, h⟩
                      · cases e
                      · cases e
                      · exact h
                    have hql := sc_lt hm
                    go_wp2_with fail
                    refine (sd_ask hTa.as_.sd iv i0 (by omega) (by omega) q m hm).mono ?_
                    rintro e w4 ⟨rfl, h4, hk4⟩
                    have hba4 := hba.kept hk4 (fun e => by have := hTa.mbl e; omega)
                    have hrt4 := hTa.as_.rt.kept hk4 (fun q hq e => hTa.as_.ap q hq (.inl e))
                    have hmay := rmay_any hrt4 iv 2 q
                    rw [hv, HRR.out] at hmay
                    have HMAY := Lib.hid hmay
                    have ca4 := hba4.cell
                    have hTs := hTa.ask hm h4 hk4
                    obtain ⟨_, b1, _⟩ := hrt4.cells
                    rw [HRR.out] at b1
                    have fa := hrt4.ra.frozen q
                    have cq := hrt4.ra.cell (j := q) (v := .bool (askB m)) (by unfold askVs; rw [List.getElem?_map, hm]; rfl)
                    have hrm := hrt4.ra.room
                    unfold askVs at hrm
                    rw [List.length_map] at hrm
                    have HTS := Lib.hid hTs
                    have HB4 := Lib.hid hba4
                    have HR4 := Lib.hid hrt4
                    have HM := Lib.hid hm
                    have HV := Lib.hid hv
                    clear hmay hTs hba4 hrt4 h4 hk4 hTa ca hba hm hv b1 cq fa
                    go_wp2_with fail
                    refine HMAY.out.mono ?_
                    rintro e wn ⟨rfl, rfl⟩
                    clear HMAY
                    obtain ⟨_, b1, _⟩ := HR4.out.cells
                    rw [HRR.out] at b1
                    go_upto_region 40 with fail
                    go_still_tail 7, (by kernel_rfl)
                    change wpList _ _ _ _ _ w4.drew
                    have fa := HR4.out.ra.drew.frozen q
                    have cq := HR4.out.ra.drew.cell (j := q) (v := .bool (askB m)) (by unfold askVs; rw [List.getElem?_map, HM.out]; rfl)
                    go_wp2_with fail
                    go_meet
                    case rel => exact ⟨true, d + 1, _, xs', rfl, .inl ⟨rfl, rfl⟩, hnx', HTS.out.below (below_drewN' (Below.refl _ _) 1)⟩
                  · as_aux_lemma =>
                    have HNO := Lib.hid (s_ask_no hTa.as_.sd iv sv v hv hv0)
                    have hvv : (v != v) = false := by simp
                    have hv1 : (v == 0) = false := by simp [hv0]
                    have HV := Lib.hid hv
                    clear hv hv0
                    go_wp2_with fail
                    refine HNO.out.mono ?_
                    rintro e w4 ⟨rfl, h4, hk4⟩
                    have hT4 := hTa.same h4 hk4
                    have hba4 := hba.kept hk4 (fun e => by have := hTa.mbl e; omega)
                    have ca4 := hba4.cell
                    have hmay := rmay_any hT4.as_.rt iv 2 sv
                    rw [HV.out, HRR.out] at hmay
                    have HMAY := Lib.hid hmay
                    have HT4 := Lib.hid hT4
                    clear hmay hT4 hba4 h4 hk4 hTa ca hba HNO
                    go_wp2_with fail
                    refine HMAY.out.mono ?_
                    rintro e wn ⟨rfl, rfl⟩
                    clear HMAY
                    go_wp2_with fail
                    go_meet
                    case rel => exact ⟨false, d, L', xs', rfl, .inr ⟨rfl, rfl⟩, hnx', HT4.out⟩
                  -- END ask
                · have e4 : (z0 == 4) = false := by simp [h4]
                  clear h4
                  by_cases hs0 : 0 ≤ sv ∧ sv < nx
                  · obtain ⟨j, rfl⟩ : ∃ j : Nat, sv = j := ⟨sv.toNat, by omega⟩
                    obtain ⟨x, hx⟩ : ∃ x, xs'[j]? = some x := ⟨xs'[j]'(by omega), by simp⟩
                    have hlx := hTa.lo j x hx
                    have hrl := hTa.rl.cell (get_lks hx)
                    have hrr := hTa.rr.cell (get_rks hx)
                    have rml := hTa.rl.room
                    have rmr := hTa.rr.room
                    rw [len_lks, hnx'] at rml
                    rw [len_rks, hnx'] at rmr
                    have hjx : (j : Int) < (nx : Int) := hs0.2
                    clear hs0
                    have nhx : ¬ hasSW ⟨p, c', s0⟩ t g x.q := fun e => by have := hTa.low x.q (.inl e); have := hlx.nq; omega
                    have hxq := hlx.nq
                    have hxr := hlx.nr
                    have hab1 : ab ≠ x.q := Blk.apart hba hlx.lk (by decide)
                    have hab2 : ab ≠ x.rq := Blk.apart hba hlx.rk (by decide)
                    have nzr : zr ≠ x.q := Rw.apart hTa.rr hlx.lk (by decide)
                    have hqr : x.q ≠ x.rq := Blk.apart hlx.lk hlx.rk (by decide)
                    by_cases hdn : x.done = true
                    · skip
                      -- PART done
                      as_aux_lemma =>
                        obtain ⟨xi, hxi⟩ : ∃ xi, x.is = xi := ⟨_, rfl⟩
                        have hlk := hlx.lk
                        have hrk := hlx.rk
                        rw [hdn, hxi] at hlk hrk
                        have HHK := Lib.hid hrk
                        have HLK := Lib.hid hlk
                        have HTA := Lib.hid hTa
                        have HBA := Lib.hid hba
                        have HX := Lib.hid hx
                        have hii : (xi == xi) = true := by simp
                        have hii2 : (xi != xi) = false := by simp
                        clear hlk hrk hdn hxi hTa hba hlx hx nhx
                        go_upto_region 42 with fail
                        go_region_held3 (fun w' => (∀ i, w'.cell? ⟨ab, i, none⟩ = [Value.int .i64 z0, .int .i64 j, .int .i64 iv][i]?) ∧ w'.cell? ⟨zl, j, none⟩ = some (.pointer (some ⟨x.q, 0, none⟩))) (first | exact ⟨ca, hrl⟩ | exact ⟨ca4, hrl4⟩) (first | (go_at_call 30; refine (step_done x.q t x.at_ xi ⟨p, 0, none⟩ iv wa.drew HLK.out.drew).mono ?_; rintro e w4 ⟨rfl, hb4⟩; have hb4' : Below wa.heap.size wa w4 := (below_drewN' (Below.refl _ wa) 1).trans hb4; have hT4 := HTA.out.below hb4'; have hba4 := HBA.out.below hb4' HBA.out.lt; have hrk4 := HHK.out.below hb4' HHK.out.lt; have ca4 := hba4.cell; have hrl4 := hT4.rl.cell (get_lks HX.out); have hrr4 := hT4.rr.cell (get_rks HX.out); have HT4 := Lib.hid hT4; have HR4 := Lib.hid hrk4; have HB4 := Lib.hid hba4; clear hT4 hba4 hrk4 hb4 hb4'))
                        clear ca hrl hrr hrl4
                        go_upto_region 43 with fail
                        go_region_held3 (fun w' => (∀ i, w'.cell? ⟨ab, i, none⟩ = [Value.int .i64 z0, .int .i64 j, .int .i64 iv][i]?) ∧ w'.cell? ⟨zr, j, none⟩ = some (.pointer (some ⟨x.rq, 0, none⟩))) (first | exact ⟨ca4, hrr4⟩ | exact ⟨ca5, hrr5⟩) (first | (go_at_call 43; refine (rstep_done _ HR4.out.drew).mono ?_; rintro e w5 ⟨rfl, hb5⟩; have hb5' : Below w4.heap.size w4 w5 := (below_drewN' (Below.refl _ w4) 1).trans hb5; have hT5 := HT4.out.below hb5'; have ca5 := (HB4.out.below hb5' HB4.out.lt).cell; have hrr5 := hT5.rr.cell (get_rks HX.out); have HT5 := Lib.hid hT5; clear hT5 hb5 hb5'))
                        clear ca4 hrr4 ca5 hrr5
                        go_wp2_with fail
                        go_meet
                        case rel => exact ⟨false, d, L', xs', rfl, .inr ⟨rfl, rfl⟩, hnx', HT5.out⟩
                      -- END done
                    · have hdn' : x.done = false := by cases h : x.done; rfl; exact absurd h hdn
                      obtain ⟨his0, a, m, hat, hrat, hm⟩ := hlx.on hdn'
                      have hlk := hlx.lk
                      have hrk := hlx.rk
                      rw [hdn', his0, hat] at hlk
                      rw [hdn', his0, hrat] at hrk
                      by_cases hiv : 0 ≤ iv ∧ iv < 3
                      · skip
                        -- PART step
                        as_aux_lemma =>
                          obtain ⟨is, his⟩ : ∃ is, is = askB m := ⟨_, rfl⟩
                          obtain ⟨dn, hdn2⟩ : ∃ dn, dn = (is || decide (a = 0)) := ⟨_, rfl⟩
                          have hii : (is == is) = true := by simp
                          have hii2 : (is != is) = false := by simp
                          have hdd : (dn == dn) = true := by simp
                          have hdd2 : (dn != dn) = false := by simp
                          have HHK := Lib.hid hrk
                          have HLK := Lib.hid hlk
                          have HTA := Lib.hid hTa
                          have HBA := Lib.hid hba
                          have HX := Lib.hid hx
                          have HIS := Lib.hid his
                          have HDN := Lib.hid hdn2
                          have HM := Lib.hid hm
                          have HNX := Lib.hid nhx
                          obtain ⟨i0, i1⟩ := hiv
                          clear hlk hrk hdn hdn' hTa hba hlx hx nhx his hdn2 hm his0 hat hrat
                          go_upto_region 42 with fail
                          have no : ∀ k, N ≤ k → k ≠ x.q → ¬ ((⟨p, c', s0⟩ : MB).has k ∨ k = x.q) := fun k h1 h2 e => by
                            rcases e with e | e
                            · have := HTA.out.mbl e; omega
                            · exact h2 e
                          have noR : ∀ k, R.has k → ¬ ((⟨p, c', s0⟩ : MB).has k ∨ k = x.q) := fun k hk e => by
                            rcases e with e | e
                            · exact HTA.out.as_.ap k hk (.inl e)
                            · have := HTA.out.low k (.inr hk); omega
                          have nzl : zl ≠ x.q := Rw.apart HTA.out.rl HLK.out (by decide)
                          have nzl2 : zl ≠ x.rq := Rw.apart HTA.out.rl HHK.out (by decide)
                          have nzr2 : zr ≠ x.rq := Rw.apart HTA.out.rr HHK.out (by decide)
                          have NO := Lib.hid no
                          have NOR := Lib.hid noR
                          have hfin : ∀ (w5 : World) (rat' : Int) (hk5 : Kept (fun k => (⟨p, c', s0⟩ : MB).has k ∨ k = x.q ∨ k = x.rq) wa w5) (h5 : SD W w5 ⟨p, c', s0⟩ t g 200 3 (d + 1) L') (hL5 : Lk w5 x.q t m.par dn is) (hr5 : RLk w5 x.rq rat' dn is) (hon5 : dn = false → rat' = m.par), TS W w5 ⟨p, c', s0⟩ t g N (d + 1) L' R zl cl zr cr (xs'.set j ⟨x.q, x.rq, m.par, rat', dn, is⟩) := by
                            intro w5 rat' hk5 h5 hL5 hr5 hon5
                            refine HTA.out.step HX.out hk5 (fun k e => e) h5 hL5 hr5 (fun e => ?_)
                            have h0 := HDN.out
                            rw [e] at h0
                            have hi : is = false := by cases is; rfl; cases h0
                            rw [hi] at h0
                            have ha : a ≠ 0 := by intro h; rw [h] at h0; cases h0
                            obtain ⟨q, m2, b1, b2, b3, b4⟩ := HTA.out.as_.wf.up a m HM.out (by omega)
                            exact ⟨hi, q, m2, b1, by rw [hon5 e, b1], b3⟩
                          have HFIN := Lib.hid hfin
                          clear no noR hfin
                          go_region_held3 (fun w' => (∀ i, w'.cell? ⟨ab, i, none⟩ = [Value.int .i64 z0, .int .i64 j, .int .i64 iv][i]?) ∧ w'.cell? ⟨zl, j, none⟩ = some (.pointer (some ⟨x.q, 0, none⟩))) (first | exact ⟨ca, hrl⟩ | exact ⟨ca4, hrl4⟩) (first | (go_at_call 30; refine (sd_step HTA.out.as_.sd.drew iv i0 (by omega) (by omega) x.q a m false HLK.out.drew HNX.out (Nat.le_trans HTA.out.nw hxq) HM.out is dn HIS.out HDN.out).mono ?_; rintro e w4 ⟨rfl, h4, hL4, hk4⟩; have hk4' : Kept (fun k => (⟨p, c', s0⟩ : MB).has k ∨ k = x.q) wa w4 := (Kept.refl (fun k => (⟨p, c', s0⟩ : MB).has k ∨ k = x.q) wa).drew.trans hk4 (fun _ _ e => e); have hba4 := HBA.out.kept hk4' (NO.out _ hab hab1); have hrk4 := HHK.out.kept hk4' (NO.out _ hxr hqr.symm); have hrr4' := HTA.out.rr.kept hk4' (NO.out _ HTA.out.zr_ nzr); have hrr4 := hrr4'.cell (get_rks HX.out); have hrl4 := (HTA.out.rl.kept hk4' (NO.out _ HTA.out.zl_ nzl)).cell (get_lks HX.out); have hrt4 := HTA.out.as_.rt.kept hk4' NOR.out; have ca4 := hba4.cell; have H4 := Lib.hid h4; have HL4 := Lib.hid hL4; have HK4 := Lib.hid hk4'; have HR4 := Lib.hid hrk4; have HT4 := Lib.hid hrt4; have HB4 := Lib.hid hba4; have HRR4 := Lib.hid hrr4'; clear hba4 hrk4 hrt4 h4 hL4 hk4 hk4' hrr4'))
                          clear ca hrl hrr hrl4
                          go_upto_region 43 with fail
                          have hrs := rstep_ok (w := w4.drew) (HT4.out.kept (Kept.refl (fun _ => False) w4).drew (fun _ _ => id)) HR4.out.drew HM.out i0 i1 dn is HIS.out HDN.out
                          rw [HRR.out] at hrs
                          have HRS := Lib.hid hrs
                          clear hrs
                          go_region_held3 (fun w' => (∀ i, w'.cell? ⟨ab, i, none⟩ = [Value.int .i64 z0, .int .i64 j, .int .i64 iv][i]?) ∧ w'.cell? ⟨zr, j, none⟩ = some (.pointer (some ⟨x.rq, 0, none⟩))) (first | exact ⟨ca4, hrr4⟩ | exact ⟨ca5, hrr5⟩) (first | (go_at_call 43; refine HRS.out.mono ?_; rintro e w5 ⟨rat', rfl, hr5, hon5, hk5⟩; have hk5' : Kept (fun k => k = x.rq) w4 w5 := (Kept.refl (fun k => k = x.rq) w4).drew.trans hk5 (fun _ _ e => e); have hkk : Kept (fun k => (⟨p, c', s0⟩ : MB).has k ∨ k = x.q ∨ k = x.rq) wa w5 := (HK4.out.mono (fun k _ e => e.elim .inl (fun e => .inr (.inl e)))).trans hk5' (fun _ _ e => .inr (.inr e)); have h5 := H4.out.kept hk5' (fun q hq e => (by have := HTA.out.low q (.inl hq); omega)) (H4.out.bel.trans (hk5'.below H4.out.bel.size (fun q e => (by rw [e]; exact Nat.le_trans HTA.out.nw hxr)))); have hL5 := HL4.out.kept hk5' hqr; have ca5 := (HB4.out.kept hk5' hab2).cell; have hrr5 := (HRR4.out.kept hk5' nzr2).cell (get_rks HX.out); have HT5 := Lib.hid (HFIN.out w5 rat' hkk h5 hL5 hr5 hon5); clear hL5 h5 hkk hk5 hk5' hr5 hon5))
                          clear ca4 hrr4 ca5 hrr5 HRS
                          go_wp2_with fail
                          go_meet
                          case rel => exact ⟨true, d + 1, L', _, rfl, .inl ⟨rfl, rfl⟩, by rw [List.length_set]; exact hnx', HT5.out⟩
                        -- END step
                      · skip
                        -- PART range
                        as_aux_lemma =>
                          obtain ⟨st, hsl, hsp, hss, hSW⟩ := hTa.as_.sd
                          have hno := sw_step_no hSW.drew iv (by rw [hsl]; exact hiv) x.q a m false hlk.drew nhx hm
                          have HNO := Lib.hid hno
                          have HSD : Hid (∀ w', SW W w' ⟨p, c', s0⟩ t g 200 st L' → SD W w' ⟨p, c', s0⟩ t g 200 3 d L') := Lib.hid (fun w' h => ⟨st, hsl, hsp, hss, h⟩)
                          have HHK := Lib.hid hrk
                          have HTA := Lib.hid hTa
                          have HBA := Lib.hid hba
                          have HX := Lib.hid hx
                          have HIV := Lib.hid hiv
                          clear hlk hrk hdn hdn' hTa hba hlx hx nhx hm his0 hat hrat hiv hno hSW hsl hsp hss
                          go_upto_region 42 with fail
                          go_region_held3 (fun w' => (∀ i, w'.cell? ⟨ab, i, none⟩ = [Value.int .i64 z0, .int .i64 j, .int .i64 iv][i]?) ∧ w'.cell? ⟨zl, j, none⟩ = some (.pointer (some ⟨x.q, 0, none⟩))) (first | exact ⟨ca, hrl⟩ | exact ⟨ca4, hrl4⟩) (first | (go_at_call 30; refine HNO.out.mono ?_; rintro e w4 ⟨rfl, h4, _, hk4⟩; have hk4' : Kept (⟨p, c', s0⟩ : MB).has wa w4 := (Kept.refl (⟨p, c', s0⟩ : MB).has wa).drew.trans hk4 (fun _ _ e => e); have hT4 := HTA.out.same (HSD.out w4 h4) hk4'; have hba4 := HBA.out.kept hk4' (fun e => (by have := HTA.out.mbl e; omega)); have hrk4 := HHK.out.kept hk4' (fun e => (by have := HTA.out.mbl e; omega)); have ca4 := hba4.cell; have hrr4 := hT4.rr.cell (get_rks HX.out); have hrl4 := hT4.rl.cell (get_lks HX.out); have HT4 := Lib.hid hT4; have HR4 := Lib.hid hrk4; have HB4 := Lib.hid hba4; clear hT4 hba4 hrk4 h4 hk4 hk4'))
                          clear ca hrl hrr hrl4 HNO HSD
                          go_upto_region 43 with fail
                          go_region_held3 (fun w' => (∀ i, w'.cell? ⟨ab, i, none⟩ = [Value.int .i64 z0, .int .i64 j, .int .i64 iv][i]?) ∧ w'.cell? ⟨zr, j, none⟩ = some (.pointer (some ⟨x.rq, 0, none⟩))) (first | exact ⟨ca4, hrr4⟩ | exact ⟨ca5, hrr5⟩) (first | (go_at_call 43; refine (rstep_no _ HR4.out.drew HIV.out).mono ?_; rintro e w5 ⟨rfl, hb5⟩; have hb5' : Below w4.heap.size w4 w5 := (below_drewN' (Below.refl _ w4) 1).trans hb5; have hT5 := HT4.out.below hb5'; have ca5 := (HB4.out.below hb5' HB4.out.lt).cell; have hrr5 := hT5.rr.cell (get_rks HX.out); have HT5 := Lib.hid hT5; clear hT5 hb5 hb5'))
                          clear ca4 hrr4 ca5 hrr5
                          go_wp2_with fail
                          go_meet
                          case rel => exact ⟨false, d, L', xs', rfl, .inr ⟨rfl, rfl⟩, hnx', HT5.out⟩
                        -- END range
                  · skip
                    -- PART out
                    by_cases hs1 : sv < 0
                    · as_aux_lemma =>
                      have s1 : decide (0 ≤ sv) = false := by simp; omega
                      clear hs0 hs1 hba
                      go_wp2_with fail
                      go_meet
                      case rel => exact ⟨false, d, L', xs', rfl, .inr ⟨rfl, rfl⟩, hnx', hTa⟩
                    · as_aux_lemma =>
                      have s1 : decide (0 ≤ sv) = true := by simp; omega
                      have s2 : decide (sv < (nx : Int)) = false := by simp; omega
                      clear hs0 hs1 hba
                      go_wp2_with fail
                      go_meet
                      case rel => exact ⟨false, d, L', xs', rfl, .inr ⟨rfl, rfl⟩, hnx', hTa⟩
                    -- END out
              case rest =>
                -- PART rest
                clear hTa hba ca hnx'
                obtain ⟨op, d', L'', xs'', rfl, hop, hnx', hT⟩ := hcut
                have hdd : 0 ≤ d' ∧ d' ≤ 61 + ((k : Int) + 1) := by rcases hop with ⟨_, rfl⟩ | ⟨_, rfl⟩ <;> omega
                obtain ⟨a0, a1, a2, p0, p1, p2, hsum, hst⟩ := hT.as_.sd.steps3
                obtain ⟨q0, q1, q2⟩ := hst wc (Below.refl _ wc)
                have hw1 : wrap64 (a0 + a1) = a0 + a1 := by unfold wrap64; omega
                have hw2 : wrap64 (a0 + a1 + a2) = d' := by unfold wrap64; omega
                have Q0 := Lib.hid q0
                have Q1 := Lib.hid q1
                have Q2 := Lib.hid q2
                have HT := Lib.hid hT
                clear q0 q1 q2 hst hsum p0 p1 p2 hT
                rcases hop with ⟨rfl, rfl⟩ | ⟨rfl, rfl⟩
                · as_aux_lemma =>
                  have hwd : wrap64 (d + 1) = d + 1 := by unfold wrap64; omega
                  go_wp2_with fail
                  refine Q0.out.mono ?_
                  rintro e wn ⟨rfl, rfl⟩
                  go_wp2_with fail
                  refine Q1.out.mono ?_
                  rintro e wn ⟨rfl, rfl⟩
                  go_wp2_with fail
                  refine Q2.out.mono ?_
                  rintro e wn ⟨rfl, rfl⟩
                  clear Q0 Q1 Q2
                  go_wp2_with fail
                  go_roundw
                  case rel => exact ⟨k + 1, d + 1, L'', xs'', by omega, rfl, by go_num, by omega, by omega, hnx', HT.out⟩
                  case measure => simp [intOf]; omega
                · as_aux_lemma =>
                  go_wp2_with fail
                  refine Q0.out.mono ?_
                  rintro e wn ⟨rfl, rfl⟩
                  go_wp2_with fail
                  refine Q1.out.mono ?_
                  rintro e wn ⟨rfl, rfl⟩
                  go_wp2_with fail
                  refine Q2.out.mono ?_
                  rintro e wn ⟨rfl, rfl⟩
                  clear Q0 Q1 Q2
                  go_wp2_with fail
                  go_roundw
                  case rel => exact ⟨k + 1, d', L'', xs'', by omega, rfl, by go_num, by omega, by omega, hnx', HT.out⟩
                  case measure => simp [intOf]; omega
                -- END rest
            · obtain rfl : k = n2 := by omega
              have bel := hT.as_.sd.bel
              clear hT hlt hk
              go_wp2_with (go_at_call 26; refine (awake14_any _).mono ?_; rintro e w9 ⟨rfl, hb9⟩)
              go_ret
              exact ⟨rfl, bel.trans (hb9.mono bel.size)⟩

set_option maxRecDepth 100000 in
set_option maxHeartbeats 1000000 in
theorem scopeSteps_walk (W : World) (A0 : Option Addr) (n c : Nat) (z : List Int) (_h : n ≤ maxLen) (F0 : Flat W A0 n z) (A1 : Option Addr) (n1 c1 : Nat) (z1 : List Int) (_h1 : n1 ≤ maxLen) (F1 : Flat W A1 n1 z1) (A2 : Option Addr) (n2 c2 : Nat) (z2 : List Int) (_h2 : n2 ≤ maxLen) (F2 : Flat W A2 (n2 * 3) z2) :
    Calls Try.prog 8 #[.slice A0 n c, .slice A1 n1 c1, .slice A2 n2 c2] W fun e w' => e = .returned (.bool true) ∧ Below W.heap.size W w' := by
  by_cases hn : n ≤ 60
  · by_cases hn1 : n1 ≤ 20
    · by_cases hn2 : n2 ≤ 200
      · exact steps_near W A0 n c z F0 hn A1 n1 c1 z1 F1 hn1 A2 n2 c2 z2 F2 hn2
      · have d1 : decide ((60 : Int) < (n : Int)) = false := by simp; omega
        have d2 : decide ((20 : Int) < (n1 : Int)) = false := by simp; omega
        have d3 : decide ((200 : Int) < (n2 : Int)) = true := by simp; omega
        clear F0 F1 F2
        go_enter Try.func8, Try.ntmps8
        go_wp2_with fail
        refine (new_ok 200 2 _ (by omega) (by omega) (by omega) (by omega)).mono ?_
        rintro e w1 ⟨p, s, rfl, hm1, hk1, hp, hs⟩
        have hb1 : Below W.heap.size W w1 := hk1.below (Nat.le_refl _) (fun _ h => h.elim)
        clear hk1 hm1
        go_wp2_with (go_at_call 26; refine (awake14_any _).mono ?_; rintro e w9 ⟨rfl, hb9⟩)
        go_ret
        exact ⟨rfl, hb1.trans (hb9.mono hb1.size)⟩
    · have d1 : decide ((60 : Int) < (n : Int)) = false := by simp; omega
      have d2 : decide ((20 : Int) < (n1 : Int)) = true := by simp; omega
      clear F0 F1 F2
      go_enter Try.func8, Try.ntmps8
      go_wp2_with fail
      refine (new_ok 200 2 _ (by omega) (by omega) (by omega) (by omega)).mono ?_
      rintro e w1 ⟨p, s, rfl, hm1, hk1, hp, hs⟩
      have hb1 : Below W.heap.size W w1 := hk1.below (Nat.le_refl _) (fun _ h => h.elim)
      clear hk1 hm1
      go_wp2_with (go_at_call 26; refine (awake14_any _).mono ?_; rintro e w9 ⟨rfl, hb9⟩)
      go_ret
      exact ⟨rfl, hb1.trans (hb9.mono hb1.size)⟩
  · have d1 : decide ((60 : Int) < (n : Int)) = true := by simp; omega
    clear F0 F1 F2
    go_enter Try.func8, Try.ntmps8
    go_wp2_with fail
    refine (new_ok 200 2 _ (by omega) (by omega) (by omega) (by omega)).mono ?_
    rintro e w1 ⟨p, s, rfl, hm1, hk1, hp, hs⟩
    have hb1 : Below W.heap.size W w1 := hk1.below (Nat.le_refl _) (fun _ h => h.elim)
    clear hk1 hm1
    go_wp2_with (go_at_call 26; refine (awake14_any _).mono ?_; rintro e w9 ⟨rfl, hb9⟩)
    go_ret
    exact ⟨rfl, hb1.trans (hb9.mono hb1.size)⟩
end Go.Proofs.Ytkdpckoneohjkaa
