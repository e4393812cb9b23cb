/-
  WHAT IS PROVED HERE: the walk of the law pelotonlaw14.ScopeNests: it returns true, and what was there before the call stays. Conditions: the arguments are 64-bit numbers.
-/
import Derived.Test.YtkdpckoneohjkaaQuiet
namespace Go.Proofs.Ytkdpckoneohjkaa
open Go.RowKit

theorem wfs_take {L : List Sc} (h : WfS L) (k : Nat) (hk : 0 < k) : WfS (L.take k) := by
  have key : ∀ (q : Nat) m, (L.take k)[q]? = some m → L[q]? = some m ∧ q < k := by
    intro q m hm
    rw [List.getElem?_take] at hm
    split at hm
    · exact ⟨hm, by assumption⟩
    · cases hm
  refine ⟨by have := h.pos; simp; omega, ?_, ?_, ?_⟩
  · intro n hn; exact h.zero n (key 0 n hn).1
  · intro s n hn h0
    obtain ⟨h1, h2⟩ := key s n hn
    obtain ⟨q, m, a, b, c, d⟩ := h.up s n h1 h0
    exact ⟨q, m, a, b, by rw [List.getElem?_take, if_pos (by omega)]; exact c, d⟩
  · intro s n hn; exact h.deep s n (key s n hn).1
theorem take_one {L : List Sc} (h : WfS L) (hz : ∀ n ∈ L, n.ask = 0 ∧ n.live = 0) : L.take 1 = [⟨-1, 0, 0, 0⟩] := by
  match L, h, hz with
  | n :: l, h, hz =>
    have h1 := h.zero n rfl
    have h2 := hz n (by simp)
    obtain ⟨a, b, c, d⟩ := n
    simp only at h1 h2
    obtain ⟨rfl, rfl⟩ := h1
    obtain ⟨rfl, rfl⟩ := h2
    rfl
theorem take_next {L : List Sc} (hz : ∀ n ∈ L, n.ask = 0 ∧ n.live = 0) {i : Nat} {n : Sc} (hn : L[i]? = some n) {q : Nat} (hq : n.par = q) : L.take i ++ [⟨q, n.nest, 0, 0⟩] = L.take (i + 1) := by
  have hm := hz n (List.mem_of_getElem? hn)
  rw [List.take_add_one, hn]
  obtain ⟨a, b, c, d⟩ := n
  simp only at hm hq
  obtain ⟨rfl, rfl⟩ := hm
  subst hq
  rfl
section
variable {W w w' : World} {mb : MB} {t g k bi ci : Nat} {L : List Sc}
theorem GrT.kept {S : Nat → Prop} (h : GrT W w mb t g k bi ci L) (hk : Kept S w w') (hs : ∀ q, hasSW mb t g q ∨ q = bi → ¬ S q) (hb : Below W.heap.size W w') : GrT W w' mb t g k bi ci L :=
  ⟨h.sd.kept hk (fun q e => hs q (.inl e)) hb, h.wf, h.zero, h.rin.kept hk (hs _ (.inr rfl)), h.hi, h.wi⟩
end
/-- A grown tree, and the reference's. -/
structure GrR (W w : World) (mb : MB) (t g k bi ci : Nat) (L : List Sc) (R : RB) (l : List Sc) : Prop where
  gt : GrT W w mb t g k bi ci L
  rt : RT w R l
  ap : ∀ q, R.has q → ¬ (hasSW mb t g q ∨ q = bi)
  rw_ : ∀ q, R.has q → W.heap.size ≤ q
theorem sd_len {W w : World} {mb : MB} {p g k : Nat} {size did : Int} {l : List Sc} (h : SD W w mb p g size k did l) :
    Calls Try.prog 35 #[.pointer (some ⟨p, 0, none⟩)] w fun e w' => e = .returned (.int .i64 l.length) ∧ w = w' := by
  have := len_tree p g (scN l) w h.tr
  rwa [length_scN] at this
section
variable {W w : World} {mb : MB} {t g k : Nat} {size d : Int} {L : List Sc} {R : RB}
theorem v_nest (h : SD W w mb t g size k d L) (s v : Int) (hv : nestOf (scN L) s = v) :
    Calls Try.prog 31 #[.pointer (some ⟨t, 0, none⟩), .int .i64 s] w fun e w' => e = .returned (.int .i64 v) ∧ Below w.heap.size w w' := by
  subst hv
  exact (sd_nest h s).mono fun _ _ ⟨a, _, b⟩ => ⟨a, b⟩
theorem v_parent (h : SD W w mb t g size k d L) (s v : Int) (hv : parOf (scN L) s = v) :
    Calls Try.prog 36 #[.pointer (some ⟨t, 0, none⟩), .int .i64 s] w fun e w' => e = .returned (.int .i64 v) ∧ Below w.heap.size w w' := by
  subst hv
  exact (sd_parent h s).mono fun _ _ ⟨a, _, b⟩ => ⟨a, b⟩
theorem v_inside (h : SD W w mb t g size k d L) (hw : WfS L) (s o : Int) (v : Bool) (hv : insS L s o = v) :
    Calls Try.prog 39 #[.pointer (some ⟨t, 0, none⟩), .int .i64 s, .int .i64 o] w fun e w' => e = .returned (.bool v) ∧ Below w.heap.size w w' := by
  exact (sd_inside h hw s o v hv.symm).mono fun _ _ ⟨a, _, b⟩ => ⟨a, b⟩
theorem v_rnest (h : RT w R L) (hw : WfS L) (s v : Int) (hv : nestOf (scN L) s = v) :
    Calls Try.prog 38 #[.pointer (some ⟨R.r, 0, none⟩), .int .i64 s] w fun e w' => e = .returned (.int .i64 v) ∧ w = w' := by
  subst hv
  exact rnest_any h hw s
theorem v_rpar (h : RT w R L) (s v : Int) (hv : parOf (scN L) s = v) :
    Calls Try.prog 37 #[.pointer (some ⟨R.r, 0, none⟩), .int .i64 s] w fun e w' => e = .returned (.int .i64 v) ∧ w = w' := by
  subst hv
  exact rpar_any h s
theorem v_rins (h : RT w R L) (hw : WfS L) (s o : Int) (v : Bool) (hv : insS L s o = v) :
    Calls Try.prog 40 #[.pointer (some ⟨R.r, 0, none⟩), .int .i64 s, .int .i64 o] w fun e w' => e = .returned (.bool v) ∧ w = w' := by
  subst hv
  exact rins_any h hw s o
end
theorem GrR.below {W w w' : World} {mb : MB} {t g k bi ci : Nat} {L l : List Sc} {R : RB} (h : GrR W w mb t g k bi ci L R l) (hb : Below w.heap.size w w') : GrR W w' mb t g k bi ci L R l :=
  ⟨h.gt.below hb, h.rt.below hb, h.ap, h.rw_⟩
theorem ins_self {L : List Sc} (h : WfS L) {s : Nat} {n : Sc} (hn : L[s]? = some n) : insS L s s = true ∧ insS L s 0 = true := by
  have h1 := sc_in hn
  have h0 : inT L.length 0 = true := by have := h.pos; simp [inT]; omega
  have h2 : (s : Int) ∈ outs L s := by rw [h.outs_eq hn]; simp
  have h3 := h.outs_0 (s + 1) s n (by omega) hn
  unfold insS
  rw [h1, h0, decide_eq_true h2, decide_eq_true h3]
  exact ⟨rfl, rfl⟩
theorem lt80 {n : Nat} (hn : n ≤ 80) : decide ((80 : Int) < (n : Int)) = false := by simp; omega

set_option maxRecDepth 100000 in
set_option maxHeartbeats 4000000 in
theorem nests_near (W : World) (A : Option Addr) (n c : Nat) (z : List Int) (F : Flat W A n z) (hn : n ≤ 80) (a b : Int) :
    Calls Try.prog 7 #[.slice A n c, .int .i64 a, .int .i64 b] W fun e w' => e = .returned (.bool true) ∧ Below W.heap.size W w' := by
  have d1 := lt80 hn
  go_enter Try.func7, Try.ntmps7
  go_wp2_with fail
  refine (new_ok 200 1 _ (by omega) (by omega) (by omega) (by omega)).mono ?_
  rintro e w1 ⟨p, s, rfl, hm1, hk1, hp, hs⟩
  have hb1 : Below W.heap.size W w1 := hk1.below (Nat.le_refl _) (fun _ h => h.elim)
  clear hk1
  go_wp2_with fail
  refine (grow_ok W w1 p s 1 A n c z hm1 hb1 hp hs F hn).mono ?_
  rintro e w2 ⟨c', t, g, bi, ci, L, rfl, hG, hlen⟩
  clear hm1 hb1 hp hs F
  go_wp2_with fail
  refine (ref_new w2).mono ?_
  rintro e w3 ⟨R0, rfl, hR0, hnew, hb3⟩
  have hI : GrR W w3 ⟨p, c', s⟩ t g 2 bi ci L R0 (L.take 1) := by
    refine ⟨hG.below hb3, by rw [take_one hG.wf hG.zero]; exact hR0, fun q hq e => ?_, fun q hq => Nat.le_trans hG.sd.bel.size (hnew q hq)⟩
    have := hnew q hq
    rcases e with e | e
    · have := hG.sd.lt q e; omega
    · have := hG.rin.lt; omega
  have hwf := hG.wf
  have hzero := hG.zero
  have hpos := hwf.pos
  clear hG hR0 hnew hb3
  obtain ⟨r0, hr0⟩ : ∃ r, R0.r = r := ⟨_, rfl⟩
  have HR0 : Hid (R0.r = r0) := Lib.hid hr0
  rw [hr0]
  clear hr0
  go_wp2_with fail
  go_loopw [13] (fun i wr => ∃ (k : Nat) (R : RB), 1 ≤ k ∧ k ≤ L.length ∧ i = .int .i64 k ∧ R.r = r0 ∧ GrR W wr ⟨p, c', s⟩ t g 2 bi ci L R (L.take k)) (fun i _ => L.length - (intOf i).toNat)
  case atStart => exact ⟨1, R0, Nat.le_refl _, hpos, rfl, HR0.out, hI⟩
  case round =>
    clear hI HR0
    obtain ⟨k, R, hk1, hk, rfl, hr, hI⟩ := hrel
    by_cases hlt : k < L.length
    · obtain ⟨m, hm⟩ : ∃ m, L[k]? = some m := ⟨L[k], by simp [hlt]⟩
      obtain ⟨q, m', hpar, hqk, hm', hne⟩ := hwf.up k m hm (by omega)
      have cm := hI.gt.rin.cell (int_row Sc.par hm)
      rw [hpar] at cm
      have hmt : (L.take k)[q]? = some m' := by rw [List.getElem?_take, if_pos hqk]; exact hm'
      have hdm := hwf.deep k m hm
      have hop := ropen_ok hI.rt (wfs_take hwf k (by omega)) 0 1 2 q m' hmt (by omega) (by omega) (by omega) (by omega) (by simp; omega) m.nest
      rw [hr, take_next hzero hm hpar] at hop
      have hrm := hI.gt.rin.room
      rw [len_row] at hrm
      have HM := Lib.hid hne
      clear hpar hne
      go_wp2_with fail
      refine hop.mono ?_
      rintro e w4 ⟨R', rfl, hr', hR', hk', hn'⟩
      clear hop
      have hl4 := hI.gt.sd.lt
      have hlb := hI.gt.rin.lt
      have hI' : GrR W w4 ⟨p, c', s⟩ t g 2 bi ci L R' (L.take (k + 1)) := by
        refine ⟨hI.gt.kept hk' (fun q e e' => hI.ap q e' e) (hI.gt.sd.bel.trans (hk'.below hI.gt.sd.bel.size (fun q e => hI.rw_ q e))), hR', fun q e => ?_, fun q e => ?_⟩
        · rcases hn' q e with e' | e'
          · exact hI.ap q e'
          · rintro (e2 | e2)
            · have := hl4 q e2; omega
            · omega
        · rcases hn' q e with e' | e'
          · exact hI.rw_ q e'
          · have := hI.gt.sd.bel.size; omega
      clear hI cm
      go_wp2_with fail
      go_roundw
      case rel => exact ⟨k + 1, R', by omega, by omega, by go_num, by first | exact hr' | exact hr'.trans hr, hI'⟩
      case measure => simp [intOf]; omega
    · obtain rfl : k = L.length := by omega
      rw [List.take_length] at hI
      subst hr
      clear hlt hk1 hk
      obtain ⟨va, hva⟩ : ∃ v, parOf (scN L) a = v := ⟨_, rfl⟩
      obtain ⟨vn, hvn⟩ : ∃ v, nestOf (scN L) a = v := ⟨_, rfl⟩
      obtain ⟨b1, hb1⟩ : ∃ v, insS L a b = v := ⟨_, rfl⟩
      obtain ⟨b2, hb2⟩ : ∃ v, insS L b a = v := ⟨_, rfl⟩
      have e1 : (b1 == b1) = true := by simp
      have e2 : (b2 == b2) = true := by simp
      have HVA := Lib.hid hva
      have HVN := Lib.hid hvn
      have HB1 := Lib.hid hb1
      have HB2 := Lib.hid hb2
      clear hva hvn hb1 hb2
      go_wp2_with fail
      refine (sd_len hI.gt.sd).mono ?_
      rintro e wn ⟨rfl, rfl⟩
      go_wp2_with fail
      refine (v_parent hI.gt.sd a va HVA.out).mono ?_
      rintro e w5 ⟨rfl, hb⟩
      have hI := hI.below hb
      clear hb
      go_wp2_with fail
      refine (v_rpar hI.rt a va HVA.out).mono ?_
      rintro e wn ⟨rfl, rfl⟩
      go_wp2_with fail
      refine (v_nest hI.gt.sd a vn HVN.out).mono ?_
      rintro e w6 ⟨rfl, hb⟩
      have hI := hI.below hb
      clear hb
      go_wp2_with fail
      refine (v_rnest hI.rt hwf a vn HVN.out).mono ?_
      rintro e wn ⟨rfl, rfl⟩
      go_wp2_with fail
      refine (v_inside hI.gt.sd hwf a b b1 HB1.out).mono ?_
      rintro e w7 ⟨rfl, hb⟩
      have hI := hI.below hb
      clear hb
      go_wp2_with fail
      refine (v_rins hI.rt hwf a b b1 HB1.out).mono ?_
      rintro e wn ⟨rfl, rfl⟩
      go_wp2_with fail
      refine (v_inside hI.gt.sd hwf b a b2 HB2.out).mono ?_
      rintro e w8 ⟨rfl, hb⟩
      have hI := hI.below hb
      clear hb
      go_wp2_with fail
      refine (v_rins hI.rt hwf b a b2 HB2.out).mono ?_
      rintro e wn ⟨rfl, rfl⟩
      go_wp2_with fail
      go_loopw [14] (fun i wr => ∃ (k : Nat), k ≤ L.length ∧ i = .int .i64 k ∧ GrR W wr ⟨p, c', s⟩ t g 2 bi ci L R L) (fun i _ => L.length - (intOf i).toNat)
      case atStart => exact ⟨0, Nat.zero_le _, rfl, hI⟩
      case round =>
        clear hI HVA HVN HB1 HB2 e1 e2
        obtain ⟨k, hk, rfl, hI⟩ := hrel
        by_cases hlt : k < L.length
        · obtain ⟨m, hm⟩ : ∃ m, L[k]? = some m := ⟨L[k], by simp [hlt]⟩
          obtain ⟨b3, hb3⟩ : ∃ v, insS L k a = v := ⟨_, rfl⟩
          have cm : ∀ q : BelowOf wr, q.v.cell? ⟨bi, k, none⟩ = some (.int .i64 m.par) := fun q => (hI.gt.below q.bel).rin.cell (int_row Sc.par hm)
          have hi := ins_self hwf hm
          have HI := Lib.hid hi
          have HB := Lib.hid hb3
          have HP := Lib.hid (parOf_sc hm)
          have HN := Lib.hid (nestOf_sc hm)
          have e1 : (b3 == b3) = true := by simp
          have hrm := hI.gt.rin.room
          rw [len_row] at hrm
          clear hi hb3
          go_upto_region 19 with fail
          refine wp_region_quiet_below (by kernel_rfl) (by kernel_rfl) ?_
          repeat (go_big_quiet_step (first
            | (go_at_call 36; exact q_parent hI.gt.sd k m.par HP.out _)
            | (go_at_call 31; exact q_nest hI.gt.sd k m.nest HN.out _)
            | (go_at_call 38; exact q_rnest hI.rt hwf k m.nest HN.out _)
            | (go_at_call 39; with_reducible first | exact q_inside hI.gt.sd hwf k a b3 HB.out _ | exact q_inside hI.gt.sd hwf k k true HI.out.1 _ | exact q_inside hI.gt.sd hwf k 0 true HI.out.2 _)
            | (go_at_call 40; exact q_rins hI.rt hwf k a b3 HB.out _)))
          refine wpQuiet_nil ?_
          intro _ hw'
          obtain ⟨pq, hw''⟩ := hw'
          subst hw''
          have hI' := hI.below pq.bel
          clear cm
          go_wp2_with fail
          go_roundw
          case rel => exact ⟨k + 1, by omega, by go_num, hI'⟩
          case measure => simp [intOf]; omega
        · obtain rfl : k = L.length := by omega
          have bel := hI.gt.sd.bel
          clear hI hlt hk
          go_wp2_with (go_at_call 26; refine (awake14_any _).mono ?_; rintro e w9 ⟨rfl, hb9⟩)
          go_ret
          exact ⟨rfl, bel.trans (hb9.mono bel.size)⟩

theorem scopeNests_walk (W : World) (A : Option Addr) (n c : Nat) (z : List Int) (_h : n ≤ maxLen) (F : Flat W A n z) (a : Int) (_w1 : (Lit.int .i64 a).wf = true) (b : Int) (_w2 : (Lit.int .i64 b).wf = true) :
    Calls Try.prog 7 #[.slice A n c, .int .i64 a, .int .i64 b] W fun e w' => e = .returned (.bool true) ∧ Below W.heap.size W w' := by
  by_cases hn : n ≤ 80
  · exact nests_near W A n c z F hn a b
  · have d1 : decide ((80 : Int) < (n : Int)) = true := by simp; omega
    clear F
    go_enter Try.func7, Try.ntmps7
    go_wp2_with fail
    refine (new_ok 200 1 _ (by omega) (by omega) (by omega) (by omega)).mono ?_
    rintro e w1 ⟨p, s, rfl, hm1, hk1, hp, hs⟩
    have hb1 : Below W.heap.size W w1 := hk1.below (Nat.le_refl _) (fun _ h => h.elim)
    clear hk1 hm1
    go_wp2_with (go_at_call 26; refine (awake14_any _).mono ?_; rintro e w9 ⟨rfl, hb9⟩)
    go_ret
    exact ⟨rfl, hb1.trans (hb9.mono hb1.size)⟩
end Go.Proofs.Ytkdpckoneohjkaa
