/-
  WHAT IS PROVED HERE: the contract of pelotonlaw14's grow: a tree with scopes, and the list of those in which they were opened. Conditions: the machine is a fresh one, the list has at most 80 numbers.
-/
import Derived.Test.YtkdpckoneohjkaaAwakeS
import Derived.Test.YtkdpckoneohjkaaArgs
import Derived.Test.YtkdpckoneohjkaaRow
namespace Go.Proofs.Ytkdpckoneohjkaa
open Go.RowKit

theorem gpick (v : Int) (n : Nat) (h0 : 0 < n) (h1 : n ≤ 1000) : ∃ r : Nat, r < n ∧ (wrap64 (v.tmod (n : Int) + (n : Int))).tmod (n : Int) = (r : Int) := by
  have a := Int.tmod_lt_of_pos v (show (0 : Int) < n by omega)
  have b := Int.lt_tmod_of_pos v (show (0 : Int) < n by omega)
  have e : wrap64 (v.tmod (n : Int) + (n : Int)) = v.tmod (n : Int) + (n : Int) := by unfold wrap64; omega
  rw [e]
  obtain ⟨u, hu⟩ := Int.eq_ofNat_of_zero_le (show 0 ≤ v.tmod (n : Int) + (n : Int) by omega)
  rw [hu]
  exact ⟨u % n, Nat.mod_lt _ h0, rfl⟩

/-- A grown tree, and the list of those in which its scopes were opened. -/
structure GrT (W w : World) (mb : MB) (t g : Nat) (k : Nat) (bi ci : Nat) (L : List Sc) : Prop where
  sd : SD W w mb t g 200 k L.length L
  wf : WfS L
  zero : ∀ n ∈ L, n.ask = 0 ∧ n.live = 0
  rin : Rw w bi ci 3 (ints (L.map Sc.par))
  hi : ¬ hasSW mb t g bi
  wi : W.heap.size ≤ bi
/-- And how many are around them. -/
structure GrW (W w : World) (mb : MB) (t g : Nat) (k : Nat) (bi ci bn cn : Nat) (L : List Sc) : Prop where
  gt : GrT W w mb t g k bi ci L
  rne : Rw w bn cn 3 (ints (L.map Sc.nest))
  hn : ¬ hasSW mb t g bn
  wn : W.heap.size ≤ bn
  ne : bi ≠ bn
section
variable {W w w' : World} {mb : MB} {t g k bi ci bn cn : Nat} {L : List Sc}
theorem GrT.below (h : GrT W w mb t g k bi ci L) (hb : Below w.heap.size w w') : GrT W w' mb t g k bi ci L :=
  ⟨h.sd.below hb, h.wf, h.zero, h.rin.below hb h.rin.lt, h.hi, h.wi⟩
theorem GrW.below (h : GrW W w mb t g k bi ci bn cn L) (hb : Below w.heap.size w w') : GrW W w' mb t g k bi ci bn cn L :=
  ⟨h.gt.below hb, h.rne.below hb h.rne.lt, h.hn, h.wn, h.ne⟩
theorem int_row {l : List Sc} (f : Sc → Int) {r : Nat} {n : Sc} (hn : l[r]? = some n) : (ints (l.map f))[r]? = some (.int .i64 (f n)) := by
  rw [get_ints, List.getElem?_map, hn]; rfl
theorem len_row (l : List Sc) (f : Sc → Int) : (ints (l.map f)).length = l.length := by simp [ints]
end
theorem info_int : (Try.prog.info? 3).map (fun i => (i.zero, i.size, i.bytes)) = some (some (.int .i64 0), 1, 8) := by kernel_rfl
theorem info_int' : ∃ i0, Try.prog.info? 3 = some i0 ∧ i0.zero = some (.int .i64 0) ∧ i0.size = 1 ∧ i0.bytes = 8 := by
  have h := info_int
  cases hc : Try.prog.info? 3 with
  | none => rw [hc] at h; simp at h
  | some i =>
    rw [hc] at h
    simp at h
    exact ⟨i, rfl, h.1, h.2.1, h.2.2⟩

set_option maxRecDepth 100000 in
set_option maxHeartbeats 4000000 in
theorem grow_ok (W w : World) (p s nw : Nat) (A : Option Addr) (n c : Nat) (z : List Int) (hm : MachP w ⟨p, p, s⟩ (MS.fresh 200 nw)) (hb : Below W.heap.size W w) (hp : W.heap.size ≤ p) (hs : W.heap.size ≤ s) (F : Flat W A n z) (hn : n ≤ 80) :
    Calls Try.prog 27 #[.pointer (some ⟨p, 0, none⟩), .slice A n c] w fun e w' => ∃ c' t g bi ci L,
      e = .returned (.tuple #[.pointer (some ⟨t, 0, none⟩), .slice (some ⟨bi, 0, none⟩) L.length ci, .bool true]) ∧ GrT W w' ⟨p, c', s⟩ t g (nw + 1) bi ci L ∧ L.length ≤ n + 1 := by
  obtain ⟨ii, hii, hi0, hi1, hi2⟩ := info_int'
  go_enter Try.func27, Try.ntmps27
  go_wp2_with fail
  refine (sd_new (W0 := W) p s 200 nw 0 w hm hb hp hs (by omega) (by omega) (by omega) (by omega)).mono ?_
  rintro e w2 ⟨c2, t, g2, rfl, h2⟩
  clear hm hb hp hs
  have hG : GrW W ((w2.alloc (.cells #[.int .i64 (-1)] 3)).alloc (.cells #[.int .i64 0] 3)) ⟨p, c2, s⟩ t g2 (nw + 1) w2.heap.size 1 (w2.heap.size + 1) 1 [⟨-1, 0, 0, 0⟩] := by
    have hbel : Below w2.heap.size w2 ((w2.alloc (.cells #[.int .i64 (-1)] 3)).alloc (.cells #[.int .i64 0] 3)) := ((Below.refl _ _).alloc (Nat.le_refl _) _).alloc (by simp) _
    have hs2 := h2.bel.size
    refine ⟨⟨h2.below hbel, WfS.one, by simp, ?_, fun e => by have := h2.lt _ e; omega, hs2⟩, ?_, fun e => by have := h2.lt _ e; omega, by omega, by omega⟩
    · exact (Rw.of (Blk.new w2 3 (ints [-1])) (by unfold maxLen; simp [ints])).alloc _
    · have := Rw.of (Blk.new (w2.alloc (.cells #[.int .i64 (-1)] 3)) 3 (ints [0])) (by unfold maxLen; simp [ints])
      rwa [World.size_alloc] at this
  clear h2
  go_wp2_with fail
  generalize w2.heap.size = b0 at *
  generalize ((w2.alloc (.cells #[.int .i64 (-1)] 3)).alloc (.cells #[.int .i64 0] 3)) = w3 at *
  go_loopw [9, 10, 11] (fun x y i wr => ∃ (k : Nat) (c' g bi ci bn cn : Nat) (L : List Sc), k ≤ n ∧ x = .slice (some ⟨bi, 0, none⟩) L.length ci ∧ y = .slice (some ⟨bn, 0, none⟩) L.length cn ∧ i = .int .i64 k ∧ L.length ≤ k + 1 ∧ GrW W wr ⟨p, c', s⟩ t g (nw + 1) bi ci bn cn L) (fun _ _ i _ => n - (intOf i).toNat)
  case atStart => exact ⟨0, c2, g2, b0, 1, b0 + 1, 1, [⟨-1, 0, 0, 0⟩], Nat.zero_le _, rfl, rfl, rfl, by simp, hG⟩
  case round =>
    clear hG
    obtain ⟨k, c', g, bi, ci, bn, cn, L, hk, rfl, rfl, rfl, hL, hG⟩ := hrel
    by_cases hlt : k < n
    · obtain ⟨_, _, hcell⟩ := F
      obtain ⟨b, off, rfl, hb, hc⟩ := hcell (by omega)
      obtain ⟨v, hv⟩ : ∃ v, v = z.getD k 0 := ⟨_, rfl⟩
      have hcv : wr.cell? ⟨b, off + k, none⟩ = some (.int .i64 v) := by rw [hv, hG.gt.sd.bel.cell (by exact hb)]; exact hc k hlt
      clear hv hcell hc
      have hpos := hG.gt.wf.pos
      have hz : ¬ (L.length : Int) = 0 := by omega
      obtain ⟨r, hr1, hr⟩ := gpick v L.length hpos (by omega)
      have HR := Lib.hid hr
      clear hr
      go_upto_region 11 with fail
      rw [HR.out]
      clear HR hcv
      obtain ⟨m, hm⟩ : ∃ m, L[r]? = some m := ⟨L[r], by simp [hr1]⟩
      have hdeep := hG.gt.wf.deep r m hm
      obtain ⟨hd0, hd1⟩ := hdeep
      by_cases hd : m.nest < 32
      · have dd : decide (32 ≤ m.nest) = false := by simp; omega
        have hwr : wrap64 (m.nest + 1) = m.nest + 1 := by unfold wrap64; omega
        go_wp2_with fail
        refine (sd_open hG.gt.sd 0 (by omega) (by omega) (by omega) r m hm hd hd0 (by omega) (by omega)).mono ?_
        rintro e w4 ⟨c4, g4, rfl, h4, hk4, hnew⟩
        have rin4 := hG.gt.rin.kept hk4 hG.gt.hi
        have rne4 := hG.rne.kept hk4 hG.hn
        have l4 := hk4.size
        have lin := hG.gt.rin.lt
        have lne := hG.rne.lt
        have hi4 : ¬ hasSW ⟨p, c4, s⟩ t g4 bi := fun e => (hnew _ e).elim hG.gt.hi (fun h => by omega)
        have hn4 : ¬ hasSW ⟨p, c4, s⟩ t g4 bn := fun e => (hnew _ e).elim hG.hn (fun h => by omega)
        have cn4 : w4.cell? ⟨bn, r, none⟩ = some (.int .i64 m.nest) := rne4.cell (int_row Sc.nest hm)
        have hwf := hG.gt.wf.add hm hd 0 0
        have hzero : ∀ n ∈ L ++ [⟨(r : Int), m.nest + 1, 0, 0⟩], n.ask = 0 ∧ n.live = 0 := by
          intro x hx
          rcases List.mem_append.1 hx with h | h
          · exact hG.gt.zero x h
          · simp at h; subst h; exact ⟨rfl, rfl⟩
        have hwi := hG.gt.wi
        have hwn := hG.wn
        have hne := hG.ne
        have nb4 : (w4.alloc (.cells #[.int .i64 r] 3)).cell? ⟨w4.heap.size, 0, none⟩ = some (.int .i64 r) := (Blk.new w4 3 [.int .i64 r]).cell 0
        have rin5 := rin4.alloc (.cells #[.int .i64 r] 3)
        have rne5 := rne4.alloc (.cells #[.int .i64 r] 3)
        have h5 := h4.below ((Below.refl _ w4).alloc (Nat.le_refl _) (.cells #[.int .i64 r] 3))
        have z5 : (w4.alloc (.cells #[.int .i64 r] 3)).heap.size = w4.heap.size + 1 := by simp
        have H5 := Lib.hid h5
        have RI := Lib.hid rin5
        have RN := Lib.hid rne5
        have NB := Lib.hid nb4
        have HI := Lib.hid hi4
        have HN := Lib.hid hn4
        have HW := Lib.hid hwf
        have HZ := Lib.hid hzero
        have HM := Lib.hid hm
        clear hG h4 hk4 hnew rin4 rne4 h5 rin5 rne5 nb4 hi4 hn4 hwf hzero
        go_upto_region 18 with (at_builtin; go_loud (refine wpList_append_row _ rfl (.tmp 68) (.tmp 70) 24 rfl 3 ii (.int .i64 0) 8 Try.underlying24 hii hi0 hi1 hi2 rfl bi ci L.length (ints (L.map Sc.par)) rfl (len_row L Sc.par).symm RI.out w4.heap.size (.int .i64 r) rfl NB.out rfl (by rw [len_row]; omega) (by omega) ?_); intro bi' ci' w6 ri6 hk6 hw6 hl6; have rn6 := RN.out.kept hk6 (Ne.symm hne); have cn6 : w6.cell? ⟨bn, r, none⟩ = some (.int .i64 m.nest) := rn6.cell (int_row Sc.nest HM.out); have RI6 := Lib.hid ri6; have RN6 := Lib.hid rn6; have HK6 := Lib.hid hk6; have HW6 := Lib.hid hw6; clear ri6 rn6 hk6 hw6)
        have hz6 := HK6.out.size
        have h6 : SD W w6 ⟨p, c4, s⟩ t g4 200 (nw + 1) (L.length + 1) (L ++ [⟨(r : Int), m.nest + 1, 0, 0⟩]) := H5.out.kept HK6.out (fun q hq e => HI.out (e ▸ hq)) (H5.out.bel.trans (HK6.out.below H5.out.bel.size (fun q e => e ▸ hwi)))
        have cn6 : w6.cell? ⟨bn, r, none⟩ = some (.int .i64 m.nest) := RN6.out.cell (int_row Sc.nest HM.out)
        have rin7 := RI6.out.alloc (.cells #[.int .i64 (m.nest + 1)] 3)
        have rne7 := RN6.out.alloc (.cells #[.int .i64 (m.nest + 1)] 3)
        have h7 := h6.below ((Below.refl _ w6).alloc (Nat.le_refl _) (.cells #[.int .i64 (m.nest + 1)] 3))
        have nb7 : (w6.alloc (.cells #[.int .i64 (m.nest + 1)] 3)).cell? ⟨w6.heap.size, 0, none⟩ = some (.int .i64 (m.nest + 1)) := (Blk.new w6 3 [.int .i64 (m.nest + 1)]).cell 0
        have H7 := Lib.hid h7
        have RI7 := Lib.hid rin7
        have RN7 := Lib.hid rne7
        have NB7 := Lib.hid nb7
        clear h6 h7 rin7 rne7 nb7
        go_wp2_with (at_builtin; go_loud (refine wpList_append_row _ rfl (.tmp 72) (.tmp 78) 24 rfl 3 ii (.int .i64 0) 8 Try.underlying24 hii hi0 hi1 hi2 rfl bn cn L.length (ints (L.map Sc.nest)) rfl (len_row L Sc.nest).symm RN7.out w6.heap.size (.int .i64 (m.nest + 1)) rfl NB7.out rfl (by rw [len_row]; omega) (by omega) ?_); intro bn' cn' w8 rn8 hk8 hw8 hl8; have RN8 := Lib.hid rn8; have HK8 := Lib.hid hk8; have HW8 := Lib.hid hw8; clear rn8 hk8 hw8)
        go_roundw
        case rel =>
          have hz8 := HK8.out.size
          have z7 : (w6.alloc (.cells #[.int .i64 (m.nest + 1)] 3)).heap.size = w6.heap.size + 1 := by simp
          have s5 := H5.out.bel.size
          have s7 := H7.out.bel.size
          have f6 : W.heap.size ≤ bi' ∧ ¬ hasSW ⟨p, c4, s⟩ t g4 bi' ∧ bi' ≠ bn := by
            rcases HW6.out with e | e
            · rw [e]; exact ⟨hwi, HI.out, hne⟩
            · exact ⟨by omega, fun h => by have := H5.out.lt _ h; omega, by omega⟩
          obtain ⟨f61, f62, f63⟩ := f6
          have f8 : W.heap.size ≤ bn' ∧ ¬ hasSW ⟨p, c4, s⟩ t g4 bn' ∧ bi' ≠ bn' := by
            rcases HW8.out with e | e
            · rw [e]; exact ⟨hwn, HN.out, f63⟩
            · exact ⟨by omega, fun h => by have := H7.out.lt _ h; omega, by omega⟩
          obtain ⟨f81, f82, f83⟩ := f8
          have h8 : SD W w8 ⟨p, c4, s⟩ t g4 200 (nw + 1) (L.length + 1) (L ++ [⟨(r : Int), m.nest + 1, 0, 0⟩]) := H7.out.kept HK8.out (fun q hq e => HN.out (e ▸ hq)) (H7.out.bel.trans (HK8.out.below H7.out.bel.size (fun q e => e ▸ hwn)))
          have ri8 := RI7.out.kept HK8.out f63
          refine ⟨k + 1, c4, g4, bi', ci', bn', cn', L ++ [⟨(r : Int), m.nest + 1, 0, 0⟩], by omega, by simp, by simp, by go_num, by simp; omega, ⟨⟨?_, HW.out, HZ.out, ?_, f62, f61⟩, ?_, f82, f81, f83⟩⟩
          · rw [show (((L ++ [(⟨(r : Int), m.nest + 1, 0, 0⟩ : Sc)]).length : Nat) : Int) = (L.length : Int) + 1 by simp]; exact h8
          · simpa [ints] using ri8
          · simpa [ints] using RN8.out
        case measure => simp [intOf]; omega
      · have dd : decide (32 ≤ m.nest) = true := by simp; omega
        obtain ⟨steps, e1, e2, e3, e4⟩ := hG.gt.sd
        go_wp2_with fail
        refine (sw_open_deep e4 0 r m hm (by omega) (by omega)).mono ?_
        rintro e w4 ⟨rfl, hb4⟩
        have hG4 := hG.below hb4
        have cn4 : w4.cell? ⟨bn, r, none⟩ = some (.int .i64 m.nest) := hG4.rne.cell (int_row Sc.nest hm)
        clear hG e4
        go_wp2_with fail
        go_roundw
        case rel => exact ⟨k + 1, c', g, bi, ci, bn, cn, L, by omega, rfl, rfl, by go_num, by omega, hG4⟩
        case measure => simp [intOf]; omega
    · obtain rfl : k = n := by omega
      have HG := Lib.hid hG.gt
      clear hk hG
      go_wp2
      go_ret3
      exact ⟨c', t, g, bi, ci, L, rfl, HG.out, hL⟩
end Go.Proofs.Ytkdpckoneohjkaa
