/-
  WHAT IS PROVED HERE: the contract of a future's Peek, and of 'awake' of pelotonlaw15. Conditions: the pointer is a machine's.
-/
import Derived.Test.YtkdpckoneohjkaaFutB
namespace Go.Proofs.Ytkdpckoneohjkaa
open Go.RowKit

set_option maxRecDepth 20000 in
set_option maxHeartbeats 1000000 in
theorem fut_peek (mb : MB) (st : MS) (a x0 x1 x2 y1 : Int) (w : World) (hm : MachP w mb st) (hv : ∀ j : Nat, j < 3 → st.cellOf (wrap64 (a + j)) = [x0, x1, x2].getD j 0) (hy : y1 = if x0 < 2 then 0 else x1) :
    Calls Try.prog 20 #[.agg #[.int .i64 a], .pointer (some ⟨mb.p, 0, none⟩)] w fun e w' =>
      e = .returned (.tuple #[.int .i64 x0, .int .i64 y1, .int .i64 x2]) ∧ Below w.heap.size w w' := by
  have hb0 : Below (w.heap.size + 1) (w.alloc (.cells #[.int .i64 a] 30)) ((w.alloc (.cells #[.int .i64 a] 30)).alloc (.cells (ints [0, 0, 0]).toArray 88)) := (Below.refl _ _).alloc (by simp) _
  have q0 : Blk ((w.alloc (.cells #[.int .i64 a] 30)).alloc (.cells (ints [0, 0, 0]).toArray 88)) (w.heap.size + 1) 88 (ints [0, 0, 0]) := by
    have := Blk.new (w.alloc (.cells #[.int .i64 a] 30)) 88 (ints [0, 0, 0])
    rwa [World.size_alloc] at this
  have hx : Blk (w.alloc (.cells #[.int .i64 a] 30)) w.heap.size 30 [.int .i64 a] := Blk.new w _ _
  have hbw : Below w.heap.size w (w.alloc (.cells #[.int .i64 a] 30)) := (Below.refl _ w).alloc (Nat.le_refl _) _
  have hm1 := hm.alloc (.cells #[.int .i64 a] 30)
  have hl := hm.lt
  have HL := Lib.hid hl
  have HV := Lib.hid hv
  have HY := Lib.hid hy
  clear hv hl hy
  go_enter Try.func20, Try.ntmps20
  go_wp2_with fail
  go_loopw [11] (fun i wr => ∃ (j : Nat) (l : List Int), j ≤ 3 ∧ i = .int .i64 j ∧ l.length = 3 ∧ Hid (∀ q : Nat, q < j → l.getD q 0 = [x0, x1, x2].getD q 0) ∧ Blk wr (w.heap.size + 1) 88 (ints l) ∧ Below (w.heap.size + 1) (w.alloc (.cells #[.int .i64 a] 30)) wr) (fun i _ => 3 - (intOf i).toNat)
  case atStart => exact ⟨0, [0, 0, 0], by omega, rfl, rfl, Lib.hid (by omega), q0, hb0⟩
  case round =>
    clear q0 hb0
    obtain ⟨j, l, hj, rfl, hll, HLQ, q1, bw⟩ := hrel
    have bx := (hx.below bw (by omega)).cell
    have hm2 : MachP wr mb st := hm1.kept (Kept.of_below (S := fun k => w.heap.size + 1 ≤ k) (by exact bw.mono (by simp))) (fun k h1 h2 => by have := HL.out k h1; omega)
    by_cases hj3 : j < 3
    · have cw : wr.cell? ⟨w.heap.size + 1, j, none⟩ = some (.int .i64 (l.getD j 0)) := by rw [q1.cell, get_ints]; simp [List.getD, hll, hj3]
      have fw := q1.frozen j
      obtain ⟨u, hu⟩ : ∃ u, [x0, x1, x2].getD j 0 = u := ⟨_, rfl⟩
      have HU := Lib.hid hu
      clear hu
      go_wp2_with fail
      refine (peek_any mb st (wrap64 (a + j)) _ hm2).mono ?_
      rw [HV.out j hj3, HU.out]
      rintro e w3 ⟨rfl, rfl⟩
      go_wp2
      go_roundw
      case rel =>
        refine ⟨j + 1, l.set j u, by omega, by go_num, by simp [hll], Lib.hid ?_, ?_, bw.setCell (p := ⟨w.heap.size + 1, j, none⟩) (Nat.le_refl _) _⟩
        · intro q hq
          by_cases e : q = j
          · subst e; rw [HU.out]; simp [List.getD, hll, hj3]
          · have := HLQ.out q (by omega)
            simp only [List.getD] at this ⊢
            rw [List.getElem?_set_ne (Ne.symm e)]
            exact this
        · have := q1.set j (.int .i64 u)
          rwa [set_ints] at this
      case measure => simp [intOf]; omega
    · obtain rfl : j = 3 := by omega
      have hl3 : l = [x0, x1, x2] := by
        have h0 := HLQ.out 0 (by omega)
        have h1 := HLQ.out 1 (by omega)
        have h2 := HLQ.out 2 (by omega)
        match l, hll with
        | [p, q, r], _ => simp at h0 h1 h2; rw [h0, h1, h2]
      subst hl3
      rw [show ((3 : Nat) : Int) = 3 from rfl]
      have cw : ∀ i, wr.cell? ⟨w.heap.size + 1, i, none⟩ = [Value.int .i64 x0, .int .i64 x1, .int .i64 x2][i]? := q1.cell
      have fw := q1.frozen
      have bel : Below w.heap.size w wr := hbw.trans (bw.mono (by simp))
      clear hj hj3 HLQ hm2 hm1 hm hx bx q1 bw hll
      by_cases h2 : x0 < 2
      · have h2' : decide (x0 < 2) = true := by simp; omega
        have hy : y1 = 0 := by rw [HY.out, if_pos h2]
        subst hy
        clear HY
        go_wp2_with fail
        go_quiet (fail)
        go_wp2
        go_ret3
        exact ⟨rfl, below_drewN' (bel.setCell (p := ⟨w.heap.size + 1, 1, none⟩) (by show w.heap.size ≤ w.heap.size + 1; omega) _) _⟩
      · have h2' : decide (x0 < 2) = false := by simp; omega
        have hy : y1 = x1 := by rw [HY.out, if_neg h2]
        subst hy
        clear HY
        go_wp2_with fail
        go_quiet (fail)
        go_wp2
        go_ret3
        exact ⟨rfl, below_drewN' bel _⟩
section
variable {W0 w : World} {mb : MB} {nw : Nat} {k v b : Int}
theorem f_peek (h : FW W0 w mb nw k v b) (y : Int) (hy : y = if k < 2 then 0 else v) :
    Calls Try.prog 20 #[.agg #[.int .i64 0], .pointer (some ⟨mb.p, 0, none⟩)] w fun e w' =>
      e = .returned (.tuple #[.int .i64 k, .int .i64 y, .int .i64 b]) ∧ FW W0 w' mb nw k v b ∧ Below w.heap.size w w' := by
  obtain ⟨st, hm, hs⟩ := h.st
  refine (fut_peek mb st 0 k v b y w hm (fun j hj => ?_) hy).mono ?_
  · obtain ⟨_, _, h0, h1, h2⟩ := hs
    have : j = 0 ∨ j = 1 ∨ j = 2 := by omega
    rcases this with rfl | rfl | rfl
    · rw [show wrap64 (0 + ((0 : Nat) : Int)) = 0 by unfold wrap64; omega]; exact h0
    · rw [show wrap64 (0 + ((1 : Nat) : Int)) = 1 by unfold wrap64; omega]; exact h1
    · rw [show wrap64 (0 + ((2 : Nat) : Int)) = 2 by unfold wrap64; omega]; exact h2
  · rintro e w' ⟨rfl, hb⟩
    exact ⟨rfl, h.below hb, hb⟩
end

/-- What is carried: the machine with the future, its variable. -/
theorem f_start {W0 w1 : World} {p s : Nat} {size : Int} {nw : Nat} (hm1 : MachP w1 ⟨p, p, s⟩ (MS.fresh size nw)) (hb1 : Below W0.heap.size W0 w1) (hp : W0.heap.size ≤ p) (hs : W0.heap.size ≤ s) (h3 : 3 ≤ size) (h4 : size ≤ 1048576) (i : Int) (i0 : 0 ≤ i) (i1 : i ≤ nw) :
    Calls Try.prog 13 #[.pointer (some ⟨p, 0, none⟩), .int .i64 i] w1 fun e w2 => ∃ c, e = .returned (.tuple #[.agg #[.int .i64 0], .int .i64 0]) ∧ FW W0 w2 ⟨p, c, s⟩ (nw + 1) 0 0 0 := by
  refine (fut_new ⟨p, p, s⟩ (MS.fresh size nw) i w1 hm1 (by simp [MS.isCaller, MS.fresh]; omega) (by show (0 : Int) + 3 ≤ size; omega) h4).mono ?_
  rintro e w2 ⟨rfl, hk, c, hc, hm2⟩
  refine ⟨c, rfl, ⟨_, hm2, by simp [MS.fresh, MS.did, MS.more], by simp [MS.fresh, MS.did, MS.more], ?_, ?_, ?_⟩, hb1.trans (hk.under (B := W0.heap.size) ⟨hp, hp, hs⟩ hb1.size), ⟨hp, Nat.le_trans hb1.size hc, hs⟩⟩ <;> simp [MS.cellOf, MS.fresh, MS.did, MS.more]

set_option maxRecDepth 100000 in
set_option maxHeartbeats 2000000 in
theorem awake15_any (W : World) :
    Calls Try.prog 14 #[] W fun e w' => e = .returned (.bool true) ∧ Below W.heap.size W w' := by
  go_enter Try.func14, Try.ntmps14
  go_wp2_with fail
  refine (new_ok 4 2 _ (by omega) (by omega) (by omega) (by omega)).mono ?_
  rintro e w1 ⟨p, s, rfl, hm1, hk1, hp, hs⟩
  have hb1 : Below W.heap.size W w1 := hk1.below (Nat.le_refl _) (fun _ h => h.elim)
  clear hk1
  go_wp2_with fail
  refine (f_start (W0 := W) hm1 hb1 hp hs (by omega) (by omega) 0 (by omega) (by omega)).mono ?_
  rintro e w2 ⟨c, rfl, hF⟩
  have hV : Blk (w2.alloc (.cells #[.int .i64 0] 30)) w2.heap.size 30 [.int .i64 0] := Blk.new w2 _ _
  have hn := hF.nhas (Nat.le_refl _)
  have hF3 := hF.below ((Below.refl _ w2).alloc (Nat.le_refl _) (.cells #[.int .i64 0] 30))
  have cv := hV.cell
  clear hm1 hb1 hp hs hF
  go_wp2_with fail
  refine (f_end_miss hF3 0 2 (by omega) (by omega) (by omega) (by omega) (by omega)).mono ?_
  rintro e w4 ⟨rfl, hF4, hk⟩
  have hV4 := hV.kept hk hn
  have cv4 := hV4.cell
  clear hF3 hV cv hk
  go_wp2_with fail
  refine (f_claim_hit hF4 0 (by omega) (by omega)).mono ?_
  rintro e w5 ⟨rfl, hF5, hk⟩
  have hV5 := hV4.kept hk hn
  have cv5 := hV5.cell
  clear hF4 hV4 cv4 hk
  go_wp2_with fail
  refine (f_claim_miss hF5 1 (by omega) (by omega) (by omega)).mono ?_
  rintro e w6 ⟨rfl, hF6, hk⟩
  have hV6 := hV5.kept hk hn
  have cv6 := hV6.cell
  clear hF5 hV5 cv5 hk
  go_wp2_with fail
  refine (f_put hF6 0 7 (by omega) (by omega)).mono ?_
  rintro e w7 ⟨rfl, hF7, hk⟩
  have hV7 := hV6.kept hk hn
  have cv7 := hV7.cell
  clear hF6 hV6 cv6 hk
  go_wp2_with fail
  refine (f_wait hF7 1 2 (by omega) (by omega) (by omega) (by rw [show (0 : Int) + 2 ^ (1 : Int).toNat = 2 from rfl]; unfold wrap64; omega)).mono ?_
  rintro e w8 ⟨rfl, hF8, hk⟩
  have hV8 := hV7.kept hk hn
  have cv8 := hV8.cell
  clear hF7 hV7 cv7 hk
  go_wp2_with fail
  refine (f_peek hF8 0 rfl).mono ?_
  rintro e w9 ⟨rfl, hF9, hk⟩
  have hV9 := hV8.below hk hV8.lt
  have cv9 := hV9.cell
  clear hF8 hV8 cv8 hk
  go_wp2_with fail
  refine (f_end_hit hF9 0 2 (by omega) (by omega) (by omega) (by omega)).mono ?_
  rintro e w10 ⟨rfl, hF10, hk⟩
  have hV10 := hV9.kept hk hn
  have cv10 := hV10.cell
  clear hF9 hV9 cv9 hk
  go_wp2_with fail
  refine (f_end_miss hF10 0 4 (by omega) (by omega) (by omega) (by omega) (by omega)).mono ?_
  rintro e w11 ⟨rfl, hF11, hk⟩
  have hV11 := hV10.kept hk hn
  have cv11 := hV11.cell
  clear hF10 hV10 cv10 hk
  go_wp2_with fail
  refine (f_peek hF11 7 rfl).mono ?_
  rintro e w12 ⟨rfl, hF12, hk⟩
  have bel := hF12.bel
  clear hF11 hV11 cv11 hk
  go_wp2
  go_ret
  exact ⟨rfl, bel⟩
end Go.Proofs.Ytkdpckoneohjkaa
