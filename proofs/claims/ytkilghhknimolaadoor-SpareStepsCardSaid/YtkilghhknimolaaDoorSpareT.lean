/-
  WHAT IS PROVED HERE: the reference's step answers as the operation's own ('RelQ': an operation and the reference's, side by side). Conditions: as in the contracts.
-/
import Derived.Test.YtkilghhknimolaaDoorSpareS
namespace Go.Proofs.YtkilghhknimolaaDoor
open Go.RowKit

/-- An operation and the reference's. -/
structure RelQ (b m kd : Nat) (sf : Int) (q : OS) (se nx n on mv : Int) : Prop where
  mv : q.mv = mv
  at_ : (nx = 0 ∧ q.ph = 0) ∨ (OpI b m kd sf q ∧ ((nx = 1 ∧ (q.ph = 1 ∨ q.ph = 2 ∨ q.ph = 3) ∧ (kd = 2 → se = q.self)) ∨ (nx = 2 ∧ (q.ph = 4 ∨ q.ph = 5) ∧ n = q.wait ∧ (kd = 2 → se = q.self)) ∨ (nx = 3 ∧ q.ph = 6 ∧ on = q.on ∧ se = q.self)))
theorem RelQ.beg (b m kd : Nat) (hk : kd < 3) (sf : Int) : RelQ b m kd sf (begQ kd sf) sf 1 0 0 (-1) := by
  have hcase : kd = 0 ∨ kd = 1 ∨ kd = 2 := by omega
  rcases hcase with rfl | rfl | rfl
  · exact ⟨rfl, .inr ⟨OpI.beg b m 0 (by omega) sf, .inl ⟨rfl, .inl rfl, fun e => by cases e⟩⟩⟩
  · exact ⟨rfl, .inr ⟨OpI.beg b m 1 (by omega) sf, .inl ⟨rfl, .inr (.inl rfl), fun e => by cases e⟩⟩⟩
  · exact ⟨rfl, .inr ⟨OpI.beg b m 2 (by omega) sf, .inl ⟨rfl, .inr (.inr rfl), fun _ => rfl⟩⟩⟩
theorem mem_cnt {L : List Bool} (h : L.length = 16) : (membersOf (bitsNat L : Int)).length = L.count true := by
  have := cnt_bits h
  unfold cnt at this
  omega
theorem hasBit_nat16 {L : List Bool} (h : L.length = 16) {k : Nat} (hk : k < 16) : hasBit (bitsNat L : Int) (k : Int) = L.getD k false := by
  rw [hasBit_bits h, decide_eq_true (by omega), Int.toNat_natCast]; rfl
/-- What the reference's step leaves. -/
def RsP (r x : Nat) (b m kd : Nat) (sf wt' : Int) (L' : List Bool) (q' : OS) (w w' : World) : Prop :=
  ∃ self nx n on mv : Int, RSp w' r wt' (bitsNat L' : Nat) b m ∧ ROp w' x kd self nx n on mv ∧ RelQ b m kd sf q' self nx n on mv ∧ Kept (fun k => k = r ∨ k = x) w w'
set_option maxHeartbeats 1000000 in
theorem rs_ok {w : World} {r x b m kd : Nat} {sf wt self nx n on mv : Int} {L : List Bool} {q : OS} (hr : RSp w r wt (bitsNat L : Nat) b m) (hx : ROp w x kd self nx n on mv) (ne : r ≠ x) (hR : RelQ b m kd sf q self nx n on mv) (h0 : q.ph ≠ 0) (hm : b + m ≤ 16) (hL : InL b m L) (hw : -900 ≤ wt ∧ wt ≤ 900) (i : Int) (hi : 0 ≤ i ∧ i ≤ 3) :
    ∃ (wt' : Int) (L' : List Bool) (q' : OS), stepP b m ⟨wt, bitsNat L, q⟩ = ⟨wt', (bitsNat L' : Nat), q'⟩ ∧ wt' = wt + dwt q.ph ∧ InL b m L' ∧
    Calls Tryd.prog 37 #[.pointer (some ⟨x, 0, none⟩), .pointer (some ⟨r, 0, none⟩), .int .i64 i, .int .i64 3] w fun e w' => e = .returned (.tuple #[.bool true, .int .i64 0]) ∧ RsP r x b m kd sf wt' L' q' w w' := by
  obtain ⟨hmv, hat⟩ := hR
  obtain ⟨qself, qwait, qon, qmv, ph⟩ := q
  dsimp only at hmv h0 hat
  subst hmv
  rcases hat with ⟨_, h⟩ | ⟨hO, hat⟩
  · exact absurd h h0
  have hmv := hO.mv
  dsimp only at hmv
  subst hmv
  rcases hO.at_ with ⟨rfl, h1 | h1 | ⟨h1, Lq, k, hq, ho, hs, h2, h3, h4⟩⟩ | ⟨rfl, h1⟩ | ⟨rfl, hsf, h1 | h1 | ⟨h1, Lq, k, hq, ho, hs, h2, h3, h4⟩⟩
  · -- a Block's first step
    dsimp only at h1
    subst h1
    obtain ⟨rfl, -⟩ | ⟨-, h, -⟩ | ⟨-, h, -⟩ := hat
    · have e1 : wrap64 (wt + 1) = wt + 1 := wrap_small (by unfold Small; omega)
      refine ⟨wt + 1, L, ⟨qself, wt + 1, qon, -1, 4⟩, by simp only [stepP]; rw [e1], by simp [dwt], hL, ?_⟩
      refine (rstep_more hr hx ne i hi).mono ?_
      rintro e w' ⟨he, hr', hx', hk⟩
      rw [e1] at hr' hx'
      exact ⟨he, self, 2, wt + 1, on, -1, hr', hx', ⟨rfl, .inr ⟨⟨rfl, .inl ⟨rfl, .inr (.inl rfl)⟩⟩, .inr (.inl ⟨rfl, .inl rfl, rfl, fun e => by cases e⟩)⟩⟩, hk⟩
    · omega
    · omega
  · -- a Block looks
    dsimp only at h1
    subst h1
    obtain ⟨-, h, -⟩ | ⟨rfl, -, rfl, -⟩ | ⟨-, h, -⟩ := hat
    · omega
    · by_cases hc : L.count true < m ∧ (L.count true : Int) < n
      · obtain ⟨k, k1, k2, k3, k4, k5⟩ := hL.pick hm hc.1
        refine ⟨wt, L, ⟨k, n, bitsNat L, -1, 6⟩, ?_, by simp [dwt], hL, ?_⟩
        · simp only [stepP]
          rw [if_pos ⟨by rw [cnt_bits hL.len]; omega, by rw [cnt_bits hL.len]; exact hc.2⟩, k5]
        · refine (rstep_need_yes b k hr hx ne i hi _ (mem_cnt hL.len) (by omega) hc.2 k1 (by omega) (fun j j1 j2 => by rw [hasBit_nat16 hL.len (by omega)]; exact k3 j j1 j2) (by rw [hasBit_nat16 hL.len (by omega)]; exact k4)).mono ?_
          rintro e w' ⟨he, hr', hx', hk⟩
          exact ⟨he, k, 3, n, bitsNat L, -1, hr', hx', ⟨rfl, .inr ⟨⟨rfl, .inl ⟨rfl, .inr (.inr ⟨rfl, L, k, hL, rfl, rfl, k1, k2, k4⟩)⟩⟩, .inr (.inr ⟨rfl, rfl, rfl, rfl⟩)⟩⟩, hk⟩
      · refine ⟨wt, L, ⟨qself, n, bitsNat L, -1, 0⟩, ?_, by simp [dwt], hL, ?_⟩
        · simp only [stepP]
          rw [if_neg (by rw [cnt_bits hL.len]; omega)]
        · refine (rstep_need_no hr hx ne i hi _ (mem_cnt hL.len) (by omega)).mono ?_
          rintro e w' ⟨he, hr', hx', hk⟩
          exact ⟨he, self, 0, n, bitsNat L, -1, hr', hx', ⟨rfl, .inl ⟨rfl, rfl⟩⟩, hk⟩
    · omega
  · -- a Block turns
    dsimp only at h1 ho hs
    subst h1 ho hs
    obtain ⟨-, h, -⟩ | ⟨-, h, -⟩ | ⟨rfl, -, rfl, rfl⟩ := hat
    · omega
    · omega
    · by_cases hc : (bitsNat L : Int) = bitsNat Lq
      · have e := bitsNat_inj hL.len hq.len hc
        subst e
        refine ⟨wt, L.set k true, ⟨k, qwait, bitsNat L, k, 0⟩, ?_, by simp [dwt], hL.set h2 h3 true, ?_⟩
        · simp only [stepP]
          rw [if_pos trivial, Int.toNat_natCast, flip_bits hL.len (by omega) true (by simpa using h4)]
        · have hon := bitsNat_on L k (by rw [getD_getElem? (by rw [hL.len]; omega), h4])
          have hlt := bitsNat_lt16 (L := L.set k true) (by rw [List.length_set, hL.len])
          refine (rstep_on k (by omega) hr hx ne i hi (bitsNat (L.set k true) : Nat) ?_).mono ?_
          · have e2 : ((2 : Int) ^ k) = ((2 ^ k : Nat) : Int) := by simp
            rw [e2, hon]; unfold wrap64; omega
          · rintro e w' ⟨he, hr', hx', hk⟩
            exact ⟨he, k, 0, n, bitsNat L, k, hr', hx', ⟨rfl, .inl ⟨rfl, rfl⟩⟩, hk⟩
      · refine ⟨wt, L, ⟨k, qwait, bitsNat Lq, -1, 0⟩, ?_, by simp [dwt], hL, ?_⟩
        · simp only [stepP]
          rw [if_neg hc]
        · refine (rstep_miss hr hx ne i hi (by rfl) (by simpa using hc)).mono ?_
          rintro e w' ⟨he, hr', hx', hk⟩
          exact ⟨he, k, 0, n, bitsNat Lq, -1, hr', hx', ⟨rfl, .inl ⟨rfl, rfl⟩⟩, hk⟩
  · -- a Resume
    dsimp only at h1
    subst h1
    obtain ⟨rfl, -⟩ | ⟨-, h, -⟩ | ⟨-, h, -⟩ := hat
    · have e1 : wrap64 (wt + -1) = wt + -1 := wrap_small (by unfold Small; omega)
      refine ⟨wt + -1, L, ⟨qself, qwait, qon, -1, 0⟩, by simp only [stepP]; rw [e1], by simp [dwt], hL, ?_⟩
      refine (rstep_less hr hx ne i hi).mono ?_
      rintro e w' ⟨he, hr', hx', hk⟩
      rw [show wt - 1 = wt + -1 by omega, e1] at hr'
      exact ⟨he, self, 0, n, on, -1, hr', hx', ⟨rfl, .inl ⟨rfl, rfl⟩⟩, hk⟩
    · omega
    · omega
  · -- a Retire's first step
    dsimp only at h1 hsf
    subst h1 hsf
    obtain ⟨rfl, -, hself⟩ | ⟨-, h, -⟩ | ⟨-, h, -⟩ := hat
    · have hself := hself rfl
      try dsimp only at hself
      subst hself
      refine ⟨wt, L, ⟨self, wt, qon, -1, 5⟩, by simp only [stepP], by simp [dwt], hL, ?_⟩
      refine (rstep_look hr hx ne i hi).mono ?_
      rintro e w' ⟨he, hr', hx', hk⟩
      exact ⟨he, self, 2, wt, on, -1, hr', hx', ⟨rfl, .inr ⟨⟨rfl, .inr (.inr ⟨rfl, rfl, .inr (.inl rfl)⟩)⟩, .inr (.inl ⟨rfl, .inr rfl, rfl, fun _ => rfl⟩)⟩⟩, hk⟩
    · omega
    · omega
  · -- a Retire looks
    dsimp only at h1 hsf
    subst h1 hsf
    obtain ⟨-, h, -⟩ | ⟨rfl, -, rfl, hself⟩ | ⟨-, h, -⟩ := hat
    · omega
    · have hself := hself rfl
      try dsimp only at hself
      subst hself
      obtain ⟨v, hv⟩ : ∃ v, hasBit (bitsNat L : Int) self = v := ⟨_, rfl⟩
      obtain ⟨u, hu⟩ : ∃ u, decide (n < ((L.count true : Nat) : Int)) = u := ⟨_, rfl⟩
      have hst := (rstep_many hr hx ne i hi _ (mem_cnt hL.len) v hv u hu)
      have hcond : (hasBit (bitsNat L : Int) self && decide (n < cnt (bitsNat L : Int))) = (v && u) := by rw [hv, cnt_bits hL.len, hu]
      by_cases hc : (v && u) = true
      · rw [if_pos hc] at hst
        have hb := hc
        rw [Bool.and_eq_true] at hb
        have hb1 := hb.1
        rw [← hv, hasBit_bits hL.len, Bool.and_eq_true, decide_eq_true_eq] at hb1
        obtain ⟨k, rfl⟩ := Int.eq_ofNat_of_zero_le hb1.1.1
        rw [Int.toNat_natCast] at hb1
        have hkk := hL.here k hb1.2
        refine ⟨wt, L, ⟨k, n, bitsNat L, -1, 6⟩, ?_, by simp [dwt], hL, ?_⟩
        · simp only [stepP]
          rw [hcond, if_pos hc]
        · refine hst.mono ?_
          rintro e w' ⟨he, hr', hx', hk⟩
          exact ⟨he, k, 3, n, bitsNat L, -1, hr', hx', ⟨rfl, .inr ⟨⟨rfl, .inr (.inr ⟨rfl, rfl, .inr (.inr ⟨rfl, L, k, hL, rfl, rfl, hkk.1, hkk.2, hb1.2⟩)⟩)⟩, .inr (.inr ⟨rfl, rfl, rfl, rfl⟩)⟩⟩, hk⟩
      · rw [if_neg hc] at hst
        refine ⟨wt, L, ⟨self, n, bitsNat L, -1, 0⟩, ?_, by simp [dwt], hL, ?_⟩
        · simp only [stepP]
          rw [hcond, if_neg hc]
        · refine hst.mono ?_
          rintro e w' ⟨he, hr', hx', hk⟩
          exact ⟨he, self, 0, n, bitsNat L, -1, hr', hx', ⟨rfl, .inl ⟨rfl, rfl⟩⟩, hk⟩
    · omega
  · -- a Retire turns
    dsimp only at h1 ho hs hsf
    subst h1 ho hs
    obtain ⟨-, h, -⟩ | ⟨-, h, -⟩ | ⟨rfl, -, rfl, rfl⟩ := hat
    · omega
    · omega
    · by_cases hc : (bitsNat L : Int) = bitsNat Lq
      · have e := bitsNat_inj hL.len hq.len hc
        subst e
        refine ⟨wt, L.set k false, ⟨k, qwait, bitsNat L, k, 0⟩, ?_, by simp [dwt], hL.set h2 h3 false, ?_⟩
        · simp only [stepP]
          rw [if_pos trivial, Int.toNat_natCast, flip_bits hL.len (by omega) false (by simpa using h4)]
        · have hon := bitsNat_off L k (by rw [getD_getElem? (by rw [hL.len]; omega), h4])
          have hlt := bitsNat_lt16 hL.len
          refine (rstep_off k (by omega) hr hx ne i hi (bitsNat (L.set k false) : Nat) ?_).mono ?_
          · have e2 : ((2 : Int) ^ k) = ((2 ^ k : Nat) : Int) := by simp
            rw [e2]
            clear e2
            generalize 2 ^ k = P at *
            unfold wrap64
            omega
          · rintro e w' ⟨he, hr', hx', hk⟩
            exact ⟨he, k, 0, n, bitsNat L, k, hr', hx', ⟨rfl, .inl ⟨rfl, rfl⟩⟩, hk⟩
      · refine ⟨wt, L, ⟨k, qwait, bitsNat Lq, -1, 0⟩, ?_, by simp [dwt], hL, ?_⟩
        · simp only [stepP]
          rw [if_neg hc]
        · refine (rstep_miss hr hx ne i hi (by rfl) (by simpa using hc)).mono ?_
          rintro e w' ⟨he, hr', hx', hk⟩
          exact ⟨he, k, 0, n, bitsNat Lq, -1, hr', hx', ⟨rfl, .inl ⟨rfl, rfl⟩⟩, hk⟩
end Go.Proofs.YtkilghhknimolaaDoor
