/-
  WHAT IS PROVED HERE: the reference machine's Alloc and New, and the law's own function 'plain': it does one call of a reference's machine. Conditions: as in the contracts.
-/
import Derived.Test.YtelphbfdibfmoaaRefA
import Derived.OwnWalk
import Derived.Laws.OwnMore
import Derived.WalkSmall
import Derived.RegionTactic
import Derived.BigRegion
namespace Go.Proofs.Ytelphbfdibfmoaa
open Go.RowKit

theorem ownsRow_setOther {w : World} {base : Nat} {e : TypeId} {size : Nat} {v : Value} {n : Nat} {xs : List Value} (h : w.ownsRow base e size v n xs) {p : Addr} (hp : p.block < base) (u : Value) : (w.setCell p u).ownsRow base e size v n xs := by
  refine ⟨h.1, ?_⟩
  rcases h.2 with hn | ⟨g, cap, cur, hv, hb, hgg, rest⟩
  · exact .inl hn
  · exact .inr ⟨g, cap, cur, hv, hb, (Below.heap_setCell w p u g (by omega)).trans hgg, rest⟩
theorem Blk.grown {w w' : World} {g : Nat} {t : TypeId} {cs : List Value} {row : Option Nat} (h : Blk w g t cs) (hg : w.grownBy w' row) (hr : some g ≠ row) : Blk w' g t cs := (hg.block g h.lt hr).trans h

/-- The cells as an append reads them. -/
theorem MachR.row {w : World} {mb : MB} {st : MS} (hm : MachR w mb st) (ho : mb.ord) :
    ∃ v, Blk w mb.p 59 [v, .int .i64 st.size, .slice (some ⟨mb.s, 0, none⟩) st.steps.length st.steps.length] ∧ w.ownsRow (mb.p + 1) 2 1 v st.cells.length (ints st.cells) ∧
      ((v = .slice none 0 0 ∧ st.cells = [] ∧ mb.c = mb.p) ∨ (v.ownBlock = some mb.c)) := by
  rcases hm.cells with ⟨n, h0, hp, rfl, hc⟩ | ⟨cap, rest, n, cp, cs, hp, hc, h1, h2, rfl⟩
  · refine ⟨_, hp, ?_, .inl ⟨rfl, h0, hc⟩⟩
    rw [h0]
    exact World.ownsRow_nil _ _ _ _
  · refine ⟨_, hp, ⟨by simp [ints], .inr ⟨mb.c, cap, (ints st.cells ++ rest).toArray, rfl, ?_, hc, by omega, h2, by simp [ints]; omega, ?_⟩⟩, .inr rfl⟩
    · rcases ho.2 with e | e
      · exact absurd e.symm cp
      · omega
    · simp [ints]
theorem MachR.ofRow {w : World} {p s : Nat} {st : MS} {v : Value} (hs : s < p) (steps : Blk w s 3 (ints st.steps)) (hp : Blk w p 59 [v, .int .i64 st.size, .slice (some ⟨s, 0, none⟩) st.steps.length st.steps.length])
    (hr : w.ownsRow (p + 1) 2 1 v st.cells.length (ints st.cells)) : ∃ c, MachR w ⟨p, c, s⟩ st ∧ (⟨p, c, s⟩ : MB).ord ∧ (v.ownBlock = none ∧ c = p ∨ v.ownBlock = some c) := by
  rcases hr.2 with ⟨rfl, hn⟩ | ⟨g, cap, cur, rfl, hb, hg, hnc, hcm, hcs, htake⟩
  · refine ⟨p, ⟨by show p ≠ s; omega, steps, .inl ⟨_, List.eq_nil_of_length_eq_zero hn, hp, rfl, rfl⟩⟩, ⟨hs, .inl rfl⟩, .inl ⟨rfl, rfl⟩⟩
  · refine ⟨g, ⟨by show p ≠ s; omega, steps, .inr ⟨cap, cur.toList.drop st.cells.length, _, by show p ≠ g; omega, by show s ≠ g; omega, hp, ?_, ?_, hcm, rfl⟩⟩, ⟨hs, .inr (by show p < g; omega)⟩, .inr rfl⟩
    · unfold Blk
      rw [← htake, Nat.mul_one, List.take_append_drop]
      simpa using hg
    · simp; omega

theorem kept_mb {c c' : Nat} {p s : Nat} {w w1 w2 : World} (h1 : Kept (⟨p, c, s⟩ : MB).has w w1) (h2 : Kept (⟨p, c', s⟩ : MB).has w1 w2) (hc : c' = c ∨ w.heap.size ≤ c') : Kept (⟨p, c, s⟩ : MB).has w w2 := by
  refine h1.trans h2 (fun k hk h => ?_)
  rcases h with e | e | e
  · exact .inl e
  · rcases hc with hc | hc
    · exact .inr (.inl (e.trans hc))
    · have e' : k = c' := e; omega
  · exact .inr (.inr e)

set_option maxRecDepth 20000 in
set_option maxHeartbeats 1000000 in
theorem ralloc_ok (mb : MB) (st : MS) (i : Int) (n : Nat) (w : World) (hm : MachR w mb st) (ho : mb.ord) (g1 : st.isCaller i = true) (g2 : 1 ≤ n) (g3 : (st.cells.length : Int) + n ≤ st.size) (g4 : st.size ≤ 1048576) :
    Calls Try.prog 56 #[.pointer (some ⟨mb.p, 0, none⟩), .int .i64 i, .int .i64 n] w fun e w' =>
      e = .returned (.tuple #[.int .i64 st.cells.length, .int .i64 0]) ∧ ∃ c, MachR w' ⟨mb.p, c, mb.s⟩ ((st.did i).more n) ∧ (⟨mb.p, c, mb.s⟩ : MB).ord ∧ Kept mb.has w w' ∧ (c = mb.c ∨ w.heap.size ≤ c) := by
  obtain ⟨i0, hi, hz0, hz1, hz2⟩ := info_parts info_x
  obtain ⟨A, cap, h0, h1, h2, hA, hl, hcap, hn⟩ := hm.fields
  have hl1 : (st.cells.length : Int) ≤ 1048576 := by omega
  have dn : decide ((n : Int) < 1) = false := by simp; omega
  have dm : decide (st.size - (st.cells.length : Int) < (n : Int)) = false := by simp; omega
  clear hA hn hcap
  obtain ⟨p, c0, s⟩ := mb
  go_enter Try.func56, Try.ntmps56
  go_wp2_with fail
  refine (rcaller_any ⟨p, c0, s⟩ st i _ hm).mono ?_
  rw [g1]
  rintro e w' ⟨rfl, rfl⟩
  go_wp2_with fail
  go_quiet (fail)
  have hmq := hm.drewN nq
  have hkq : Kept (⟨p, c0, s⟩ : MB).has w (w.drewN nq) := (Kept.refl _ w).drewN nq
  go_wp2_with fail
  go_loopw [9] (fun j wr => ∃ (k c : Nat), k ≤ n ∧ j = .int .i64 k ∧ MachR wr ⟨p, c, s⟩ (st.more k) ∧ (⟨p, c, s⟩ : MB).ord ∧ Kept (⟨p, c0, s⟩ : MB).has w wr ∧ (c = c0 ∨ w.heap.size ≤ c)) (fun j _ => n - (intOf j).toNat)
  case atStart => exact ⟨0, c0, Nat.zero_le _, rfl, by rw [show st.more 0 = st by simp [MS.more]]; exact hmq, ho, hkq, .inl rfl⟩
  case round =>
    clear h0 h1 h2 hmq hkq
    obtain ⟨k, c, hk, rfl, hmr, hor, hkr, hcr⟩ := hrel
    by_cases hlt : k < n
    · obtain ⟨v, hb, hown, hv⟩ := MachR.row hmr hor
      have cb := hb.cell 0
      have fb := hb.frozen 0
      have hps : p < wr.heap.size := hb.lt
      simp only [List.getElem?_cons_zero] at cb
      have hle : (st.more k).cells.length = st.cells.length + k := by simp [MS.more]
      have HV := Lib.hid hv
      have HOW := Lib.hid hown
      have HB := Lib.hid hb
      have HLE := Lib.hid hle
      clear hv hown hb hle
      have hne : some p ≠ v.ownBlock := fun e => by have h1 : p + 1 ≤ p := (HOW.out.lt p e.symm).1; omega
      have hne' : some s ≠ v.ownBlock := fun e => by have h1 : p + 1 ≤ s := (HOW.out.lt s e.symm).1; have h2 : s < p := hor.1; omega
      have HNE := Lib.hid hne
      have HNE' := Lib.hid hne'
      clear hne hne'
      go_wp2_with (at_builtin; go_loud (refine wpList_append_more _ rfl (.tmp 44) (.tmp 45) 22 rfl (p + 1) 2 i0 (.int .i64 0) 1 8 Try.underlying22 hi hz0 hz1 hz2 rfl (by decide) v (st.more k).cells.length (ints (st.more k).cells) rfl (HOW.out.alloc _) ⟨wr.heap.size, 0, none⟩ 1 1 [.int .i64 0] rfl rfl (cell_one_new _ _ _) (fun x hx => by simp at hx; subst hx; rfl) (by omega) (by rw [HLE.out]; unfold maxLen; omega) (by rw [HLE.out]; omega) (by simp; omega) ?_); intro g' cap' w3 hown' hgrow hwhere; have b3 := (HB.out.alloc (.cells #[.int .i64 0] 2)).grown hgrow HNE.out; have c3 := b3.cell 0; have f3 := b3.frozen 0; simp only [List.getElem?_cons_zero] at c3; have B3 := Lib.hid b3; have OW3 := Lib.hid hown'; have GR3 := Lib.hid hgrow; have WH3 := Lib.hid hwhere; clear b3 hown' hgrow hwhere)
      have s4 := ((hmr.steps.alloc (.cells #[.int .i64 0] 2)).grown GR3.out HNE'.out).setOther (p := ⟨p, 0, none⟩) (by show s ≠ p; have h2 : s < p := hor.1; omega) (.slice (some ⟨g', 0, none⟩) ((st.more k).cells.length + 1) cap')
      have b4 := B3.out.set 0 (.slice (some ⟨g', 0, none⟩) ((st.more k).cells.length + 1) cap')
      have o4 := ownsRow_setOther OW3.out (p := ⟨p, 0, none⟩) (by show p < p + 1; omega) (.slice (some ⟨g', 0, none⟩) ((st.more k).cells.length + 1) cap')
      have hst : st.more (k + 1) = (st.more k).more 1 := by simp [MS.more, List.replicate_succ', List.append_assoc]
      have hin : ints (st.more (k + 1)).cells = ints (st.more k).cells ++ [.int .i64 0] := by rw [hst]; simp [MS.more, ints]
      have hln : (st.more k).cells.length + 1 = (st.more (k + 1)).cells.length := by simp [MS.more]; omega
      rw [← hin] at o4
      obtain ⟨X, hX⟩ : ∃ X, X = w3.setCell ⟨p, 0, none⟩ (.slice (some ⟨g', 0, none⟩) ((st.more k).cells.length + 1) cap') := ⟨_, rfl⟩
      rw [show w3.setCell ⟨(⟨p, c, s⟩ : MB).p, 0, none⟩ (.slice (some ⟨g', 0, none⟩) ((st.more k).cells.length + 1) cap') = X from hX.symm] at b4
      rw [← hX] at o4 s4
      rw [hln] at o4
      obtain ⟨c', hm5, ho5, hc5⟩ := MachR.ofRow (st := st.more (k + 1)) hor.1 s4 (by rw [← hln]; exact b4) o4
      have hc' : c' = g' := by
        rcases hc5 with ⟨e, _⟩ | e
        · simp [Value.ownBlock] at e
        · have e' : g' = c' := by simpa [Value.ownBlock] using e
          exact e'.symm
      have hk5 : Kept (⟨p, c0, s⟩ : MB).has w (w3.setCell ⟨p, 0, none⟩ (.slice (some ⟨g', 0, none⟩) ((st.more k).cells.length + 1) cap')) := by
        refine ((hkr.alloc (.cells #[.int .i64 0] 2)).grown GR3.out (fun q hq => ?_)).setCell (p := ⟨p, 0, none⟩) (.inl (.inl rfl)) _
        rcases HV.out with ⟨e, _⟩ | e
        · rw [e] at hq; simp [Value.ownBlock] at hq
        · rw [e] at hq
          have hqc : c = q := by simpa using hq
          rcases hcr with hcr | hcr
          · left; exact .inr (.inl (hqc.symm.trans hcr))
          · right; omega
      have hcc : c' = c0 ∨ w.heap.size ≤ c' := by
        rw [hc']
        rcases WH3.out with e | e
        · rcases HV.out with ⟨e2, _⟩ | e2
          · rw [e2] at e; simp [Value.ownBlock] at e
          · rw [e2] at e
            have : g' = c := by simpa using e
            rw [this]; exact hcr
        · right; rw [e]; have := hkr.size; simp; omega
      rw [hX] at hm5
      have HM5 := Lib.hid hm5
      have HK5 := Lib.hid hk5
      clear s4 b4 o4 hst hin hln hX hm5 hc5 hk5 c3 f3 cb fb hmr hkr
      go_roundw
      case rel => exact ⟨k + 1, c', by omega, by go_num, HM5.out, ho5, HK5.out, hcc⟩
      case measure => simp [intOf]; omega
    · obtain rfl : k = n := by omega
      have hs5 := MachR.did' hmr i (by have := (MS.isCaller_lt g1); show i.toNat < st.steps.length; omega)
      obtain ⟨A', cap', h0', h1', h2', _, _, _, _⟩ := hmr.fields
      obtain ⟨a1, a2⟩ := MS.isCaller_lt g1
      have hs := hmr.stepAt i.toNat (by show i.toNat < st.steps.length; omega)
      have fs := hmr.frozenS i.toNat
      have hke := hkr.setCell (p := ⟨s, i.toNat, none⟩) (.inl (.inr (.inr rfl))) (.int .i64 (wrap64 ((st.more k).steps[i.toNat]'(by show i.toNat < st.steps.length; omega) + 1)))
      have HS5 := Lib.hid hs5
      have HKE := Lib.hid hke
      clear hs5 hke hmr hkr h0' h1'
      go_wp2_with fail
      go_ret2
      exact ⟨rfl, c, HS5.out, hor, HKE.out, hcr⟩
theorem ralloc_okI (mb : MB) (st : MS) (i n : Int) (w : World) (hm : MachR w mb st) (ho : mb.ord) (g1 : st.isCaller i = true) (g2 : 1 ≤ n) (g3 : (st.cells.length : Int) + n ≤ st.size) (g4 : st.size ≤ 1048576) :
    Calls Try.prog 56 #[.pointer (some ⟨mb.p, 0, none⟩), .int .i64 i, .int .i64 n] w fun e w' =>
      e = .returned (.tuple #[.int .i64 st.cells.length, .int .i64 0]) ∧ ∃ c, MachR w' ⟨mb.p, c, mb.s⟩ ((st.did i).more n.toNat) ∧ (⟨mb.p, c, mb.s⟩ : MB).ord ∧ Kept mb.has w w' ∧ (c = mb.c ∨ w.heap.size ≤ c) := by
  obtain ⟨k, rfl⟩ := Int.eq_ofNat_of_zero_le (show 0 ≤ n by omega)
  rw [Int.toNat_natCast]
  exact ralloc_ok mb st i k w hm ho g1 (by omega) g3 g4
theorem ralloc_no (mb : MB) (st : MS) (i n : Int) (w : World) (hm : MachR w mb st) (g : st.isCaller i = false ∨ n < 1) :
    Calls Try.prog 56 #[.pointer (some ⟨mb.p, 0, none⟩), .int .i64 i, .int .i64 n] w fun e w' =>
      e = .returned (.tuple #[.int .i64 0, .int .i64 10]) ∧ w = w' := by
  cases h : st.isCaller i with
  | false =>
    clear g
    go_enter Try.func56, Try.ntmps56
    go_wp2_with (go_at_call 57; refine (rcaller_any mb st i _ hm).mono ?_; rintro e w' ⟨rfl, rfl⟩)
    go_ret2
    exact ⟨rfl, rfl⟩
  | true =>
    have g2 : n < 1 := by simpa [h] using g
    have dn : decide (n < 1) = true := by simp; omega
    clear g
    go_enter Try.func56, Try.ntmps56
    go_wp2_with (go_at_call 57; refine (rcaller_any mb st i _ hm).mono ?_; rintro e w' ⟨rfl, rfl⟩)
    go_ret2
    exact ⟨rfl, rfl⟩
theorem ralloc_full (mb : MB) (st : MS) (i n : Int) (w : World) (hm : MachR w mb st) (g1 : st.isCaller i = true) (g2 : 1 ≤ n) (g3 : st.size < st.cells.length + n) (g4 : 0 ≤ st.size) (g5 : st.size ≤ 1048576) :
    Calls Try.prog 56 #[.pointer (some ⟨mb.p, 0, none⟩), .int .i64 i, .int .i64 n] w fun e w' =>
      e = .returned (.tuple #[.int .i64 0, .int .i64 21]) ∧ ∃ k, w' = w.drewN k := by
  obtain ⟨A, cap, h0, h1, h2, hA, hl, hcap, hn⟩ := hm.fields
  have hc2 : (st.cells.length : Int) ≤ 9223372036854775807 := by unfold maxLen at hcap; omega
  have dn : decide (n < 1) = false := by simp; omega
  have dm : decide (st.size - (st.cells.length : Int) < n) = true := by simp; omega
  clear hA hn hcap hl
  go_enter Try.func56, Try.ntmps56
  go_wp2_with (go_at_call 57; refine (rcaller_any mb st i _ hm).mono ?_; rw [g1]; rintro e w' ⟨rfl, rfl⟩)
  go_quiet (fail)
  go_wp2
  go_ret2
  exact ⟨rfl, _, rfl⟩

set_option maxHeartbeats 400000 in
theorem rnew_ok (size workers : Int) (w : World) (h3 : 1 ≤ workers) (h4 : workers ≤ 16) :
    Calls Try.prog 28 #[.int .i64 size, .int .i64 workers] w fun e w' => ∃ p s,
      e = .returned (.pointer (some ⟨p, 0, none⟩)) ∧ MachR w' ⟨p, p, s⟩ (MS.fresh size workers.toNat) ∧ (⟨p, p, s⟩ : MB).ord ∧ Kept (fun _ => False) w w' ∧ w.heap.size ≤ p ∧ w.heap.size ≤ s := by
  have hmk := fun w => make_ints (workers + 1) (by omega) (by omega) w
  go_enter Try.func28, Try.ntmps28
  go_wp2
  go_ret
  have e1 : (workers + 1).toNat = workers.toNat + 1 := by omega
  refine ⟨w.heap.size + 1, w.heap.size, rfl, ?_, ⟨by show w.heap.size < w.heap.size + 1; omega, .inl rfl⟩, ((Kept.refl _ w).alloc _).alloc _, by omega, by omega⟩
  have b1 : Blk (w.alloc (.cells (zerosA (workers + 1).toNat) 3)) w.heap.size 3 (ints (List.replicate (workers.toNat + 1) 0)) := by
    rw [e1]; exact Blk.new w _ _
  have b2 := Blk.new (w.alloc (.cells (zerosA (workers + 1).toNat) 3)) 59 [.slice none 0 0, .int .i64 size, .slice (some ⟨w.heap.size, 0, none⟩) (workers + 1).toNat (workers + 1).toNat]
  rw [World.size_alloc] at b2
  exact ⟨by simp, b1.alloc _, .inl ⟨(workers + 1).toNat, rfl, b2, by simp [MS.fresh, e1], rfl⟩⟩
end Go.Proofs.Ytelphbfdibfmoaa
