/-
  WHAT IS PROVED HERE: contracts of law18's begin and run. Conditions: as in the contracts.
-/
import Derived.Test.YtkilghhknimolaaDoorSpareG
namespace Go.Proofs.YtkilghhknimolaaDoor
open Go.RowKit

theorem pick3 (v : Int) : ∃ r : Nat, r < 3 ∧ (wrap64 (v.tmod 3 + 3)).tmod 3 = (r : Int) := by
  have h1 := Int.tmod_lt_of_pos v (show (0 : Int) < 3 by omega)
  have h2 := Int.lt_tmod_of_pos v (show (0 : Int) < 3 by omega)
  have e : wrap64 (v.tmod 3 + 3) = v.tmod 3 + 3 := by unfold wrap64; omega
  rw [e]
  obtain ⟨u, hu⟩ := Int.eq_ofNat_of_zero_le (show 0 ≤ v.tmod 3 + 3 by omega)
  rw [hu]
  exact ⟨u % 3, Nat.mod_lt _ (by omega), rfl⟩
/-- An operation that begins. -/
def begQ (kind : Nat) (self : Int) : OS :=
  match kind with
  | 0 => ⟨0, 0, 0, -1, 1⟩
  | 1 => ⟨0, 0, 0, -1, 2⟩
  | _ => ⟨self, 0, 0, -1, 3⟩
set_option maxRecDepth 20000 in
set_option maxHeartbeats 1000000 in
theorem begin_ok (b m self dv : Int) (k : Nat) (hk3 : k < 3) (hk : (wrap64 (dv.tmod 3 + 3)).tmod 3 = (k : Int)) (w : World) :
    Calls Tryd.prog 27 #[spV 0 b m, .int .i64 dv, .int .i64 self] w fun e w' => ∃ o, e = .returned (.pointer (some ⟨o, 0, none⟩)) ∧ w.heap.size ≤ o ∧ OpQ w' o b m (begQ k self) ∧ Below w.heap.size w w' := by
  have b0 : Blk (w.alloc (.cells #[.int .i64 0, .int .i64 b, .int .i64 m] 42)) w.heap.size 42 [.int .i64 0, .int .i64 b, .int .i64 m] := Blk.new w _ _
  have hbl : Below w.heap.size w (w.alloc (.cells #[.int .i64 0, .int .i64 b, .int .i64 m] 42)) := (Below.refl _ w).alloc (Nat.le_refl _) _
  have hz : (w.alloc (.cells #[.int .i64 0, .int .i64 b, .int .i64 m] 42)).heap.size = w.heap.size + 1 := by simp
  have c0 := b0.cell
  have h0 := block_ok 0 b m (w.alloc (.cells #[.int .i64 0, .int .i64 b, .int .i64 m] 42))
  have h1 := resume_ok 0 b m (w.alloc (.cells #[.int .i64 0, .int .i64 b, .int .i64 m] 42))
  have h2 := retire_ok 0 b m self (w.alloc (.cells #[.int .i64 0, .int .i64 b, .int .i64 m] 42))
  unfold spV at h0 h1 h2
  have H0 := Lib.hid h0
  have H1 := Lib.hid h1
  have H2 := Lib.hid h2
  clear h0 h1 h2
  unfold spV
  have hcase : k = 0 ∨ k = 1 ∨ k = 2 := by omega
  rcases hcase with rfl | rfl | rfl
  · go_enter Tryd.func27, Tryd.ntmps27
    go_wp2_with fail
    refine H0.out.mono ?_
    rintro e w2 ⟨o, rfl, ho, hq, hb⟩
    have HQ := Lib.hid hq
    have HB := Lib.hid hb
    clear hq hb c0
    go_wp2_with fail
    go_ret
    exact ⟨o, rfl, by omega, HQ.out, hbl.trans (HB.out.mono (by omega))⟩
  · go_enter Tryd.func27, Tryd.ntmps27
    go_wp2_with fail
    refine H1.out.mono ?_
    rintro e w2 ⟨o, rfl, ho, hq, hb⟩
    have HQ := Lib.hid hq
    have HB := Lib.hid hb
    clear hq hb c0
    go_wp2_with fail
    go_ret
    exact ⟨o, rfl, by omega, HQ.out, hbl.trans (HB.out.mono (by omega))⟩
  · go_enter Tryd.func27, Tryd.ntmps27
    go_wp2_with fail
    refine H2.out.mono ?_
    rintro e w2 ⟨o, rfl, ho, hq, hb⟩
    have HQ := Lib.hid hq
    have HB := Lib.hid hb
    clear hq hb c0
    go_wp2_with fail
    go_ret
    exact ⟨o, rfl, by omega, HQ.out, hbl.trans (HB.out.mono (by omega))⟩
/-- Steps, one behind the other. -/
def itP (b : Nat) (m : Int) : Nat → PS → PS
  | 0, s => s
  | k + 1, s => stepP b m (itP b m k s)
def dlN (l : List Int) (i : Int) : Nat → List Int
  | 0 => l
  | k + 1 => dl (dlN l i k) i
theorem length_dlN (l : List Int) (i : Int) (k : Nat) : (dlN l i k).length = l.length := by
  induction k with
  | zero => rfl
  | succ k ih => rw [dlN, length_dl, ih]
theorem caller_dlN (sz : Int) (l : List Int) (wt on wt' on' i : Int) (k : Nat) (g : (spM sz l wt on).isCaller i = true) : (spM sz (dlN l i k) wt' on').isCaller i = true := by
  rw [spM_caller] at g ⊢
  rw [length_dlN]
  exact g
/-- A run that ends with its step n. -/
structure Runs (b : Nat) (m : Int) (s : PS) (n : Nat) : Prop where
  lo : 1 ≤ n
  hi : n ≤ 3
  ok : ∀ k, k < n → OkP (itP b m k s)
  dn : (itP b m n s).q.ph = 0
set_option maxRecDepth 20000 in
set_option maxHeartbeats 1000000 in
theorem run_ok {w : World} {mb : MB} {o : Nat} {m : Int} {sz : Int} {l : List Int} (b : Nat) (hb : b ≤ 16) (s : PS) (n : Nat) (hn : Runs b m s n) (hm : MachP w mb (spM sz l s.wt s.on)) (h : OpQ w o b m s.q) (ho : ¬ mb.has o) (hT : Tab w) (h0 : ¬ (mb.has 0 ∨ 0 = o)) (hr : rightB b m = true) (hi : i64B m) (i : Int) (g : (spM sz l s.wt s.on).isCaller i = true) :
    Calls Tryd.prog 43 #[.pointer (some ⟨mb.p, 0, none⟩), .pointer (some ⟨o, 0, none⟩), .int .i64 i] w fun e w' => e = .returned (.int .i64 n) ∧ MachP w' mb (spM sz (dlN l i n) (itP b m n s).wt (itP b m n s).on) ∧ OpQ w' o b m (itP b m n s).q ∧ Kept (fun k => mb.has k ∨ k = o) w w' := by
  have HN := Lib.hid hn
  have HT := Lib.hid hT
  have HH := Lib.hid h
  have HM := Lib.hid hm
  clear hn hT h hm
  go_enter Tryd.func43, Tryd.ntmps43
  go_wp2_with fail
  go_loopw [7] (fun v wr => ∃ k : Nat, k < n ∧ v = .int .i64 ((k : Int) + 1) ∧ MachP wr mb (spM sz (dlN l i k) (itP b m k s).wt (itP b m k s).on) ∧ OpQ wr o b m (itP b m k s).q ∧ Kept (fun k => mb.has k ∨ k = o) w wr) (fun v _ => 4 - (intOf v).toNat)
  case atStart => exact ⟨0, by have := HN.out.lo; omega, rfl, HM.out, HH.out, Kept.refl _ _⟩
  case round =>
    clear HM HH
    obtain ⟨k, hk, rfl, hm, hq, hk0⟩ := hrel
    have hk3 := HN.out.hi
    have d4 : decide ((k : Int) + 1 < 4) = true := by simp; omega
    have hT1 := HT.out.kept hk0 h0
    have st := opstep_ok b hb (itP b m k s) (HN.out.ok k hk) hm hq ho hT1 h0 hr hi i (caller_dlN sz l s.wt s.on _ _ i k g)
    have ew : wrap64 ((k : Int) + 1 + 1) = (k : Int) + 1 + 1 := by unfold wrap64; omega
    have ST := Lib.hid st
    have HK0 := Lib.hid hk0
    clear hm hq hT1 st hk0
    by_cases hl : k + 1 = n
    · subst hl
      have e0 : ((stepP b m (itP b m k s)).q.ph == 0) = true := by
        have := HN.out.dn
        simpa [itP] using this
      rw [e0] at ST
      go_wp2_with fail
      refine ST.out.mono ?_
      rintro e w2 ⟨rfl, hm2, hq2, hk2⟩
      have HM2 := Lib.hid hm2
      have HQ2 := Lib.hid hq2
      have HK2 := Lib.hid (HK0.out.trans hk2 (fun _ _ e => e))
      clear hm2 hq2 hk2 ST HK0
      go_wp2_with fail
      go_ret
      exact ⟨by simp, HM2.out, HQ2.out, HK2.out⟩
    · have hk1 : k + 1 < n := by omega
      have e0 : ((stepP b m (itP b m k s)).q.ph == 0) = false := by
        have := (HN.out.ok (k + 1) hk1).1
        simp only [itP] at this
        simp; omega
      rw [e0] at ST
      go_wp2_with fail
      refine ST.out.mono ?_
      rintro e w2 ⟨rfl, hm2, hq2, hk2⟩
      have HM2 := Lib.hid hm2
      have HQ2 := Lib.hid hq2
      have HK2 := Lib.hid (HK0.out.trans hk2 (fun _ _ e => e))
      clear hm2 hq2 hk2 ST HK0
      go_wp2_with fail
      go_roundw
      case rel => exact ⟨k + 1, hk1, by go_num, HM2.out, HQ2.out, HK2.out⟩
      case measure => simp [intOf]; omega
end Go.Proofs.YtkilghhknimolaaDoor
