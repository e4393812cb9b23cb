/-
  WHAT IS PROVED HERE: contracts of the reference's Look.Step (pelotonref14). Conditions: as in the contracts.
-/
import Derived.Test.YtkdpckoneohjkaaScopeNestsWalk
import Derived.Test.YtkdpckoneohjkaaSact
import Derived.Test.YtkdpckoneohjkaaSprA
import Derived.StillTailTactics
namespace Go.Proofs.Ytkdpckoneohjkaa
open Go.RowKit

theorem results_tmp4 {fn : Func} {t u v x : Tmp} (h : fn.results = #[.tmp t, .tmp u, .tmp v, .tmp x]) (tmps : Array Value) (P : Program) (w : World) :
    (results fn tmps).run P w = .ok (.tuple #[tmps.getD t undef, tmps.getD u undef, tmps.getD v undef, tmps.getD x undef]) w := by
  simp [results, h]
/-- A reference's look. -/
abbrev RLk (w : World) (k : Nat) (at_ : Int) (done is : Bool) : Prop := Blk w k 77 [.int .i64 at_, .bool done, .bool is]
section
variable {w : World} {k r a : Nat} {at_ i : Int} {is : Bool} {R : RB} {L : List Sc} {n : Sc}
theorem rstep_done (rv : Value) (hL : RLk w k at_ true is) :
    Calls Try.prog 43 #[.pointer (some ⟨k, 0, none⟩), rv, .int .i64 i, .int .i64 2] w fun e w' => e = .returned (.tuple #[.bool true, .bool is, .bool false, .int .i64 0]) ∧ Below w.heap.size w w' := by
  have c0 := hL.cell
  go_enter Try.func43, Try.ntmps43
  go_wp2_with fail
  go_quiet (fail)
  go_wp2
  (try simp only [Exit.inBlock, Exit.then]); refine bodyPost_ret (results_tmp4 rfl _ _ _) rfl ?_
  exact ⟨rfl, below_drewN' (Below.refl _ w) _⟩
theorem rstep_no (rv : Value) (hL : RLk w k at_ false false) (hi : ¬ (0 ≤ i ∧ i < 3)) :
    Calls Try.prog 43 #[.pointer (some ⟨k, 0, none⟩), rv, .int .i64 i, .int .i64 2] w fun e w' => e = .returned (.tuple #[.bool false, .bool false, .bool false, .int .i64 10]) ∧ Below w.heap.size w w' := by
  have c0 := hL.cell
  by_cases h : i < 0
  · have d1 : decide (i < 0) = true := by simp; omega
    clear hi h
    go_enter Try.func43, Try.ntmps43
    go_wp2
    (try simp only [Exit.inBlock, Exit.then]); refine bodyPost_ret (results_tmp4 rfl _ _ _) rfl ?_
    exact ⟨rfl, Below.refl _ w⟩
  · have d1 : decide (i < 0) = false := by simp; omega
    have d2 : decide (2 < i) = true := by simp; omega
    clear hi h
    go_enter Try.func43, Try.ntmps43
    go_wp2
    (try simp only [Exit.inBlock, Exit.then]); refine bodyPost_ret (results_tmp4 rfl _ _ _) rfl ?_
    exact ⟨rfl, Below.refl _ w⟩
set_option maxRecDepth 20000 in
set_option maxHeartbeats 2000000 in
theorem rstep_ok (hR : RT w R L) (hL : RLk w k a false false) (hn : L[a]? = some n) (i0 : 0 ≤ i) (i1 : i < 3) (dn is : Bool) (his : is = askB n) (hdn : dn = (is || decide (a = 0))) :
    Calls Try.prog 43 #[.pointer (some ⟨k, 0, none⟩), .pointer (some ⟨R.r, 0, none⟩), .int .i64 i, .int .i64 2] w fun e w' => ∃ at' : Int, e = .returned (.tuple #[.bool dn, .bool is, .bool true, .int .i64 0]) ∧ RLk w' k at' dn is ∧ (dn = false → at' = n.par) ∧ Kept (fun q => q = k) w w' := by
  have c0 := hL.cell
  have f0 := hL.frozen
  have d1 : decide (i < 0) = false := by simp; omega
  have d2 : decide (2 < i) = false := by simp; omega
  obtain ⟨b0, b1, _⟩ := hR.cells
  have ca := hR.ra.cell (j := a) (v := .bool (askB n)) (by unfold askVs; rw [List.getElem?_map, hn]; rfl)
  rw [← his] at ca
  have cp := hR.par hn
  have hra := hR.ra.room
  unfold askVs at hra
  rw [List.length_map] at hra
  have hrp := hR.rp.room
  rw [len_row] at hrp
  have hal := sc_lt hn
  have n1 : ¬ R.r = k := Blk.apart hR.box hL (by decide)
  have n2 : ¬ R.ab = k := Rw.apart hR.ra hL (by decide)
  have n3 : ¬ R.pb = k := Rw.apart hR.rp hL (by decide)
  have HL := Lib.hid hL
  have HD := Lib.hid hdn
  have HR := Lib.hid hR
  have HN := Lib.hid hn
  clear hL hR hn his hdn i0 i1
  cases is with
  | true =>
    obtain rfl : dn = true := by rw [HD.out]; rfl
    go_enter Try.func43, Try.ntmps43
    go_wp2_with fail
    go_quiet (fail)
    go_wp2_with fail
    have hB : RLk (((w.drewN nq).setCell ⟨k, 1, none⟩ (.bool true)).setCell ⟨k, 2, none⟩ (.bool true)) k a true true := ((HL.out.drewN nq).set 1 (.bool true)).set 2 (.bool true)
    have hk : Kept (fun q => q = k) w (((w.drewN nq).setCell ⟨k, 1, none⟩ (.bool true)).setCell ⟨k, 2, none⟩ (.bool true)) := (((Kept.refl (fun q => q = k) w).drewN nq).setCell (p := ⟨k, 1, none⟩) (.inl rfl) _).setCell (p := ⟨k, 2, none⟩) (.inl rfl) _
    clear c0 f0 b0 b1 ca cp
    generalize (((w.drewN nq).setCell ⟨k, 1, none⟩ (.bool true)).setCell ⟨k, 2, none⟩ (.bool true)) = w2 at *
    have c2 := hB.cell
    go_quiet (fail)
    go_wp2
    (try simp only [Exit.inBlock, Exit.then]); refine bodyPost_ret (results_tmp4 rfl _ _ _) rfl ?_
    exact ⟨a, rfl, hB.drewN _, fun e => (by cases e), hk.drewN _⟩
  | false =>
    by_cases h0 : a = 0
    · obtain rfl : dn = true := by rw [HD.out]; simp [h0]
      have e0 : ((a : Int) == 0) = true := by simp [h0]
      have h00 := Lib.hid h0
      clear h0
      go_enter Try.func43, Try.ntmps43
      go_wp2_with fail
      go_quiet (fail)
      go_wp2_with fail
      have hB : RLk ((w.drewN nq).setCell ⟨k, 1, none⟩ (.bool true)) k a true false := (HL.out.drewN nq).set 1 (.bool true)
      have hk : Kept (fun q => q = k) w ((w.drewN nq).setCell ⟨k, 1, none⟩ (.bool true)) := ((Kept.refl (fun q => q = k) w).drewN nq).setCell (p := ⟨k, 1, none⟩) (.inl rfl) _
      clear c0 f0 b0 b1 ca cp
      generalize ((w.drewN nq).setCell ⟨k, 1, none⟩ (.bool true)) = w2 at *
      have c2 := hB.cell
      go_quiet (fail)
      go_wp2
      (try simp only [Exit.inBlock, Exit.then]); refine bodyPost_ret (results_tmp4 rfl _ _ _) rfl ?_
      exact ⟨a, rfl, hB.drewN _, fun e => (by cases e), hk.drewN _⟩
    · obtain rfl : dn = false := by rw [HD.out]; simp [h0]
      have e0 : ((a : Int) == 0) = false := by simp [h0]
      have h00 := Lib.hid h0
      clear h0
      go_enter Try.func43, Try.ntmps43
      go_wp2_with fail
      go_quiet (fail)
      go_wp2_with fail
      have hLd := HL.out.drewN nq
      have hRd := HR.out.kept ((Kept.refl (fun _ => False) w).drewN nq) (fun _ _ => id)
      have kd : Kept (fun q => q = k) w (w.drewN nq) := (Kept.refl (fun q => q = k) w).drewN nq
      clear c0 f0 b0 b1 ca cp
      generalize w.drewN nq = wd at *
      have c0 := hLd.cell
      have f0 := hLd.frozen
      obtain ⟨b0, _, _⟩ := hRd.cells
      have cp := hRd.par HN.out
      have hB : RLk (wd.setCell ⟨k, 0, none⟩ (.int .i64 n.par)).drew k n.par false false := (hLd.set 0 (.int .i64 n.par)).drew
      have hk : Kept (fun q => q = k) w (wd.setCell ⟨k, 0, none⟩ (.int .i64 n.par)).drew := (kd.setCell (p := ⟨k, 0, none⟩) (.inl rfl) _).drew
      have HB := Lib.hid hB
      have HK := Lib.hid hk
      have HE := Lib.hid hLd
      clear hB hk hLd hRd kd
      go_still_tail 13, (by kernel_rfl)
      change wpList _ _ _ _ _ wd.drew
      have c0 := HE.out.drew.cell
      have f0 := HE.out.drew.frozen
      go_wp2_with fail
      have hB := HB.out
      have hk := HK.out
      clear HB HK HE
      generalize (wd.setCell ⟨k, 0, none⟩ (.int .i64 n.par)).drew = w2 at *
      have c2 := hB.cell
      go_quiet (fail)
      go_wp2
      (try simp only [Exit.inBlock, Exit.then]); refine bodyPost_ret (results_tmp4 rfl _ _ _) rfl ?_
      exact ⟨n.par, rfl, hB.drewN _, fun _ => rfl, hk.drewN _⟩
end
end Go.Proofs.Ytkdpckoneohjkaa
