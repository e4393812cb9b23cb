/-
  WHAT IS PROVED HERE: contracts of the reference's tree (pelotonref14): New, Open. Conditions: the pointer is such a tree's.
-/
import Derived.Test.YtkdpckoneohjkaaRefT
namespace Go.Proofs.Ytkdpckoneohjkaa
open Go.RowKit

theorem info_bool' : ∃ i0, Try.prog.info? 4 = some i0 ∧ i0.zero = some (.bool false) ∧ i0.size = 1 ∧ i0.bytes = 1 := by
  have h : (Try.prog.info? 4).map (fun i => (i.zero, i.size, i.bytes)) = some (some (.bool false), 1, 1) := by kernel_rfl
  cases hc : Try.prog.info? 4 with
  | none => rw [hc] at h; simp at h
  | some i =>
    rw [hc] at h
    simp at h
    exact ⟨i, rfl, h.1, h.2.1, h.2.2⟩
theorem info_int64' : ∃ i0, Try.prog.info? 2 = some i0 ∧ i0.zero = some (.int .i64 0) ∧ i0.size = 1 ∧ i0.bytes = 8 := by
  have h : (Try.prog.info? 2).map (fun i => (i.zero, i.size, i.bytes)) = some (some (.int .i64 0), 1, 8) := by kernel_rfl
  cases hc : Try.prog.info? 2 with
  | none => rw [hc] at h; simp at h
  | some i =>
    rw [hc] at h
    simp at h
    exact ⟨i, rfl, h.1, h.2.1, h.2.2⟩

theorem ref_new (w : World) :
    Calls Try.prog 33 #[] w fun e w' => ∃ R, e = .returned (.pointer (some ⟨R.r, 0, none⟩)) ∧ RT w' R [⟨-1, 0, 0, 0⟩] ∧ (∀ q, R.has q → w.heap.size ≤ q) ∧ Below w.heap.size w w' := by
  have q1 := (((Blk.new w 3 (ints [-1])).alloc (.cells #[.bool false] 4)).alloc (.cells #[.int .i64 0] 2)).alloc (.cells #[.slice (some ⟨w.heap.size, 0, none⟩) 1 1, .slice (some ⟨w.heap.size + 1, 0, none⟩) 1 1, .slice (some ⟨w.heap.size + 2, 0, none⟩) 1 1] 81)
  have q2 := ((Blk.new (w.alloc (.cells #[.int .i64 (-1)] 3)) 4 [.bool false]).alloc (.cells #[.int .i64 0] 2)).alloc (.cells #[.slice (some ⟨w.heap.size, 0, none⟩) 1 1, .slice (some ⟨w.heap.size + 1, 0, none⟩) 1 1, .slice (some ⟨w.heap.size + 2, 0, none⟩) 1 1] 81)
  have q3 := (Blk.new ((w.alloc (.cells #[.int .i64 (-1)] 3)).alloc (.cells #[.bool false] 4)) 2 (ints [0])).alloc (.cells #[.slice (some ⟨w.heap.size, 0, none⟩) 1 1, .slice (some ⟨w.heap.size + 1, 0, none⟩) 1 1, .slice (some ⟨w.heap.size + 2, 0, none⟩) 1 1] 81)
  have q4 := Blk.new (((w.alloc (.cells #[.int .i64 (-1)] 3)).alloc (.cells #[.bool false] 4)).alloc (.cells #[.int .i64 0] 2)) 81 [.slice (some ⟨w.heap.size, 0, none⟩) 1 1, .slice (some ⟨w.heap.size + 1, 0, none⟩) 1 1, .slice (some ⟨w.heap.size + 2, 0, none⟩) 1 1]
  simp only [World.size_alloc, Nat.add_assoc, Nat.reduceAdd] at q2 q3 q4
  have bel : Below w.heap.size w ((((w.alloc (.cells #[.int .i64 (-1)] 3)).alloc (.cells #[.bool false] 4)).alloc (.cells #[.int .i64 0] 2)).alloc (.cells #[.slice (some ⟨w.heap.size, 0, none⟩) 1 1, .slice (some ⟨w.heap.size + 1, 0, none⟩) 1 1, .slice (some ⟨w.heap.size + 2, 0, none⟩) 1 1] 81)) :=
    ((((Below.refl _ w).alloc (Nat.le_refl _) _).alloc (by simp) _).alloc (by simp; omega) _).alloc (by simp; omega) _
  have H1 := Lib.hid q1
  have H2 := Lib.hid q2
  have H3 := Lib.hid q3
  have H4 := Lib.hid q4
  have HB := Lib.hid bel
  clear q1 q2 q3 q4 bel
  go_enter Try.func33, Try.ntmps33
  go_wp2
  go_ret
  refine ⟨⟨w.heap.size + 3, w.heap.size, 1, w.heap.size + 1, 1, w.heap.size + 2, 1⟩, ?_, ⟨?_, ?_, ?_, ?_⟩, ?_, HB.out⟩
  · rfl
  · exact H4.out
  · exact Rw.of H1.out (by show 1 ≤ maxLen; unfold maxLen; omega)
  · exact Rw.of H2.out (by show 1 ≤ maxLen; unfold maxLen; omega)
  · exact Rw.of H3.out (by show 1 ≤ maxLen; unfold maxLen; omega)
  · rintro q (h | h | h | h) <;> (simp at h; omega)

/-- What Open tells, if it opens none. -/
def openC (L : List Sc) (i most left s : Int) : Int :=
  if inT L.length s = false then 17 else if 32 ≤ nestOf (scN L) s then 23 else if i < 0 ∨ most < i then 10 else if left < 2 then 21 else 0
section
variable {w w' : World} {R : RB} {L : List Sc}
set_option maxHeartbeats 1000000 in
theorem ropen_no (h : RT w R L) (hw : WfS L) (i most left s : Int) (hc : ¬ openC L i most left s = 0) :
    Calls Try.prog 34 #[.pointer (some ⟨R.r, 0, none⟩), .int .i64 i, .int .i64 most, .int .i64 left, .int .i64 s] w fun e w' => e = .returned (.tuple #[.int .i64 0, .int .i64 (openC L i most left s)]) ∧ w = w' := by
  have HH := Lib.hid h
  clear h
  unfold openC at hc ⊢
  cases hs : inT L.length s with
  | false =>
    rw [if_pos rfl]
    go_enter Try.func34, Try.ntmps34
    go_wp2_with (go_at_call 41; refine (ris_in HH.out hs).mono ?_; rintro e w' ⟨rfl, rfl⟩)
    go_ret2
    exact ⟨rfl, by first | trivial | rfl⟩
  | true =>
    rw [if_neg (by simp)]
    rw [hs, if_neg (by simp)] at hc
    have HC := Lib.hid hc
    clear hc
    obtain ⟨ne, hne⟩ : ∃ ne, nestOf (scN L) s = ne := ⟨_, rfl⟩
    rw [hne]
    have HN := Lib.hid hne
    clear hne
    by_cases a : 32 ≤ ne
    · rw [if_pos a]
      go_enter Try.func34, Try.ntmps34
      go_wp2_with fail
      refine (ris_in HH.out hs).mono ?_
      rintro e w' ⟨rfl, rfl⟩
      go_wp2_with fail
      refine (rnest_any HH.out hw s).mono ?_
      rw [HN.out]
      rintro e w' ⟨rfl, rfl⟩
      go_wp2
      go_ret2
      exact ⟨rfl, by first | trivial | rfl⟩
    · rw [if_neg a]
      by_cases b : i < 0
      · rw [if_pos (.inl b)]
        go_enter Try.func34, Try.ntmps34
        go_wp2_with fail
        refine (ris_in HH.out hs).mono ?_
        rintro e w' ⟨rfl, rfl⟩
        go_wp2_with fail
        refine (rnest_any HH.out hw s).mono ?_
        rw [HN.out]
        rintro e w' ⟨rfl, rfl⟩
        go_wp2
        go_ret2
        exact ⟨rfl, by first | trivial | rfl⟩
      · by_cases b2 : most < i
        · rw [if_pos (.inr b2)]
          go_enter Try.func34, Try.ntmps34
          go_wp2_with fail
          refine (ris_in HH.out hs).mono ?_
          rintro e w' ⟨rfl, rfl⟩
          go_wp2_with fail
          refine (rnest_any HH.out hw s).mono ?_
          rw [HN.out]
          rintro e w' ⟨rfl, rfl⟩
          go_wp2
          go_ret2
          exact ⟨rfl, by first | trivial | rfl⟩
        · rw [if_neg (by omega)]
          have b3 : left < 2 := by
            have := HC.out
            rw [HN.out, if_neg a, if_neg (by omega)] at this
            by_cases e : left < 2
            · exact e
            · rw [if_neg e] at this; exact absurd rfl this
          rw [if_pos b3]
          go_enter Try.func34, Try.ntmps34
          go_wp2_with fail
          refine (ris_in HH.out hs).mono ?_
          rintro e w' ⟨rfl, rfl⟩
          go_wp2_with fail
          refine (rnest_any HH.out hw s).mono ?_
          rw [HN.out]
          rintro e w' ⟨rfl, rfl⟩
          go_wp2
          go_ret2
          exact ⟨rfl, by first | trivial | rfl⟩

/-- The tree's struct over any three lists. -/
structure RM (w : World) (R : RB) (P A V : List Value) : Prop where
  box : Blk w R.r 81 [.slice (some ⟨R.pb, 0, none⟩) P.length R.pc, .slice (some ⟨R.ab, 0, none⟩) A.length R.ac, .slice (some ⟨R.lb, 0, none⟩) V.length R.lc]
  rp : Rw w R.pb R.pc 3 P
  ra : Rw w R.ab R.ac 4 A
  rl : Rw w R.lb R.lc 2 V
theorem RT.mid (h : RT w R L) : RM w R (ints (L.map Sc.par)) (askVs L) (ints (L.map Sc.live)) := by
  refine ⟨?_, h.rp, h.ra, h.rl⟩
  rw [len_row, len_row, show (askVs L).length = L.length by simp [askVs]]
  exact h.box
theorem RM.tree (h : RM w R (ints (L.map Sc.par)) (askVs L) (ints (L.map Sc.live))) : RT w R L := by
  have hb := h.box
  rw [len_row, len_row, show (askVs L).length = L.length by simp [askVs]] at hb
  exact ⟨hb, h.rp, h.ra, h.rl⟩
section
variable {P A V : List Value} {w1 : World} {o : Obj}
theorem RM.apart (h : RM w R P A V) : R.pb ≠ R.r ∧ R.ab ≠ R.r ∧ R.lb ≠ R.r ∧ R.pb ≠ R.ab ∧ R.pb ≠ R.lb ∧ R.ab ≠ R.lb :=
  ⟨Rw.apart h.rp h.box (by decide), Rw.apart h.ra h.box (by decide), Rw.apart h.rl h.box (by decide), Rw.apart2 h.rp h.ra (by decide), Rw.apart2 h.rp h.rl (by decide), Rw.apart2 h.ra h.rl (by decide)⟩
theorem RM.alloc (h : RM w R P A V) (o : Obj) : RM (w.alloc o) R P A V := ⟨h.box.alloc o, h.rp.alloc o, h.ra.alloc o, h.rl.alloc o⟩
/-- The struct, after an append to its first list. -/
theorem RM.boxP (h : RM w R P A V) (hk : Kept (fun k => k = R.pb) (w.alloc o) w1) : Blk w1 R.r 81 [.slice (some ⟨R.pb, 0, none⟩) P.length R.pc, .slice (some ⟨R.ab, 0, none⟩) A.length R.ac, .slice (some ⟨R.lb, 0, none⟩) V.length R.lc] := (h.alloc o).box.kept hk (fun e => h.apart.1 e.symm)
theorem RM.boxA (h : RM w R P A V) (hk : Kept (fun k => k = R.ab) (w.alloc o) w1) : Blk w1 R.r 81 [.slice (some ⟨R.pb, 0, none⟩) P.length R.pc, .slice (some ⟨R.ab, 0, none⟩) A.length R.ac, .slice (some ⟨R.lb, 0, none⟩) V.length R.lc] := (h.alloc o).box.kept hk (fun e => h.apart.2.1 e.symm)
theorem RM.boxL (h : RM w R P A V) (hk : Kept (fun k => k = R.lb) (w.alloc o) w1) : Blk w1 R.r 81 [.slice (some ⟨R.pb, 0, none⟩) P.length R.pc, .slice (some ⟨R.ab, 0, none⟩) A.length R.ac, .slice (some ⟨R.lb, 0, none⟩) V.length R.lc] := (h.alloc o).box.kept hk (fun e => h.apart.2.2.1 e.symm)
theorem ne_fresh {b b' r n m : Nat} (h : b' = b ∨ b' = n) (h1 : b ≠ r) (h2 : r < m) (h3 : m ≤ n) : b' ≠ r := by
  rcases h with e | e
  · rw [e]; exact h1
  · omega
theorem RM.stepP (h : RM w R P A V) {pb' pc' n : Nat} {P' : List Value} (rp : Rw w1 pb' pc' 3 P') (hk : Kept (fun k => k = R.pb) (w.alloc o) w1) (hw : pb' = R.pb ∨ pb' = (w.alloc o).heap.size) (hn : P'.length = n) :
    RM (w1.setCell ⟨R.r, 0, none⟩ (.slice (some ⟨pb', 0, none⟩) n pc')) { R with pb := pb', pc := pc' } P' A V ∧ Kept R.has w (w1.setCell ⟨R.r, 0, none⟩ (.slice (some ⟨pb', 0, none⟩) n pc')) ∧ (∀ q, ({ R with pb := pb', pc := pc' } : RB).has q → R.has q ∨ w.heap.size ≤ q) := by
  subst hn
  obtain ⟨a1, a2, a3, a4, a5, a6⟩ := h.apart
  have hr := h.box.lt
  have hs : (w.alloc o).heap.size = w.heap.size + 1 := by simp
  have b1 : pb' ≠ R.r := ne_fresh hw a1 hr (by omega)
  refine ⟨⟨(h.boxP hk).set 0 _, rp.setOther b1 _, ((h.ra.alloc o).kept hk (Ne.symm a4)).setOther a2 _, ((h.rl.alloc o).kept hk (Ne.symm a5)).setOther a3 _⟩, ?_, ?_⟩
  · exact ((((Kept.refl R.has w).alloc o).trans (hk.mono (S' := R.has) (fun k _ e => .inr (.inl e))) (fun _ _ e => e))).setCell (p := ⟨R.r, 0, none⟩) (.inl (.inl rfl)) _
  · rintro q (e | e | e | e)
    · exact .inl (.inl e)
    · have e' : q = pb' := e
      rcases hw with e2 | e2
      · exact .inl (.inr (.inl (by rw [e', e2])))
      · right; omega
    · exact .inl (.inr (.inr (.inl e)))
    · exact .inl (.inr (.inr (.inr e)))
theorem RM.stepA (h : RM w R P A V) {pb' pc' n : Nat} {P' : List Value} (rp : Rw w1 pb' pc' 4 P') (hk : Kept (fun k => k = R.ab) (w.alloc o) w1) (hw : pb' = R.ab ∨ pb' = (w.alloc o).heap.size) (hn : P'.length = n) :
    RM (w1.setCell ⟨R.r, 1, none⟩ (.slice (some ⟨pb', 0, none⟩) n pc')) { R with ab := pb', ac := pc' } P P' V ∧ Kept R.has w (w1.setCell ⟨R.r, 1, none⟩ (.slice (some ⟨pb', 0, none⟩) n pc')) ∧ (∀ q, ({ R with ab := pb', ac := pc' } : RB).has q → R.has q ∨ w.heap.size ≤ q) := by
  subst hn
  obtain ⟨a1, a2, a3, a4, a5, a6⟩ := h.apart
  have hr := h.box.lt
  have hs : (w.alloc o).heap.size = w.heap.size + 1 := by simp
  have b1 : pb' ≠ R.r := ne_fresh hw a2 hr (by omega)
  refine ⟨⟨(h.boxA hk).set 1 _, ((h.rp.alloc o).kept hk a4).setOther a1 _, rp.setOther b1 _, ((h.rl.alloc o).kept hk (Ne.symm a6)).setOther a3 _⟩, ?_, ?_⟩
  · exact ((((Kept.refl R.has w).alloc o).trans (hk.mono (S' := R.has) (fun k _ e => .inr (.inr (.inl e)))) (fun _ _ e => e))).setCell (p := ⟨R.r, 1, none⟩) (.inl (.inl rfl)) _
  · rintro q (e | e | e | e)
    · exact .inl (.inl e)
    · exact .inl (.inr (.inl e))
    · have e' : q = pb' := e
      rcases hw with e2 | e2
      · exact .inl (.inr (.inr (.inl (by rw [e', e2]))))
      · right; omega
    · exact .inl (.inr (.inr (.inr e)))
theorem RM.stepL (h : RM w R P A V) {pb' pc' n : Nat} {P' : List Value} (rp : Rw w1 pb' pc' 2 P') (hk : Kept (fun k => k = R.lb) (w.alloc o) w1) (hw : pb' = R.lb ∨ pb' = (w.alloc o).heap.size) (hn : P'.length = n) :
    RM (w1.setCell ⟨R.r, 2, none⟩ (.slice (some ⟨pb', 0, none⟩) n pc')) { R with lb := pb', lc := pc' } P A P' ∧ Kept R.has w (w1.setCell ⟨R.r, 2, none⟩ (.slice (some ⟨pb', 0, none⟩) n pc')) ∧ (∀ q, ({ R with lb := pb', lc := pc' } : RB).has q → R.has q ∨ w.heap.size ≤ q) := by
  subst hn
  obtain ⟨a1, a2, a3, a4, a5, a6⟩ := h.apart
  have hr := h.box.lt
  have hs : (w.alloc o).heap.size = w.heap.size + 1 := by simp
  have b1 : pb' ≠ R.r := ne_fresh hw a3 hr (by omega)
  refine ⟨⟨(h.boxL hk).set 2 _, ((h.rp.alloc o).kept hk a5).setOther a1 _, ((h.ra.alloc o).kept hk a6).setOther a2 _, rp.setOther b1 _⟩, ?_, ?_⟩
  · exact ((((Kept.refl R.has w).alloc o).trans (hk.mono (S' := R.has) (fun k _ e => .inr (.inr (.inr e)))) (fun _ _ e => e))).setCell (p := ⟨R.r, 2, none⟩) (.inl (.inl rfl)) _
  · rintro q (e | e | e | e)
    · exact .inl (.inl e)
    · exact .inl (.inr (.inl e))
    · exact .inl (.inr (.inr (.inl e)))
    · have e' : q = pb' := e
      rcases hw with e2 | e2
      · exact .inl (.inr (.inr (.inr (by rw [e', e2]))))
      · right; omega
end
set_option maxRecDepth 100000 in
set_option maxHeartbeats 4000000 in
theorem ropen_ok (h : RT w R L) (hw : WfS L) (i most left : Int) (s : Nat) (n : Sc) (hn : L[s]? = some n) (hd : n.nest < 32) (h0 : 0 ≤ i) (h1 : i ≤ most) (h2 : 2 ≤ left) (hl : L.length ≤ 1000) (ne : Int) :
    Calls Try.prog 34 #[.pointer (some ⟨R.r, 0, none⟩), .int .i64 i, .int .i64 most, .int .i64 left, .int .i64 s] w fun e w' => ∃ R' : RB,
      e = .returned (.tuple #[.int .i64 L.length, .int .i64 0]) ∧ R'.r = R.r ∧ RT w' R' (L ++ [⟨s, ne, 0, 0⟩]) ∧ Kept R.has w w' ∧ (∀ q, R'.has q → R.has q ∨ w.heap.size ≤ q) := by
  obtain ⟨ii, hii, hi0, hi1, hi2⟩ := info_int'
  obtain ⟨ib, hib, hb0, hb1, hb2⟩ := info_bool'
  obtain ⟨il, hil, hq0, hq1, hq2⟩ := info_int64'
  have hin := sc_in hn
  have hnest := nestOf_sc hn
  obtain ⟨c0, _, _⟩ := h.cells
  have HH := Lib.hid h
  have HM := Lib.hid h.mid
  have lp := len_row L Sc.par
  have ll := len_row L Sc.live
  have la : (askVs L).length = L.length := by simp [askVs]
  have rp0 := h.rp.alloc (.cells #[.int .i64 s] 3)
  have nb0 : (w.alloc (.cells #[.int .i64 s] 3)).cell? ⟨w.heap.size, 0, none⟩ = some (.int .i64 s) := (Blk.new w 3 [.int .i64 s]).cell 0
  have RP := Lib.hid rp0
  have NB := Lib.hid nb0
  clear h rp0 nb0
  go_enter Try.func34, Try.ntmps34
  go_wp2_with fail
  refine (ris_in HH.out hin).mono ?_
  rintro e w' ⟨rfl, rfl⟩
  go_wp2_with fail
  refine (rnest_any HH.out hw s).mono ?_
  rw [hnest]
  rintro e w' ⟨rfl, rfl⟩
  clear hnest hin
  go_upto_region 10 with (at_builtin; go_loud (refine wpList_append_row _ rfl (.tmp 33) (.tmp 35) 24 rfl 3 ii (.int .i64 0) 8 Try.underlying24 hii hi0 hi1 hi2 rfl R.pb R.pc L.length (ints (L.map Sc.par)) rfl lp.symm RP.out w.heap.size (.int .i64 s) rfl NB.out rfl (by rw [lp]; omega) (by omega) ?_); intro pb' pc' w1 rp1 hk1 hw1 hl1; have bx1 := HM.out.boxP hk1; have f1 := bx1.frozen 0; have d1 := bx1.cell 0; have hst := HM.out.stepP (n := L.length + 1) rp1 hk1 hw1 (by rw [List.length_append, lp]; rfl); have HS1 := Lib.hid hst; clear rp1 hk1 hw1 bx1 hst)
  obtain ⟨m1, k1, n1⟩ := HS1.out
  generalize (w1.setCell ⟨R.r, 0, none⟩ (.slice (some ⟨pb', 0, none⟩) (L.length + 1) pc')) = W1 at *
  clear d1 f1 RP NB c0 HS1
  have e1 : W1.cell? ⟨R.r, 1, none⟩ = some (.slice (some ⟨R.ab, 0, none⟩) L.length R.ac) := by have := m1.box.cell 1; rwa [la] at this
  have ra0 := m1.ra.alloc (.cells #[.bool false] 4)
  have nb0 : (W1.alloc (.cells #[.bool false] 4)).cell? ⟨W1.heap.size, 0, none⟩ = some (.bool false) := (Blk.new W1 4 [.bool false]).cell 0
  have RA := Lib.hid ra0
  have NB := Lib.hid nb0
  have M1 := Lib.hid m1
  have K1 := Lib.hid k1
  have N1 := Lib.hid n1
  have hr1 : R.r < W1.heap.size := m1.box.lt
  clear m1 k1 n1 ra0 nb0
  go_upto_region 11 with (at_builtin; go_loud (refine wpList_append_row _ rfl (.tmp 43) (.tmp 44) 56 rfl 4 ib (.bool false) 1 Try.underlying56 hib hb0 hb1 hb2 rfl R.ab R.ac L.length (askVs L) rfl la.symm RA.out W1.heap.size (.bool false) rfl NB.out rfl (by rw [la]; omega) (by omega) ?_); intro ab' ac' w2 rp1 hk1 hw1 hl1; have bx1 := M1.out.boxA hk1; have f1 := bx1.frozen 1; have d1 := bx1.cell 1; have hst := M1.out.stepA (n := L.length + 1) rp1 hk1 hw1 (by rw [List.length_append, la]; rfl); have HS2 := Lib.hid hst; clear rp1 hk1 hw1 bx1 hst)
  obtain ⟨m2, k2, n2⟩ := HS2.out
  have m2 : RM (w2.setCell ⟨R.r, 1, none⟩ (.slice (some ⟨ab', 0, none⟩) (L.length + 1) ac')) { R with pb := pb', pc := pc', ab := ab', ac := ac' } (ints (L.map Sc.par) ++ [.int .i64 s]) (askVs L ++ [.bool false]) (ints (L.map Sc.live)) := m2
  generalize (w2.setCell ⟨R.r, 1, none⟩ (.slice (some ⟨ab', 0, none⟩) (L.length + 1) ac')) = W2 at *
  clear d1 f1 RA NB e1 HS2
  have e1 : W2.cell? ⟨R.r, 2, none⟩ = some (.slice (some ⟨R.lb, 0, none⟩) L.length R.lc) := by have := m2.box.cell 2; rwa [ll] at this
  have ra0 := m2.rl.alloc (.cells #[.int .i64 0] 2)
  have nb0 : (W2.alloc (.cells #[.int .i64 0] 2)).cell? ⟨W2.heap.size, 0, none⟩ = some (.int .i64 0) := (Blk.new W2 2 [.int .i64 0]).cell 0
  have RL := Lib.hid ra0
  have NB := Lib.hid nb0
  have M2 := Lib.hid m2
  have K2 := Lib.hid k2
  have N2 := Lib.hid n2
  have hr2 : R.r < W2.heap.size := m2.box.lt
  clear m2 k2 n2 ra0 nb0
  go_upto_region 12 with (at_builtin; go_loud (refine wpList_append_row _ rfl (.tmp 52) (.tmp 53) 79 rfl 2 il (.int .i64 0) 8 Try.underlying79 hil hq0 hq1 hq2 rfl R.lb R.lc L.length (ints (L.map Sc.live)) rfl ll.symm RL.out W2.heap.size (.int .i64 0) rfl NB.out rfl (by rw [ll]; omega) (by omega) ?_); intro lb' lc' w3 rp1 hk1 hw1 hl1; have bx1 := M2.out.boxL hk1; have f1 := bx1.frozen 2; have d1 := bx1.cell 2; have hst := M2.out.stepL (n := L.length + 1) rp1 hk1 hw1 (by rw [List.length_append, ll]; rfl); have HS3 := Lib.hid hst; clear rp1 hk1 hw1 bx1 hst)
  obtain ⟨m3, k3, n3⟩ := HS3.out
  have m3 : RM (w3.setCell ⟨R.r, 2, none⟩ (.slice (some ⟨lb', 0, none⟩) (L.length + 1) lc')) ⟨R.r, pb', pc', ab', ac', lb', lc'⟩ (ints (L.map Sc.par) ++ [.int .i64 s]) (askVs L ++ [.bool false]) (ints (L.map Sc.live) ++ [.int .i64 0]) := m3
  generalize (w3.setCell ⟨R.r, 2, none⟩ (.slice (some ⟨lb', 0, none⟩) (L.length + 1) lc')) = W3 at *
  clear d1 f1 RL NB e1 HS3
  have e1 : W3.cell? ⟨R.r, 0, none⟩ = some (.slice (some ⟨pb', 0, none⟩) (L.length + 1) pc') := by have := m3.box.cell 0; rwa [List.length_append, lp] at this
  have M3 := Lib.hid m3
  have K3 := Lib.hid k3
  have N3 := Lib.hid n3
  clear m3 k3 n3
  have hwr : wrap64 ((L.length : Int) + 1 - 1) = L.length := by unfold wrap64; omega
  go_wp2
  go_ret2
  have z1 := K1.out.size
  have z2 := K2.out.size
  refine ⟨?_, ⟨R.r, pb', pc', ab', ac', lb', lc'⟩, rfl, RM.tree (by simpa [ints, askVs, askB] using M3.out), ?_, ?_⟩
  · first
      | rfl
      | exact ret_tup (int_eq (by omega)) rfl
  · have k12 := K1.out.trans K2.out (fun q hq e => (N1.out q e).elim id (fun h => by omega))
    exact k12.trans K3.out (fun q hq e => (N2.out q e).elim (fun e' => (N1.out q e').elim id (fun h => by omega)) (fun h => by omega))
  · intro q e
    rcases N3.out q e with e | h
    · rcases N2.out q e with e | h
      · exact N1.out q e
      · right; omega
    · right; omega
end
end Go.Proofs.Ytkdpckoneohjkaa
