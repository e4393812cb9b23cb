/-
  WHAT IS PROVED HERE: contracts of the reference's tree (pelotonref14): New, Is, Parent, Nest, Inside, May. Conditions: the pointer is such a tree's.
-/
import Derived.Test.YtkdpckoneohjkaaGrow
namespace Go.Proofs.Ytkdpckoneohjkaa
open Go.RowKit

theorem Blk.apart {w : World} {a b : Nat} {t u : TypeId} {cs ds : List Value} (h1 : Blk w a t cs) (h2 : Blk w b u ds) (ht : t ≠ u) : a ≠ b := by
  rintro rfl
  have h : some (Obj.cells cs.toArray t (0, 0)) = some (Obj.cells ds.toArray u (0, 0)) := h1.symm.trans h2
  injection h with h
  injection h with _ h
  exact ht h
theorem Rw.apart {w : World} {a b c : Nat} {t u : TypeId} {cs ds : List Value} (h1 : Rw w a c t cs) (h2 : Blk w b u ds) (ht : t ≠ u) : a ≠ b := by
  obtain ⟨_, h, _⟩ := h1
  exact Blk.apart h h2 ht
theorem Rw.apart2 {w : World} {a b c d : Nat} {t u : TypeId} {cs ds : List Value} (h1 : Rw w a c t cs) (h2 : Rw w b d u ds) (ht : t ≠ u) : a ≠ b := by
  obtain ⟨_, h, _⟩ := h2
  exact Rw.apart h1 h ht

/-- Where the reference's tree lies. -/
structure RB where
  r : Nat
  pb : Nat
  pc : Nat
  ab : Nat
  ac : Nat
  lb : Nat
  lc : Nat
def RB.has (R : RB) (k : Nat) : Prop := k = R.r ∨ k = R.pb ∨ k = R.ab ∨ k = R.lb
def askB (n : Sc) : Bool := decide (¬ n.ask = 0)
def askVs (L : List Sc) : List Value := L.map fun n => .bool (askB n)
/-- A reference's tree. -/
structure RT (w : World) (R : RB) (L : List Sc) : Prop where
  box : Blk w R.r 81 [.slice (some ⟨R.pb, 0, none⟩) L.length R.pc, .slice (some ⟨R.ab, 0, none⟩) L.length R.ac, .slice (some ⟨R.lb, 0, none⟩) L.length R.lc]
  rp : Rw w R.pb R.pc 3 (ints (L.map Sc.par))
  ra : Rw w R.ab R.ac 4 (askVs L)
  rl : Rw w R.lb R.lc 2 (ints (L.map Sc.live))
section
variable {w w' : World} {R : RB} {L : List Sc}
theorem RT.kept {S : Nat → Prop} (h : RT w R L) (hk : Kept S w w') (hs : ∀ k, R.has k → ¬ S k) : RT w' R L :=
  ⟨h.box.kept hk (hs _ (.inl rfl)), h.rp.kept hk (hs _ (.inr (.inl rfl))), h.ra.kept hk (hs _ (.inr (.inr (.inl rfl)))), h.rl.kept hk (hs _ (.inr (.inr (.inr rfl))))⟩
theorem RT.lt (h : RT w R L) : ∀ k, R.has k → k < w.heap.size := by
  rintro k (rfl | rfl | rfl | rfl)
  · exact h.box.lt
  · exact h.rp.lt
  · exact h.ra.lt
  · exact h.rl.lt
theorem RT.below (h : RT w R L) (hb : Below w.heap.size w w') : RT w' R L := h.kept (Kept.of_below (S := fun _ => False) hb) (fun _ _ f => f)
theorem RT.cells (h : RT w R L) : w.cell? ⟨R.r, 0, none⟩ = some (.slice (some ⟨R.pb, 0, none⟩) L.length R.pc) ∧ w.cell? ⟨R.r, 1, none⟩ = some (.slice (some ⟨R.ab, 0, none⟩) L.length R.ac) ∧ w.cell? ⟨R.r, 2, none⟩ = some (.slice (some ⟨R.lb, 0, none⟩) L.length R.lc) :=
  ⟨h.box.cell 0, h.box.cell 1, h.box.cell 2⟩
theorem RT.par (h : RT w R L) {q : Nat} {m : Sc} (hm : L[q]? = some m) : w.cell? ⟨R.pb, q, none⟩ = some (.int .i64 m.par) := h.rp.cell (int_row Sc.par hm)

theorem ris_any (h : RT w R L) (s : Int) :
    Calls Try.prog 41 #[.pointer (some ⟨R.r, 0, none⟩), .int .i64 s] w fun e w' => e = .returned (.bool (inT L.length s)) ∧ w = w' := by
  obtain ⟨c0, _, _⟩ := h.cells
  have HM := Lib.hid h.rp.room
  clear h
  by_cases a : 0 ≤ s
  · go_enter Try.func41, Try.ntmps41
    go_wp2
    go_ret
    exact ⟨ret_bool (by simp [inT, a]), by first | trivial | rfl⟩
  · go_enter Try.func41, Try.ntmps41
    go_wp2
    go_ret
    exact ⟨ret_bool (by simp [inT]; omega), by first | trivial | rfl⟩
theorem ris_in (h : RT w R L) {s : Int} {b : Bool} (hb : inT L.length s = b) :
    Calls Try.prog 41 #[.pointer (some ⟨R.r, 0, none⟩), .int .i64 s] w fun e w' => e = .returned (.bool b) ∧ w = w' := by
  rw [← hb]; exact ris_any h s
theorem nestOf_sc {l : List Sc} {s : Nat} {n : Sc} (hn : l[s]? = some n) : nestOf (scN l) s = n.nest := by
  unfold nestOf
  rw [if_pos ⟨by omega, by rw [length_scN]; have := sc_lt hn; omega⟩, Int.toNat_natCast, get_scN' hn]
  rfl
theorem nestOf_out {l : List Sc} {s : Int} (hn : inT l.length s = false) : nestOf (scN l) s = -1 := by
  unfold nestOf
  rw [if_neg]
  rw [length_scN]
  simpa [inT] using hn
theorem parOf_out {l : List Sc} {s : Int} (hn : inT l.length s = false) : parOf (scN l) s = -1 := by
  unfold parOf
  rw [if_neg]
  rw [length_scN]
  simpa [inT] using hn

theorem rpar_any (h : RT w R L) (s : Int) :
    Calls Try.prog 37 #[.pointer (some ⟨R.r, 0, none⟩), .int .i64 s] w fun e w' => e = .returned (.int .i64 (parOf (scN L) s)) ∧ w = w' := by
  have HH := Lib.hid h
  obtain ⟨c0, _, _⟩ := h.cells
  cases hs : inT L.length s with
  | false =>
    rw [parOf_out hs]
    clear h
    go_enter Try.func37, Try.ntmps37
    go_wp2_with (go_at_call 41; refine (ris_in HH.out hs).mono ?_; rintro e w' ⟨rfl, rfl⟩)
    go_ret
    exact ⟨rfl, by first | trivial | rfl⟩
  | true =>
    obtain ⟨q, m, rfl, hm⟩ := inT_get hs
    rw [parOf_sc hm]
    have cp := h.par hm
    have hq := sc_lt hm
    have hr := h.rp.room
    rw [len_row] at hr
    clear h
    go_enter Try.func37, Try.ntmps37
    go_wp2_with (go_at_call 41; refine (ris_in HH.out hs).mono ?_; rintro e w' ⟨rfl, rfl⟩)
    go_ret
    exact ⟨rfl, by first | trivial | rfl⟩

set_option maxHeartbeats 1000000 in
theorem rnest_any (h : RT w R L) (hw : WfS L) (s : Int) :
    Calls Try.prog 38 #[.pointer (some ⟨R.r, 0, none⟩), .int .i64 s] w fun e w' => e = .returned (.int .i64 (nestOf (scN L) s)) ∧ w = w' := by
  have HH := Lib.hid h
  obtain ⟨c0, _, _⟩ := h.cells
  cases hs : inT L.length s with
  | false =>
    rw [nestOf_out hs]
    clear h
    go_enter Try.func38, Try.ntmps38
    go_wp2_with (go_at_call 41; refine (ris_in HH.out hs).mono ?_; rintro e w' ⟨rfl, rfl⟩)
    go_ret
    exact ⟨rfl, by first | trivial | rfl⟩
  | true =>
    obtain ⟨s', n, rfl, hn⟩ := inT_get hs
    rw [nestOf_sc hn]
    have hr := h.rp.room
    rw [len_row] at hr
    have hd := hw.deep s' n hn
    clear h
    go_enter Try.func38, Try.ntmps38
    go_wp2_with (go_at_call 41; refine (ris_in HH.out hs).mono ?_; rintro e w' ⟨rfl, rfl⟩)
    go_loopw [1, 5] (fun x y wr => ∃ (q : Nat) (m : Sc) (k : Int), x = .int .i64 q ∧ y = .int .i64 k ∧ 0 ≤ k ∧ L[q]? = some m ∧ k + m.nest = n.nest ∧ w = wr) (fun x _ _ => (intOf x).toNat)
    case atStart => exact ⟨s', n, 0, rfl, rfl, by omega, hn, by omega, by first | trivial | rfl⟩
    case round =>
      obtain ⟨q, m, k, rfl, rfl, hk0, hm, hk, rfl⟩ := hrel
      have hmd := hw.deep q m hm
      by_cases e : q = 0
      · subst e
        have hz := (hw.zero m hm).2
        have hk' : k = n.nest := by omega
        subst hk'
        clear hk hz
        go_wp2
        go_ret
        exact ⟨rfl, by first | trivial | rfl⟩
      · have cp := HH.out.par hm
        have hq := sc_lt hm
        obtain ⟨q', m', hp, hlt, hm', hne⟩ := hw.up q m hm (by omega)
        rw [hp] at cp
        have hwr : wrap64 (k + 1) = k + 1 := by unfold wrap64; omega
        have HP := Lib.hid hp
        have HN := Lib.hid hne
        clear hp hne
        go_wp2
        go_roundw
        case rel => exact ⟨q', m', k + 1, rfl, rfl, by omega, hm', by have := HN.out; omega, by first | trivial | rfl⟩
        case measure => simp [intOf]; omega
theorem nest_le (hw : WfS L) (s : Int) : -1 ≤ nestOf (scN L) s ∧ nestOf (scN L) s ≤ 32 := by
  cases hs : inT L.length s with
  | false => rw [nestOf_out hs]; omega
  | true =>
    obtain ⟨s', n, rfl, hn⟩ := inT_get hs
    rw [nestOf_sc hn]
    have := hw.deep s' n hn
    omega
set_option maxHeartbeats 1000000 in
theorem rins_any (h : RT w R L) (hw : WfS L) (s o : Int) :
    Calls Try.prog 40 #[.pointer (some ⟨R.r, 0, none⟩), .int .i64 s, .int .i64 o] w fun e w' => e = .returned (.bool (insS L s o)) ∧ w = w' := by
  have HH := Lib.hid h
  obtain ⟨c0, _, _⟩ := h.cells
  have hr := h.rp.room
  rw [len_row] at hr
  clear h
  cases hs : inT L.length s with
  | false =>
    rw [show insS L s o = false by simp [insS, hs]]
    go_enter Try.func40, Try.ntmps40
    go_wp2_with (go_at_call 41; refine (ris_in HH.out hs).mono ?_; rintro e w' ⟨rfl, rfl⟩)
    go_ret
    exact ⟨rfl, by first | trivial | rfl⟩
  | true =>
    cases ho : inT L.length o with
    | false =>
      rw [show insS L s o = false by simp [insS, ho]]
      go_enter Try.func40, Try.ntmps40
      go_wp2_with fail
      refine (ris_in HH.out hs).mono ?_
      rintro e w' ⟨rfl, rfl⟩
      go_wp2_with fail
      refine (ris_in HH.out ho).mono ?_
      rintro e w' ⟨rfl, rfl⟩
      go_wp2
      go_ret
      exact ⟨rfl, by first | trivial | rfl⟩
    | true =>
      rw [show insS L s o = decide (o ∈ outs L s) by simp [insS, hs, ho]]
      obtain ⟨s', n, rfl, hn⟩ := inT_get hs
      obtain ⟨o', n', rfl, hn'⟩ := inT_get ho
      obtain ⟨bv, hbv⟩ : ∃ bv, decide ((o' : Int) ∈ outs L s') = bv := ⟨_, rfl⟩
      rw [hbv]
      have HB := Lib.hid hbv
      clear hbv
      go_enter Try.func40, Try.ntmps40
      go_wp2_with fail
      refine (ris_in HH.out hs).mono ?_
      rintro e w' ⟨rfl, rfl⟩
      go_wp2_with fail
      refine (ris_in HH.out ho).mono ?_
      rintro e w' ⟨rfl, rfl⟩
      go_wp2
      go_loopw [1] (fun x wr => ∃ (q : Nat) (m : Sc), x = .int .i64 q ∧ L[q]? = some m ∧ Hid ((o' : Int) ∈ outs L s' ↔ (o' : Int) ∈ outs L q) ∧ w = wr) (fun x _ => (intOf x).toNat)
      case atStart => exact ⟨s', n, rfl, hn, Lib.hid Iff.rfl, by first | trivial | rfl⟩
      case round =>
        obtain ⟨q, m, rfl, hm, HI, rfl⟩ := hrel
        have hq := sc_lt hm
        by_cases e : q = o'
        · have hin : decide ((o' : Int) ∈ outs L s') = true := by rw [decide_eq_true_iff, HI.out, e, hw.outs_eq (e ▸ hm)]; simp
          have hyy : ((q : Int) == (o' : Int)) = true := by simp [e]
          have hxx : ((q : Int) != (o' : Int)) = false := by simp [e]
          have HI2 := Lib.hid (HB.out.symm.trans hin)
          clear hin
          go_wp2
          go_ret
          exact ⟨ret_bool (by first | exact HI2.out.symm | (rw [hxx]; exact HI2.out.symm) | (rw [hyy]; exact HI2.out.symm)), by first | trivial | rfl⟩
        · have hxx : ((q : Int) == (o' : Int)) = false := by simp; omega
          have hx2 : ((q : Int) != (o' : Int)) = true := by simp; omega
          by_cases e0 : q = 0
          · have hin : decide ((o' : Int) ∈ outs L s') = false := by
              rw [decide_eq_false_iff_not, HI.out, e0, show ((0 : Nat) : Int) = 0 from rfl, hw.outs_zero]
              intro h
              rw [List.mem_singleton] at h
              omega
            have HI2 := Lib.hid (HB.out.symm.trans hin)
            have hz : ((q : Int) != 0) = false := by simp [e0]
            have hxz : ((0 : Int) == (o' : Int)) = false := by simp; omega
            clear e0
            clear hin
            go_wp2
            go_ret
            exact ⟨ret_bool (by first | exact HI2.out.symm | (rw [hxx]; exact HI2.out.symm) | (rw [hyy]; exact HI2.out.symm)), by first | trivial | rfl⟩
          · have cp := HH.out.par hm
            obtain ⟨q', m', hp, hlt, hm', hne⟩ := hw.up q m hm (by omega)
            have hi' : (o' : Int) ∈ outs L q ↔ (o' : Int) ∈ outs L q' := by
              rw [hw.outs_eq hm, hp, List.mem_cons]
              have : ¬ (o' : Int) = (q : Int) := by omega
              simp [this]
            rw [hp] at cp
            have HP := Lib.hid hp
            have HJ := Lib.hid hi'
            have hz : ((q : Int) != 0) = true := by simp; omega
            clear hp hne hi'
            go_wp2
            go_roundw
            case rel => exact ⟨q', m', rfl, hm', Lib.hid (HI.out.trans HJ.out), by first | trivial | rfl⟩
            case measure => simp [intOf]; omega
/-- What May tells. -/
def mayC (L : List Sc) (i most s : Int) : Int := if inT L.length s = false then 17 else if i < 0 ∨ most < i then 10 else 0
theorem rmay_any (h : RT w R L) (i most s : Int) :
    Calls Try.prog 42 #[.pointer (some ⟨R.r, 0, none⟩), .int .i64 i, .int .i64 most, .int .i64 s] w fun e w' => e = .returned (.int .i64 (mayC L i most s)) ∧ w = w' := by
  unfold mayC
  have HH := Lib.hid h
  clear h
  cases hs : inT L.length s with
  | false =>
    rw [if_pos rfl]
    go_enter Try.func42, Try.ntmps42
    go_wp2_with (go_at_call 41; refine (ris_in HH.out hs).mono ?_; rintro e w' ⟨rfl, rfl⟩)
    go_ret
    exact ⟨rfl, by first | trivial | rfl⟩
  | true =>
    rw [if_neg (by simp)]
    by_cases a : i < 0
    · rw [if_pos (.inl a)]
      go_enter Try.func42, Try.ntmps42
      go_wp2_with (go_at_call 41; refine (ris_in HH.out hs).mono ?_; rintro e w' ⟨rfl, rfl⟩)
      go_ret
      exact ⟨rfl, by first | trivial | rfl⟩
    · by_cases b : most < i
      · rw [if_pos (.inr b)]
        go_enter Try.func42, Try.ntmps42
        go_wp2_with (go_at_call 41; refine (ris_in HH.out hs).mono ?_; rintro e w' ⟨rfl, rfl⟩)
        go_ret
        exact ⟨rfl, by first | trivial | rfl⟩
      · rw [if_neg (by omega)]
        go_enter Try.func42, Try.ntmps42
        go_wp2_with (go_at_call 41; refine (ris_in HH.out hs).mono ?_; rintro e w' ⟨rfl, rfl⟩)
        go_ret
        exact ⟨rfl, by first | trivial | rfl⟩
end
end Go.Proofs.Ytkdpckoneohjkaa
