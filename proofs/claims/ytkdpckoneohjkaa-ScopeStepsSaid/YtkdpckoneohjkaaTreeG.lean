/-
  WHAT IS PROVED HERE: the contract of Look.Step that does an operation, and of one that is refused. Conditions: as in the contracts.
-/
import Derived.Test.YtkdpckoneohjkaaTreeF
import Derived.Deep.RegionLaw
namespace Go.Proofs.Ytkdpckoneohjkaa
open Go.RowKit

theorem parOf_sc {l : List Sc} {s : Nat} {n : Sc} (hn : l[s]? = some n) : parOf (scN l) s = n.par := by
  have hl := sc_lt hn
  unfold parOf
  rw [if_pos (by rw [length_scN]; omega), Int.toNat_natCast, List.getElem?_eq_getElem (by rw [length_scN]; exact hl)]
  simp only [Option.map_some, Option.getD_some, get_scN, (List.getElem?_eq_some_iff.1 hn).2]

section
variable {W0 w : World} {mb : MB} {p g : Nat} {size : Int} {steps : List Int} {l : List Sc}
set_option maxRecDepth 20000 in
set_option maxHeartbeats 2000000 in
theorem sw_step_ok (h : SW W0 w mb p g size steps l) (i : Int) (h0 : 0 ≤ i) (h1 : i < steps.length) (k : Nat) (s : Nat) (n : Sc) (is0 : Bool) (hL : Lk w k p s false is0) (hk : ¬ hasSW mb p g k) (hW0 : W0.heap.size ≤ k) (hn : l[s]? = some n)
    (is dn : Bool) (his : is = decide (¬ n.ask = 0)) (hdn : dn = (is || decide (s = 0))) :
    Calls Try.prog 30 #[.pointer (some ⟨k, 0, none⟩), .pointer (some ⟨mb.p, 0, none⟩), .int .i64 i] w fun e w' =>
      e = .returned (.tuple #[.bool dn, .bool is, .int .i64 0]) ∧ SW W0 w' mb p g size (stepUp steps i) l ∧ Lk w' k p n.par dn is ∧ Kept (fun q => mb.has q ∨ q = k) w w' := by
  have c0 := hL.cell
  have hnm : ¬ mb.has k := fun e => hk (.inl e)
  have hHK := Lib.hid hk
  have hW0k := Lib.hid hW0
  have hHN := Lib.hid hn
  have hHI := Lib.hid his
  have hHD := Lib.hid hdn
  have HL0 := Lib.hid hL
  have hH := Lib.hid h
  have hkw : k < w.heap.size := hL.lt
  clear hW0 hk hn his hdn hL h
  go_enter Try.func30, Try.ntmps30
  go_wp2_with fail
  go_region_held3 (fun w' => ∀ j, w'.cell? ⟨k, j, none⟩ = [Value.pointer (some ⟨p, 0, none⟩), .int .i64 s, .bool false, .bool is0][j]?) (first | exact c0 | exact c2) (first | (go_at_call 50; refine (sw_asked_ok hH.out.drew i h0 h1 s n hHN.out).mono ?_; rw [← hHI.out]; rintro e w2 ⟨rfl, h2, hk2⟩; have c2 : ∀ j, w2.cell? ⟨k, j, none⟩ = [Value.pointer (some ⟨p, 0, none⟩), .int .i64 s, .bool false, .bool is0][j]? := (HL0.out.drew.kept hk2 hnm).cell))
  have HL2 := Lib.hid (HL0.out.drew.kept hk2 hnm)
  have f2 := HL2.out.frozen
  cases is with
  | true =>
    obtain rfl : dn = true := by rw [hHD.out]; rfl
    have B3 : Blk ((w2.setCell ⟨k, 3, none⟩ (.bool true)).setCell ⟨k, 2, none⟩ (.bool true)) k 110 [.pointer (some ⟨p, 0, none⟩), .int .i64 s, .bool true, .bool true] := (HL2.out.set 3 (.bool true)).set 2 (.bool true)
    have hk3 : Kept (fun q => q = k) w2 ((w2.setCell ⟨k, 3, none⟩ (.bool true)).setCell ⟨k, 2, none⟩ (.bool true)) := ((Kept.refl (fun q => q = k) w2).setCell (p := ⟨k, 3, none⟩) (.inl rfl) _).setCell (p := ⟨k, 2, none⟩) (.inl rfl) _
    go_wp2_with fail
    clear c2
    obtain ⟨w3, hw3⟩ : ∃ w3, (w2.setCell ⟨k, 3, none⟩ (.bool true)).setCell ⟨k, 2, none⟩ (.bool true) = w3 := ⟨_, rfl⟩
    rw [hw3] at B3 hk3 ⊢
    have HW3 := Lib.hid hw3
    clear hw3
    have HK3 := Lib.hid hk3
    have H3 : SW W0 w3 mb p g size (stepUp steps i) l := h2.kept hk3 (fun q e e' => hHK.out (e' ▸ e)) (h2.bel.trans (hk3.below h2.bel.size (fun q e => by rw [e]; exact hW0k.out)))
    have c3 := B3.cell
    have f3 := B3.frozen
    have hB3 := Lib.hid B3
    clear B3
    go_region_law (first | (go_simp; go_at_call 36; refine (parent_any p g (scN l) s _ H3.drew.t).mono ?_; rw [parOf_sc hHN.out]; rintro e w4 ⟨rfl, hk4⟩; have c4 := (hB3.out.drew.below hk4 hB3.out.drew.lt).cell; have f4 := (hB3.out.drew.below hk4 hB3.out.drew.lt).frozen))
    all_goals
      have B5 := ((hB3.out.drew.below hk4 hB3.out.drew.lt).set 1 (.int .i64 n.par))
      have hk5 : Kept (fun q => q = k) w3 (w4.setCell ⟨k, 1, none⟩ (.int .i64 n.par)) := (Kept.of_below (S := fun q => q = k) (Below.mono hk4 (Nat.le_refl _)) |> fun h => ((Kept.refl (fun q => q = k) w3).drew.trans h (fun _ _ e => e)).setCell (p := ⟨k, 1, none⟩) (.inl rfl) _)
      clear c4 f4 c3 f3
      obtain ⟨w5, hw5⟩ : ∃ w5, w4.setCell ⟨k, 1, none⟩ (.int .i64 n.par) = w5 := ⟨_, rfl⟩
      rw [hw5] at B5 hk5 ⊢
      have HW5 := Lib.hid hw5
      clear hw5
      have H5 : SW W0 w5 mb p g size (stepUp steps i) l := H3.kept hk5 (fun q e e' => hHK.out (e' ▸ e)) (H3.bel.trans (hk5.below H3.bel.size (fun q e => by rw [e]; exact hW0k.out)))
      have hkk : Kept (fun q => mb.has q ∨ q = k) w w5 := (((Kept.refl _ w).drew.trans hk2 (fun _ _ e => .inl e)).trans HK3.out (fun _ _ e => .inr e)).trans hk5 (fun _ _ e => .inr e)
      have c5 := B5.cell
      have HB5 := Lib.hid B5
      have HH5 := Lib.hid H5
      have HKK := Lib.hid hkk
      clear B5 H5 hkk hk5 H3
      go_wp2_with fail
      go_quiet (fail)
      go_wp2
      go_ret3
      exact ⟨rfl, HH5.out.drewN _, HB5.out, HKK.out.drewN _⟩
  | false =>
    by_cases hs0 : s = 0
    · obtain rfl : dn = true := by rw [hHD.out]; simp [hs0]
      have hz1 : ((s : Int) == 0) = true := by simp [hs0]
      have hz2 : decide ((s : Int) = 0) = true := by simp [hs0]
      have HS0 := Lib.hid hs0
      clear hs0
      have B3 : Blk ((w2.setCell ⟨k, 3, none⟩ (.bool false)).setCell ⟨k, 2, none⟩ (.bool true)) k 110 [.pointer (some ⟨p, 0, none⟩), .int .i64 s, .bool true, .bool false] := (HL2.out.set 3 (.bool false)).set 2 (.bool true)
      have hk3 : Kept (fun q => q = k) w2 ((w2.setCell ⟨k, 3, none⟩ (.bool false)).setCell ⟨k, 2, none⟩ (.bool true)) := ((Kept.refl (fun q => q = k) w2).setCell (p := ⟨k, 3, none⟩) (.inl rfl) _).setCell (p := ⟨k, 2, none⟩) (.inl rfl) _
      go_wp2_with fail
      clear c2
      obtain ⟨w3, hw3⟩ : ∃ w3, (w2.setCell ⟨k, 3, none⟩ (.bool false)).setCell ⟨k, 2, none⟩ (.bool true) = w3 := ⟨_, rfl⟩
      rw [hw3] at B3 hk3 ⊢
      have HW3 := Lib.hid hw3
      clear hw3
      have HK3 := Lib.hid hk3
      have H3 : SW W0 w3 mb p g size (stepUp steps i) l := h2.kept hk3 (fun q e e' => hHK.out (e' ▸ e)) (h2.bel.trans (hk3.below h2.bel.size (fun q e => by rw [e]; exact hW0k.out)))
      have c3 := B3.cell
      have f3 := B3.frozen
      have hB3 := Lib.hid B3
      clear B3
      go_region_law (first | (go_simp; go_at_call 36; refine (parent_any p g (scN l) s _ H3.drew.t).mono ?_; rw [parOf_sc hHN.out]; rintro e w4 ⟨rfl, hk4⟩; have c4 := (hB3.out.drew.below hk4 hB3.out.drew.lt).cell; have f4 := (hB3.out.drew.below hk4 hB3.out.drew.lt).frozen))
      all_goals
        have B5 := ((hB3.out.drew.below hk4 hB3.out.drew.lt).set 1 (.int .i64 n.par))
        have hk5 : Kept (fun q => q = k) w3 (w4.setCell ⟨k, 1, none⟩ (.int .i64 n.par)) := (Kept.of_below (S := fun q => q = k) (Below.mono hk4 (Nat.le_refl _)) |> fun h => ((Kept.refl (fun q => q = k) w3).drew.trans h (fun _ _ e => e)).setCell (p := ⟨k, 1, none⟩) (.inl rfl) _)
        clear c4 f4 c3 f3
        obtain ⟨w5, hw5⟩ : ∃ w5, w4.setCell ⟨k, 1, none⟩ (.int .i64 n.par) = w5 := ⟨_, rfl⟩
        rw [hw5] at B5 hk5 ⊢
        have HW5 := Lib.hid hw5
        clear hw5
        have H5 : SW W0 w5 mb p g size (stepUp steps i) l := H3.kept hk5 (fun q e e' => hHK.out (e' ▸ e)) (H3.bel.trans (hk5.below H3.bel.size (fun q e => by rw [e]; exact hW0k.out)))
        have hkk : Kept (fun q => mb.has q ∨ q = k) w w5 := (((Kept.refl _ w).drew.trans hk2 (fun _ _ e => .inl e)).trans HK3.out (fun _ _ e => .inr e)).trans hk5 (fun _ _ e => .inr e)
        have c5 := B5.cell
        have HB5 := Lib.hid B5
        have HH5 := Lib.hid H5
        have HKK := Lib.hid hkk
        clear B5 H5 hkk hk5 H3
        go_wp2_with fail
        go_quiet (fail)
        go_wp2
        go_ret3
        exact ⟨rfl, HH5.out.drewN _, HB5.out, HKK.out.drewN _⟩
    · obtain rfl : dn = false := by rw [hHD.out]; simp [hs0]
      have hz1 : ((s : Int) == 0) = false := by simp [hs0]
      have hz2 : decide ((s : Int) = 0) = false := by simp [hs0]
      have HS0 := Lib.hid hs0
      clear hs0
      have B3 : Blk ((w2.setCell ⟨k, 3, none⟩ (.bool false)).setCell ⟨k, 2, none⟩ (.bool false)) k 110 [.pointer (some ⟨p, 0, none⟩), .int .i64 s, .bool false, .bool false] := (HL2.out.set 3 (.bool false)).set 2 (.bool false)
      have hk3 : Kept (fun q => q = k) w2 ((w2.setCell ⟨k, 3, none⟩ (.bool false)).setCell ⟨k, 2, none⟩ (.bool false)) := ((Kept.refl (fun q => q = k) w2).setCell (p := ⟨k, 3, none⟩) (.inl rfl) _).setCell (p := ⟨k, 2, none⟩) (.inl rfl) _
      go_wp2_with fail
      clear c2
      obtain ⟨w3, hw3⟩ : ∃ w3, (w2.setCell ⟨k, 3, none⟩ (.bool false)).setCell ⟨k, 2, none⟩ (.bool false) = w3 := ⟨_, rfl⟩
      rw [hw3] at B3 hk3 ⊢
      have HW3 := Lib.hid hw3
      clear hw3
      have HK3 := Lib.hid hk3
      have H3 : SW W0 w3 mb p g size (stepUp steps i) l := h2.kept hk3 (fun q e e' => hHK.out (e' ▸ e)) (h2.bel.trans (hk3.below h2.bel.size (fun q e => by rw [e]; exact hW0k.out)))
      have c3 := B3.cell
      have f3 := B3.frozen
      have hB3 := Lib.hid B3
      clear B3
      go_region_law (first | (go_simp; go_at_call 36; refine (parent_any p g (scN l) s _ H3.drew.t).mono ?_; rw [parOf_sc hHN.out]; rintro e w4 ⟨rfl, hk4⟩; have c4 := (hB3.out.drew.below hk4 hB3.out.drew.lt).cell; have f4 := (hB3.out.drew.below hk4 hB3.out.drew.lt).frozen))
      all_goals
        have B5 := ((hB3.out.drew.below hk4 hB3.out.drew.lt).set 1 (.int .i64 n.par))
        have hk5 : Kept (fun q => q = k) w3 (w4.setCell ⟨k, 1, none⟩ (.int .i64 n.par)) := (Kept.of_below (S := fun q => q = k) (Below.mono hk4 (Nat.le_refl _)) |> fun h => ((Kept.refl (fun q => q = k) w3).drew.trans h (fun _ _ e => e)).setCell (p := ⟨k, 1, none⟩) (.inl rfl) _)
        clear c4 f4 c3 f3
        obtain ⟨w5, hw5⟩ : ∃ w5, w4.setCell ⟨k, 1, none⟩ (.int .i64 n.par) = w5 := ⟨_, rfl⟩
        rw [hw5] at B5 hk5 ⊢
        have HW5 := Lib.hid hw5
        clear hw5
        have H5 : SW W0 w5 mb p g size (stepUp steps i) l := H3.kept hk5 (fun q e e' => hHK.out (e' ▸ e)) (H3.bel.trans (hk5.below H3.bel.size (fun q e => by rw [e]; exact hW0k.out)))
        have hkk : Kept (fun q => mb.has q ∨ q = k) w w5 := (((Kept.refl _ w).drew.trans hk2 (fun _ _ e => .inl e)).trans HK3.out (fun _ _ e => .inr e)).trans hk5 (fun _ _ e => .inr e)
        have c5 := B5.cell
        have HB5 := Lib.hid B5
        have HH5 := Lib.hid H5
        have HKK := Lib.hid hkk
        clear B5 H5 hkk hk5 H3
        go_wp2_with fail
        go_quiet (fail)
        go_wp2
        go_ret3
        exact ⟨rfl, HH5.out.drewN _, HB5.out, HKK.out.drewN _⟩
set_option maxRecDepth 20000 in
set_option maxHeartbeats 2000000 in
theorem sw_step_no (h : SW W0 w mb p g size steps l) (i : Int) (h0 : ¬ (0 ≤ i ∧ i < steps.length)) (k : Nat) (s : Nat) (n : Sc) (is0 : Bool) (hL : Lk w k p s false is0) (hk : ¬ hasSW mb p g k) (hn : l[s]? = some n) :
    Calls Try.prog 30 #[.pointer (some ⟨k, 0, none⟩), .pointer (some ⟨mb.p, 0, none⟩), .int .i64 i] w fun e w' =>
      e = .returned (.tuple #[.bool false, .bool false, .int .i64 10]) ∧ SW W0 w' mb p g size steps l ∧ Lk w' k p s false is0 ∧ Kept mb.has w w' := by
  have c0 := hL.cell
  have hnm : ¬ mb.has k := fun e => hk (.inl e)
  have hHN := Lib.hid hn
  have HL0 := Lib.hid hL
  have hH := Lib.hid h
  have hkw : k < w.heap.size := hL.lt
  clear hk hn hL h
  go_enter Try.func30, Try.ntmps30
  go_wp2_with fail
  go_region_held3 (fun w' => ∀ j, w'.cell? ⟨k, j, none⟩ = [Value.pointer (some ⟨p, 0, none⟩), .int .i64 s, .bool false, .bool is0][j]?) (first | exact c0 | exact c2) (first | (go_at_call 50; refine (sw_asked_no hH.out.drew i h0 s n hHN.out).mono ?_; rintro e w2 ⟨rfl, h2, hk2⟩; have c2 : ∀ j, w2.cell? ⟨k, j, none⟩ = [Value.pointer (some ⟨p, 0, none⟩), .int .i64 s, .bool false, .bool is0][j]? := (HL0.out.drew.kept hk2 hnm).cell))
  have HL2 := Lib.hid (HL0.out.drew.kept hk2 hnm)
  have HK2 := Lib.hid ((Kept.refl mb.has w).drew.trans hk2 (fun _ _ e => e))
  have H2 := Lib.hid h2
  clear h2 hk2
  go_wp2
  go_ret3
  exact ⟨rfl, H2.out, HL2.out, HK2.out⟩
end
end Go.Proofs.Ytkdpckoneohjkaa
