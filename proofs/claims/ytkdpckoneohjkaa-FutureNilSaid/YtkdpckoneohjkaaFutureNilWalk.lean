/-
  WHAT IS PROVED HERE: the walk of the law pelotonlaw15.FutureNil: it returns true, and what was there before the call stays. Conditions: the arguments are 64-bit numbers.
-/
import Derived.Test.YtkdpckoneohjkaaFutNil
import Derived.Test.YtkdpckoneohjkaaArgs
import Derived.Outline
namespace Go.Proofs.Ytkdpckoneohjkaa
open Go.RowKit

theorem pick_eight (v : Int) : ∃ r : Int, 0 ≤ r ∧ r ≤ 7 ∧ (wrap64 (v.tmod 8 + 8)).tmod 8 = r := by
  have h1 := Int.tmod_lt_of_pos v (show (0 : Int) < 8 by omega)
  have h2 := Int.lt_tmod_of_pos v (show (0 : Int) < 8 by omega)
  have e : wrap64 (v.tmod 8 + 8) = v.tmod 8 + 8 := by unfold wrap64; omega
  rw [e]
  obtain ⟨u, hu⟩ := Int.eq_ofNat_of_zero_le (show 0 ≤ v.tmod 8 + 8 by omega)
  rw [hu]
  exact ⟨((u % 8 : Nat) : Int), by omega, by have := Nat.mod_lt u (show 0 < 8 by omega); omega, rfl⟩

theorem fresh_steps0 (size : Int) (k : Nat) (i : Int) : (MS.fresh size k).stepsOf i = 0 := by
  unfold MS.stepsOf
  split
  · simp only [MS.fresh, List.getElem?_replicate]
    split <;> rfl
  · rfl
theorem steps0 (mb : MB) (size : Int) (k : Nat) (i : Int) (w : World) (hm : MachP w mb (MS.fresh size k)) :
    Calls Try.prog 25 #[.pointer (some ⟨mb.p, 0, none⟩), .int .i64 i] w fun e w' => e = .returned (.int .i64 0) ∧ w = w' := by
  have := steps_any mb (MS.fresh size k) i w hm
  rwa [fresh_steps0] at this

set_option maxRecDepth 100000 in
set_option maxHeartbeats 2000000 in
theorem futnil_any (W : World) (at_ z0 z1 z2 z3 : Int) :
    Calls Try.prog 5 #[.int .i64 at_, .agg #[.int .i64 z0, .int .i64 z1, .int .i64 z2, .int .i64 z3]] W fun e w' => e = .returned (.bool true) ∧ Below W.heap.size W w' := by
  have q0 : Blk ((W.alloc (.cells #[.int .i64 z0, .int .i64 z1, .int .i64 z2, .int .i64 z3] 48)).alloc (.cells #[.int .i64 at_] 30)) W.heap.size 48 [.int .i64 z0, .int .i64 z1, .int .i64 z2, .int .i64 z3] := (Blk.new W _ _).alloc _
  have q1 : Blk ((W.alloc (.cells #[.int .i64 z0, .int .i64 z1, .int .i64 z2, .int .i64 z3] 48)).alloc (.cells #[.int .i64 at_] 30)) (W.heap.size + 1) 30 [.int .i64 at_] := by
    have := Blk.new (W.alloc (.cells #[.int .i64 z0, .int .i64 z1, .int .i64 z2, .int .i64 z3] 48)) 30 [.int .i64 at_]
    rwa [World.size_alloc] at this
  have bel : Below W.heap.size W ((W.alloc (.cells #[.int .i64 z0, .int .i64 z1, .int .i64 z2, .int .i64 z3] 48)).alloc (.cells #[.int .i64 at_] 30)) := ((Below.refl _ W).alloc (Nat.le_refl _) _).alloc (by simp) _
  obtain ⟨r, r0, r7, hr⟩ := pick_eight z1
  have HR := Lib.hid hr
  clear hr
  go_enter Try.func5, Try.ntmps5
  go_wp2_with fail
  rw [HR.out]
  refine (n_do (.inl ⟨rfl, rfl⟩) at_ r z2 z3 r0 r7).mono ?_
  rintro e w1 ⟨rfl, hb⟩
  have q0a := q0.below hb q0.lt
  have q1a := q1.below hb q1.lt
  have bela := bel.trans (hb.mono bel.size)
  have c0 := q0a.cell
  have c1 := q1a.cell
  clear q0 q1 bel hb
  go_wp2_with fail
  refine (n_fpeek (m := none) (er := 2) (.inl ⟨rfl, rfl⟩) at_).mono ?_
  rintro e w2 ⟨rfl, hb⟩
  have q0 := q0a.below hb q0a.lt
  have q1 := q1a.below hb q1a.lt
  have bel := bela.trans (hb.mono bela.size)
  have d0 := q0.cell
  have d1 := q1.cell
  clear q0a q1a bela hb c0 c1
  go_wp2_with fail
  refine (n_fnew z2 _).mono ?_
  rintro e w3 ⟨rfl, hb⟩
  have hb' : Below w2.heap.size w2 (w3.alloc (.cells #[.int .i64 0] 30)) := hb.alloc hb.size _
  have qn : Blk (w3.alloc (.cells #[.int .i64 0] 30)) w3.heap.size 30 [.int .i64 0] := Blk.new w3 _ _
  have q0a := q0.below hb' q0.lt
  have q1a := q1.below hb' q1.lt
  have bela := bel.trans (hb'.mono bel.size)
  have cn := qn.cell
  clear q0 q1 bel hb hb' d0 d1
  go_wp2_with fail
  refine (new_ok 20 4 _ (by omega) (by omega) (by omega) (by omega)).mono ?_
  rintro e w4 ⟨p, s, rfl, hm, hk, hp, hs⟩
  have hb := hk.below (Nat.le_refl _) (fun _ h => h.elim)
  have q0 := q0a.below hb q0a.lt
  have q1 := q1a.below hb q1a.lt
  have bel := bela.trans (hb.mono bela.size)
  have d0 := q0.cell
  have d1 := q1.cell
  have hN : NoM (some ⟨p, 0, none⟩) 10 w4 := .inr ⟨⟨p, p, s⟩, _, rfl, rfl, hm, rfl⟩
  clear q0a q1a bela hb hk hp hs cn qn
  go_wp2_with fail
  refine (n_do hN at_ r z2 z3 r0 r7).mono ?_
  rintro e w5 ⟨rfl, hb⟩
  have q1a := q1.below hb q1.lt
  have bela := bel.trans (hb.mono bel.size)
  have hNa := hN.below hb
  have hma := hm.kept (Kept.of_below (S := fun _ => False) hb) (fun _ _ f => f)
  have c1 := q1a.cell
  clear q0 q1 bel hb d0 d1
  go_wp2_with fail
  refine (n_fpeek hNa at_).mono ?_
  rintro e w6 ⟨rfl, hb⟩
  have bel := bela.trans (hb.mono bela.size)
  have hm6 := hma.kept (Kept.of_below (S := fun _ => False) hb) (fun _ _ f => f)
  clear q1a bela hNa hma hm hN hb c1
  go_wp2_with (first | (go_at_call 25; refine (steps0 ⟨p, p, s⟩ 20 4 _ _ hm6).mono ?_; rintro e w7 ⟨rfl, rfl⟩) | (go_at_call 14; refine (awake15_any _).mono ?_; rintro e w7 ⟨rfl, hb7⟩))
  go_ret
  exact ⟨rfl, bel.trans (hb7.mono bel.size)⟩

theorem arr4 {zs : List Int} (h : zs.length = 4) : ∃ a b c d, zs = [a, b, c, d] := by
  match zs, h with
  | [a, b, c, d], _ => exact ⟨a, b, c, d, rfl⟩
theorem futureNil_walk (W : World) (at_ : Int) (_w0 : (Lit.int .i64 at_).wf = true) (zs : List Int) (hl : zs.length = 4) (_w1 : ∀ z ∈ zs, (Lit.int .i64 z).wf = true) :
    Calls Try.prog 5 #[.int .i64 at_, .agg (zs.map (Value.int .i64)).toArray] W fun e w' => e = .returned (.bool true) ∧ Below W.heap.size W w' := by
  obtain ⟨a, b, c, d, rfl⟩ := arr4 hl
  exact futnil_any W at_ a b c d

end Go.Proofs.Ytkdpckoneohjkaa
