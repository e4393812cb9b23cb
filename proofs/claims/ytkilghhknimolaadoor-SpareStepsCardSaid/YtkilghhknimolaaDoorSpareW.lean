/-
  WHAT IS PROVED HERE: a step of an operation and the reference's, side by side, over what the law SpareSteps keeps. Conditions: as in the contracts.
-/
import Derived.Test.YtkilghhknimolaaDoorSpareV
namespace Go.Proofs.YtkilghhknimolaaDoor
open Go.RowKit

theorem set_same {α : Type} {l : List α} {i : Nat} {a : α} (h : l[i]? = some a) : l.set i a = l := by
  refine List.ext_getElem? fun j => ?_
  rw [List.getElem?_set]
  split
  · rename_i e
    subst e
    rw [h]
    split
    · rfl
    · rename_i hn
      rw [List.getElem?_eq_none (by omega)] at h
      cases h
  · rfl
/-- What both steps come to. -/
structure Both (W w : World) (mb : MB) (b m : Nat) (l : List Int) (wt : Int) (bl : List BB) (ops : List (Option (Nat × OS))) (r o x rB idx kd : Nat) (sf i : Int) (dn op : Bool) (er : Int) (l' : List Int) (wt' : Int) (L' : List Bool) (q' : OS) : Prop where
  ere : er = 0 ∨ er = 10
  dne : dn = ((er == 0) && (q'.ph == 0))
  yes : op = true → l' = dl l i ∧ 0 ≤ i ∧ i ≤ 3
  no : op = false → l' = l
  wte : -1 ≤ wt' - wt ∧ wt' - wt ≤ 1
  one : Calls Tryd.prog 25 #[.pointer (some ⟨o, 0, none⟩), .pointer (some ⟨mb.p, 0, none⟩), .int .i64 i] w fun e w' => e = .returned (.tuple #[.bool dn, .int .i64 er]) ∧ El W w' mb b m l' wt' L' (ops.set r (some (o, q'))) bl
  two : ∀ w2, El W w2 mb b m l' wt' L' (ops.set r (some (o, q'))) bl → Calls Tryd.prog 37 #[.pointer (some ⟨x, 0, none⟩), .pointer (some ⟨rB, 0, none⟩), .int .i64 i, .int .i64 3] w2 fun e w' => e = .returned (.tuple #[.bool op, .int .i64 er]) ∧
    ∃ se' nx' n' on' mv' : Int, RelQ b m kd sf q' se' nx' n' on' mv' ∧ El W w' mb b m l' wt' L' (ops.set r (some (o, q'))) ((bl.set 1 (rB, 61, [.int .i64 wt', .int .i64 (bitsNat L' : Nat), .int .i64 b, .int .i64 m])).set (idx + 4) (x, 66, rcells kd se' nx' n' on' mv'))
theorem both {W w : World} {mb : MB} {b m : Nat} {l : List Int} {wt : Int} {L : List Bool} {ops : List (Option (Nat × OS))} {refs : List (Option (Nat × Nat))} {bl xs : List BB} {r o x rB idx kd : Nat} {q : OS} {sf se nx n on mv : Int}
    (h : El W w mb b m l wt L ops bl) (hd : StD b m ops refs xs r o q idx x kd sf se nx n on mv) (h3 : bl[1]? = some (rB, 61, [.int .i64 wt, .int .i64 (bitsNat L : Nat), .int .i64 b, .int .i64 m])) (hx : bl[idx + 4]? = some (x, 66, rcells kd se nx n on mv)) (hw : -900 ≤ wt ∧ wt ≤ 900) (i : Int) :
    ∃ dn op er l' wt' L' q', Both W w mb b m l wt bl ops r o x rB idx kd sf i dn op er l' wt' L' q' := by
  have hn := h.nums
  have hne : rB ≠ x := fun e => h.dist 1 (idx + 4) rB _ _ _ _ (by omega) h3 (by rw [e]; exact hx)
  by_cases hp : q.ph = 0
  · have hnx := hd.rel.nx
    rw [hp] at hnx
    have hnx0 : nx = 0 := by simpa using hnx
    have e1 := set_same hd.op
    have e2 := set_same h3
    have e3 := set_same hx
    refine ⟨true, false, 0, l, wt, L, q, .inl rfl, by rw [hp]; rfl, (fun e => by cases e), (fun _ => rfl), by omega, ?_, fun w2 h2 => ?_⟩
    · refine (h.step_end hd.op hp i).mono ?_
      rintro e w' ⟨he, hw'⟩
      exact ⟨he, by rw [e1]; exact hw'⟩
    · have hx2 := h2.blt hx
      unfold rcells at hx2
      rw [hnx0] at hx2
      refine (rstep_end (h2.blt h3) hx2 i).mono ?_
      rintro e w' ⟨he, rfl⟩
      exact ⟨he, se, nx, n, on, mv, hd.rel, by rw [e2, e3]; exact h2⟩
  · have hO : OpI b m kd sf q := by
      rcases hd.rel.at_ with ⟨_, h2⟩ | ⟨h1, _⟩
      · exact absurd h2 hp
      · exact h1
    have hok := hO.ok hn.2.2 wt (bitsNat L : Nat)
    have hnx : (nx == 0) = false := by rw [hd.rel.nx]; simpa using hp
    by_cases hi : 0 ≤ i ∧ i ≤ 3
    · obtain ⟨wt', L', q', hst, hwt, hL', _⟩ := rs_ok (h.blt h3) (h.blt hx) hne hd.rel hp hn.2.2 h.inl hw i hi
      have hdw : -1 ≤ dwt q.ph ∧ dwt q.ph ≤ 1 := by unfold dwt; split; omega; split <;> omega
      refine ⟨(q'.ph == 0), true, 0, dl l i, wt', L', q', .inl rfl, by simp, (fun _ => ⟨rfl, hi⟩), (fun e => by cases e), by omega, ?_, fun w2 h2 => ?_⟩
      · exact h.step hd.op hok hst hL' i (by omega) _ rfl
      · obtain ⟨wt2, L2, q2, hst2, _, _, hc⟩ := rs_ok (h2.blt h3) (h2.blt hx) hne hd.rel hp hn.2.2 h.inl hw i hi
        have heq := hst.symm.trans hst2
        have f1 := congrArg PS.wt heq
        have f2 := congrArg PS.on heq
        have f3 := congrArg PS.q heq
        dsimp only at f1 f2 f3
        subst f1 f3
        refine hc.mono ?_
        rintro e w' ⟨he, se', nx', n', on', mv', g1, g2, g3, g4⟩
        rw [← f2] at g1
        exact ⟨he, se', nx', n', on', mv', g3, h2.two 1 (idx + 4) (by omega) h3 hx g4 g1 g2⟩
    · have e1 : ∀ w', El W w' mb b m l wt L (ops.set r (some (o, q))) bl → El W w' mb b m l wt L (ops.set r (some (o, q))) bl := fun _ x => x
      refine ⟨false, false, 10, l, wt, L, q, .inr rfl, by rfl, (fun e => by cases e), (fun _ => rfl), by omega, ?_, fun w2 h2 => ?_⟩
      · exact h.step_no hd.op hok i (by omega)
      · refine (rstep_no (h2.blt h3) (h2.blt hx) hnx i hi).mono ?_
        rintro e w' ⟨he, rfl⟩
        exact ⟨he, se, nx, n, on, mv, hd.rel, by rw [set_same h3, set_same hx]; exact h2⟩
end Go.Proofs.YtkilghhknimolaaDoor
