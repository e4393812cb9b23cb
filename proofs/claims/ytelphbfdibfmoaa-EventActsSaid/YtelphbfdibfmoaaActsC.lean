/-
  WHAT IS PROVED HERE: how EventActs' state goes on by each act, and the contract of three callers' steps; small facts for the walk.
-/
import Derived.Test.YtelphbfdibfmoaaActsB
namespace Go.Proofs.Ytelphbfdibfmoaa
open Go.RowKit

theorem pick_three (v : Int) : ∃ r : Nat, r < 3 ∧ (wrap64 (v.tmod 3 + 3)).tmod 3 = (r : Int) := by
  have h1 := Int.tmod_lt_of_pos v (show (0 : Int) < 3 by omega)
  have h2 := Int.lt_tmod_of_pos v (show (0 : Int) < 3 by omega)
  have e : wrap64 (v.tmod 3 + 3) = v.tmod 3 + 3 := by unfold wrap64; omega
  rw [e]
  obtain ⟨u, hu⟩ := Int.eq_ofNat_of_zero_le (show 0 ≤ v.tmod 3 + 3 by omega)
  rw [hu]
  exact ⟨u % 3, Nat.mod_lt _ (by omega), rfl⟩
theorem upd_eq {f g : Nat → Int} (h : ∀ j, j < 3 → f j = g j) (i : Nat) (v : Int) : ∀ j, j < 3 → upd f i v j = upd g i v j := fun j hj => by
  unfold upd; split
  · rfl
  · exact h j hj

def OutR (i : Int) (x : Value) : Prop := (okW i ∧ x = .bool false) ∨ (¬ okW i ∧ x = .bool true)
def WantR (i : Int) (x : Int) : Prop := (okW i ∧ x = 0) ∨ (¬ okW i ∧ x = 10)
/-- Behind the act: whether it was an operation, and the state. -/
def ActR (W0 : World) (f : Nat → Nat) (q : AS) (k : Nat) (x : Value) (wc : World) : Prop := ∃ (b : Bool) (q' : AS), x = .bool b ∧ AcW W0 wc f q' ∧ AOk q' (k + 1) ∧ q'.did = q.did + (if b then 1 else 0)
theorem AOk.start : AOk ⟨[0, 0, 0], [0, 0, 0], fun _ => 0, fun _ => 0, fun _ => 0, fun _ => 0, 3⟩ 0 := by
  refine ⟨rfl, rfl, fun _ _ => rfl, fun _ _ => rfl, fun j hj => ?_, by simp⟩
  have : j = 0 ∨ j = 1 ∨ j = 2 := by omega
  rcases this with rfl | rfl | rfl <;> simp
theorem AOk.read {q : AS} {k : Nat} (h : AOk q k) : AOk { q with did := q.did + 1 } (k + 1) :=
  ⟨h.len, h.mc, h.rh, h.rs, fun j hj => by have := h.told j hj; constructor <;> (show _; push_cast; omega), by have := h.did; show 0 ≤ q.did + 1 ∧ q.did + 1 ≤ _; omega⟩
theorem AOk.tell {q : AS} {k : Nat} (h : AOk q k) {j : Nat} (hj : j < 3) (v : Int) (hv : q.told.getD j 0 = v) : AOk { q with mc := q.mc.set j (v + 1), did := q.did + 1, told := q.told.set j (v + 1) } (k + 1) := by
  refine ⟨by simpa using h.len, ?_, h.rh, h.rs, fun i hi => ?_, by have := h.did; show 0 ≤ q.did + 1 ∧ q.did + 1 ≤ _; omega⟩
  · show q.mc.set j (v + 1) = q.told.set j (v + 1); rw [h.mc]
  · show 0 ≤ (q.told.set j (v + 1)).getD i 0 ∧ (q.told.set j (v + 1)).getD i 0 ≤ _
    rw [getD_set (by rw [h.len]; exact hj)]
    have h1 := h.told i hi
    have h2 := h.told j hj
    rw [hv] at h2
    split <;> omega
theorem AOk.ready {q : AS} {k : Nat} (h : AOk q k) (j : Nat) (a v : Int) : AOk { q with hw := upd q.hw j a, sn := upd q.sn j v, did := q.did + 1, rh := upd q.rh j a, rs := upd q.rs j v } (k + 1) :=
  ⟨h.len, h.mc, upd_eq h.rh j a, upd_eq h.rs j v, fun j hj => by have := h.told j hj; show 0 ≤ q.told.getD j 0 ∧ q.told.getD j 0 ≤ _; omega, by have := h.did; show 0 ≤ q.did + 1 ∧ q.did + 1 ≤ _; omega⟩
theorem AOk.turn {q : AS} {k : Nat} (h : AOk q k) (j : Nat) (a : Int) : AOk { q with hw := upd q.hw j a, sn := upd q.sn j (q.sn j), rh := upd q.rh j a, rs := upd q.rs j (q.rs j) } (k + 1) :=
  ⟨h.len, h.mc, upd_eq h.rh j a, fun i hi => by
    show upd q.rs j (q.rs j) i = upd q.sn j (q.sn j) i
    rw [upd_self, upd_self]; exact h.rs i hi, fun j hj => by have := h.told j hj; show 0 ≤ q.told.getD j 0 ∧ q.told.getD j 0 ≤ _; omega, by have := h.did; show 0 ≤ q.did ∧ q.did ≤ _; omega⟩

section
variable {W0 w : World} {f : Nat → Nat} {q : AS}
/-- The three callers' steps, as three numbers. -/
theorem AcW.three (h : AcW W0 w f q) : ∃ a0 a1 a2 : Int, 0 ≤ a0 ∧ 0 ≤ a1 ∧ 0 ≤ a2 ∧ a0 + a1 + a2 ≤ q.did ∧ q.did ≤ a0 + a1 + a2 ∧
    ∀ i a, ((i = 0 ∧ a = a0) ∨ (i = 1 ∧ a = a1) ∨ (i = 2 ∧ a = a2)) → Calls Try.prog 23 #[.pointer (some ⟨f 0, 0, none⟩), .int .i64 i] w fun e w' => e = .returned (.int .i64 a) ∧ w = w' := by
  obtain ⟨st, hm, hs⟩ := h.st
  obtain ⟨_, _, _, _, e, g⟩ := hs
  refine ⟨st.stepsOf 0, st.stepsOf 1, st.stepsOf 2, e 0 (by omega), e 1 (by omega), e 2 (by omega), by omega, by omega, ?_⟩
  rintro i a (⟨rfl, rfl⟩ | ⟨rfl, rfl⟩ | ⟨rfl, rfl⟩) <;> exact steps_any (acM f) st _ w hm
theorem AcW.wcell (h : AcW W0 w f q) {j : Nat} (hj : j < 3) : w.cell? ⟨f 4, j, none⟩ = some (.pointer (some ⟨f (7 + j), 0, none⟩)) := by
  rw [h.wp.cell]
  have : j = 0 ∨ j = 1 ∨ j = 2 := by omega
  rcases this with rfl | rfl | rfl <;> rfl
theorem AcW.rcell (h : AcW W0 w f q) {j : Nat} (hj : j < 3) : w.cell? ⟨f 5, j, none⟩ = some (.pointer (some ⟨f (10 + j), 0, none⟩)) := by
  rw [h.rp.cell]
  have : j = 0 ∨ j = 1 ∨ j = 2 := by omega
  rcases this with rfl | rfl | rfl <;> rfl
theorem AcW.ecell (h : AcW W0 w f q) {j : Nat} (hj : j < 3) : w.cell? ⟨f 3, j, none⟩ = some (.int .i64 j) := by
  rw [h.ev.cell]
  have : j = 0 ∨ j = 1 ∨ j = 2 := by omega
  rcases this with rfl | rfl | rfl <;> rfl
theorem AcW.tcell (h : AcW W0 w f q) {j : Nat} (hl : q.told.length = 3) (hj : j < 3) {v : Int} (hv : q.told.getD j 0 = v) : w.cell? ⟨f 6, j, none⟩ = some (.int .i64 v) := ints_cell h.tl (by omega) hv
theorem a_rready (h : AcW W0 w f q) (g : AcG W0 f) {j : Nat} (hj : j < 3) (v : Int) :
    Calls Try.prog 41 #[.pointer (some ⟨f (10 + j), 0, none⟩), .int .i64 v] w fun e w' => e = .returned (.tuple #[]) ∧ AcW W0 w' f { q with rh := upd q.rh j 1, rs := upd q.rs j v } := by
  refine (ref_ready _ _ _ v w (h.rf j hj)).mono ?_
  rintro e w' ⟨rfl, hb, hk⟩
  exact ⟨rfl, h.refw g hj hk (fun _ e => e) _ _ hb⟩
theorem a_rpark_ok (h : AcW W0 w f q) (g : AcG W0 f) {j : Nat} (hj : j < 3) (hh : q.rh j = 1) :
    Calls Try.prog 42 #[.pointer (some ⟨f (10 + j), 0, none⟩)] w fun e w' => e = .returned (.int .i64 0) ∧ AcW W0 w' f { q with rh := upd q.rh j 2, rs := upd q.rs j (q.rs j) } := by
  have hb := h.rf j hj
  rw [hh] at hb
  refine (ref_park_ok _ _ w hb).mono ?_
  rintro e w' ⟨rfl, hb, hk⟩
  exact ⟨rfl, h.refw g hj hk (fun _ e => e) _ _ hb⟩
theorem a_rpark_no (h : AcW W0 w f q) {j : Nat} (hj : j < 3) (hh : ¬ q.rh j = 1) :
    Calls Try.prog 42 #[.pointer (some ⟨f (10 + j), 0, none⟩)] w fun e w' => e = .returned (.int .i64 19) ∧ w = w' := ref_park_no _ _ _ w (h.rf j hj) hh
theorem a_rparked (h : AcW W0 w f q) {j : Nat} (hj : j < 3) (v : Int) (b : Bool) (hb : (q.rh j == 2 && (v == q.rs j)) = b) :
    Calls Try.prog 43 #[.pointer (some ⟨f (10 + j), 0, none⟩), .int .i64 v] w fun e w' => e = .returned (.bool b) ∧ w = w' := by
  subst hb; exact ref_parked _ _ _ v w (h.rf j hj)
theorem AcW.rzero (h : AcW W0 w f q) (g : AcG W0 f) {j : Nat} (hj : j < 3) : AcW W0 (w.setCell ⟨f (10 + j), 0, none⟩ (.int .i64 0)) f { q with rh := upd q.rh j 0, rs := upd q.rs j (q.rs j) } :=
  h.refw g hj (S := fun k => k = f (10 + j)) ((Kept.refl (fun k => k = f (10 + j)) w).setCell (p := ⟨f (10 + j), 0, none⟩) (.inl rfl) _) (fun _ e => e) _ _ ((h.rf j hj).set 0 (.int .i64 0))
theorem a_full (h : AcW W0 w f q) :
    Calls Try.prog 32 #[.pointer (some ⟨f 0, 0, none⟩), .int .i64 0] w fun e w' => e = .returned (.tuple #[.agg #[.int .i64 0], .int .i64 21]) ∧ AcW W0 w' f q := by
  obtain ⟨st, hm, hs⟩ := h.st
  refine (evnew_full (acM f) st 0 w hm (hs.caller (by omega) (by omega)) (by rw [hs.2.1, hs.2.2.1]; omega) (by rw [hs.2.2.1]; omega) (by rw [hs.2.2.1]; omega)).mono ?_
  rintro e w' ⟨rfl, hk⟩
  exact ⟨rfl, h.below hk⟩
end
end Go.Proofs.Ytelphbfdibfmoaa
