/-
  WHAT IS PROVED HERE: the law of EventWakes without the program: what is true of the writers' and the sleepers' places after k rounds, kept by each of the rounds' kinds; it gives that who is parked is in place 3 and finds nothing to do.
-/
import Derived.RowKit
namespace Go.Proofs.Ytelphbfdibfmoaa
open Go.RowKit

/-- The places (next), what was seen in the load (saw), how each wait stands, what it saw of the event; the event's cell; the things' cell. -/
structure WS where
  nx : List Int
  sw : List Int
  how : Nat → Int
  seen : Nat → Int
  e : Int
  c : Int

def WS.d (q : WS) : Int := q.c - (q.nx.getD 0 0 + q.nx.getD 1 0 + q.nx.getD 2 0)

def RdOk (e d n s how seen : Int) : Prop :=
  seen ≤ e ∧ 0 ≤ s ∧ s ≤ 300 ∧ ((n = 0 ∧ (how = 2 → seen < e)) ∨ (n = 1 ∧ how = 1) ∨ (n = 2 ∧ how = 1 ∧ (seen = e → d ≤ s)) ∨ (n = 3 ∧ how = 2 ∧ (seen = e → d ≤ 0)))

structure WOk (q : WS) (k : Nat) : Prop where
  ln : q.nx.length = 6
  ls : q.sw.length = 6
  e0 : 0 ≤ q.e
  ek : q.e ≤ k
  c0 : 0 ≤ q.c
  ck : q.c ≤ k
  wr : ∀ j, j < 3 → q.nx.getD j 0 = 0 ∨ q.nx.getD j 0 = 1
  rd : ∀ j, 3 ≤ j → j < 6 → RdOk q.e q.d (q.nx.getD j 0) (q.sw.getD j 0) (q.how j) (q.seen j)

theorem getD_set {l : List Int} {j : Nat} {v : Int} (h : j < l.length) (i : Nat) : (l.set j v).getD i 0 = if i = j then v else l.getD i 0 := by
  by_cases e : i = j
  · subst e; simp [List.getD, h]
  · simp [List.getD, e, Ne.symm e]

def upd (f : Nat → Int) (j : Nat) (v : Int) : Nat → Int := fun k => if k = j then v else f k

/-- A round that a writer makes: it adds one thing. -/
theorem WOk.add {q : WS} {k : Nat} (h : WOk q k) {j : Nat} (hj : j < 3) (hn : q.nx.getD j 0 = 0) : WOk { q with nx := q.nx.set j 1, c := q.c + 1 } (k + 1) := by
  obtain ⟨ln, ls, e0, ek, c0, ck, wr, rd⟩ := h
  have hd : WS.d { q with nx := q.nx.set j 1, c := q.c + 1 } = q.d := by
    unfold WS.d
    simp only [getD_set (show j < q.nx.length by omega)]
    have : j = 0 ∨ j = 1 ∨ j = 2 := by omega
    rcases this with rfl | rfl | rfl <;> simp at hn ⊢ <;> omega
  refine ⟨by simpa using ln, ls, e0, by show q.e ≤ _; omega, by show 0 ≤ q.c + 1; omega, by show q.c + 1 ≤ _; omega, ?_, ?_⟩
  · intro i hi
    show (q.nx.set j 1).getD i 0 = 0 ∨ _
    rw [getD_set (by omega)]
    by_cases e : i = j
    · simp [e]
    · simpa [e] using wr i hi
  · intro i h3 h6
    rw [hd]
    show RdOk q.e q.d ((q.nx.set j 1).getD i 0) _ _ _
    rw [getD_set (by omega), if_neg (by omega)]
    exact rd i h3 h6

/-- A round that a writer makes: it tells. -/
theorem WOk.tell {q : WS} {k : Nat} (h : WOk q k) {j : Nat} (hj : j < 3) (v : Int) (hv : v = 0) : WOk { q with nx := q.nx.set j v, e := q.e + 1 } (k + 1) := by
  subst hv
  obtain ⟨ln, ls, e0, ek, c0, ck, wr, rd⟩ := h
  refine ⟨by simpa using ln, ls, by show 0 ≤ q.e + 1; omega, by show q.e + 1 ≤ _; omega, c0, by show q.c ≤ _; omega, ?_, ?_⟩
  · intro i hi
    show (q.nx.set j 0).getD i 0 = 0 ∨ _
    rw [getD_set (by omega)]
    by_cases e : i = j
    · simp [e]
    · simpa [e] using wr i hi
  · intro i h3 h6
    show RdOk (q.e + 1) _ ((q.nx.set j 0).getD i 0) (q.sw.getD i 0) (q.how i) (q.seen i)
    rw [getD_set (by omega), if_neg (by omega)]
    have := rd i h3 h6
    unfold RdOk at this ⊢
    omega

/-- A sleeper's round: what it says of the other sleepers stays where d does not grow. -/
theorem WOk.sleeper {q : WS} {k : Nat} (h : WOk q k) {j : Nat} (hj : 3 ≤ j) (hj6 : j < 6) (n s hw sn c' : Int) (hc0 : 0 ≤ c') (hc : c' ≤ q.c)
    (hr : RdOk q.e (q.d - q.c + c') n s hw sn) : WOk { q with nx := q.nx.set j n, sw := q.sw.set j s, how := upd q.how j hw, seen := upd q.seen j sn, c := c' } (k + 1) := by
  obtain ⟨ln, ls, e0, ek, c0, ck, wr, rd⟩ := h
  have hd : WS.d { q with nx := q.nx.set j n, sw := q.sw.set j s, how := upd q.how j hw, seen := upd q.seen j sn, c := c' } = q.d - q.c + c' := by
    unfold WS.d
    simp only [getD_set (show j < q.nx.length by omega)]
    rw [if_neg (by omega), if_neg (by omega), if_neg (by omega)]
    omega
  refine ⟨by simpa using ln, by simpa using ls, e0, by show q.e ≤ _; omega, hc0, by show c' ≤ _; omega, ?_, ?_⟩
  · intro i hi
    show (q.nx.set j n).getD i 0 = 0 ∨ (q.nx.set j n).getD i 0 = 1
    rw [getD_set (by omega), if_neg (by omega)]
    exact wr i hi
  · intro i h3 h6
    rw [hd]
    show RdOk q.e _ ((q.nx.set j n).getD i 0) ((q.sw.set j s).getD i 0) (upd q.how j hw i) (upd q.seen j sn i)
    rw [getD_set (by omega), getD_set (by omega)]
    by_cases e : i = j
    · simpa [e, upd] using hr
    · have := rd i h3 h6
      simp only [e, upd, if_false]
      unfold RdOk at this ⊢
      omega

theorem WOk.ready {q : WS} {k : Nat} (h : WOk q k) {j : Nat} (hj : 3 ≤ j) (hj6 : j < 6) : WOk { q with nx := q.nx.set j 1, sw := q.sw.set j (q.sw.getD j 0), how := upd q.how j 1, seen := upd q.seen j q.e, c := q.c } (k + 1) := by
  refine h.sleeper hj hj6 _ _ _ _ _ h.c0 (by omega) ?_
  have := h.rd j hj hj6
  unfold RdOk at this ⊢
  omega
theorem WOk.load {q : WS} {k : Nat} (h : WOk q k) (hk : k ≤ 300) {j : Nat} (hj : 3 ≤ j) (hj6 : j < 6) (hn : q.nx.getD j 0 = 1) : WOk { q with nx := q.nx.set j 2, sw := q.sw.set j q.c, how := upd q.how j (q.how j), seen := upd q.seen j (q.seen j), c := q.c } (k + 1) := by
  refine h.sleeper hj hj6 _ _ _ _ _ h.c0 (by omega) ?_
  have := h.rd j hj hj6
  have h1 := h.wr 0 (by omega)
  have h2 := h.wr 1 (by omega)
  have h3 := h.wr 2 (by omega)
  have h4 := h.c0
  have h5 := h.ck
  unfold RdOk at this ⊢
  unfold WS.d
  omega
theorem WOk.take {q : WS} {k : Nat} (h : WOk q k) {j : Nat} (hj : 3 ≤ j) (hj6 : j < 6) (c' : Int) (h0 : 0 ≤ c') (h1 : c' ≤ q.c) : WOk { q with nx := q.nx.set j 0, sw := q.sw.set j (q.sw.getD j 0), how := upd q.how j 0, seen := upd q.seen j (q.seen j), c := c' } (k + 1) := by
  refine h.sleeper hj hj6 _ _ _ _ _ h0 h1 ?_
  have := h.rd j hj hj6
  unfold RdOk at this ⊢
  omega
theorem WOk.park {q : WS} {k : Nat} (h : WOk q k) {j : Nat} (hj : 3 ≤ j) (hj6 : j < 6) (hn : q.nx.getD j 0 = 2) (hs : ¬ 0 < q.sw.getD j 0) : WOk { q with nx := q.nx.set j 3, sw := q.sw.set j (q.sw.getD j 0), how := upd q.how j 2, seen := upd q.seen j (q.seen j), c := q.c } (k + 1) := by
  refine h.sleeper hj hj6 _ _ _ _ _ h.c0 (by omega) ?_
  have := h.rd j hj hj6
  unfold RdOk at this ⊢
  omega
theorem WOk.woken {q : WS} {k : Nat} (h : WOk q k) {j : Nat} (hj : 3 ≤ j) (hj6 : j < 6) (hn : q.nx.getD j 0 = 3) (hs : ¬ q.e = q.seen j) : WOk { q with nx := q.nx.set j 0, sw := q.sw.set j (q.sw.getD j 0), how := upd q.how j (q.how j), seen := upd q.seen j (q.seen j), c := q.c } (k + 1) := by
  refine h.sleeper hj hj6 _ _ _ _ _ h.c0 (by omega) ?_
  have := h.rd j hj hj6
  unfold RdOk at this ⊢
  omega
theorem WOk.rest {q : WS} {k : Nat} (h : WOk q k) : WOk q (k + 1) :=
  ⟨h.ln, h.ls, h.e0, by have := h.ek; omega, h.c0, by have := h.ck; omega, h.wr, h.rd⟩
/-- Who is parked is in place 3, and nothing is there to be done. -/
theorem WOk.parked {q : WS} {k : Nat} (h : WOk q k) {j : Nat} (hj : 3 ≤ j) (hj6 : j < 6) (h2 : q.how j = 2) (hs : q.e = q.seen j) : q.nx.getD j 0 = 3 ∧ q.d ≤ 0 := by
  have := h.rd j hj hj6
  unfold RdOk at this
  omega
/-- A sleeper's place is 0, 1, 2 or 3; in 1 and 2 it is ready, in 3 it lies. -/
theorem WOk.place {q : WS} {k : Nat} (h : WOk q k) {j : Nat} (hj : 3 ≤ j) (hj6 : j < 6) : q.nx.getD j 0 = 0 ∨ (q.nx.getD j 0 = 1 ∧ q.how j = 1) ∨ (q.nx.getD j 0 = 2 ∧ q.how j = 1) ∨ (q.nx.getD j 0 = 3 ∧ q.how j = 2) := by
  have := h.rd j hj hj6
  unfold RdOk at this
  omega
theorem WOk.start : WOk ⟨[0, 0, 0, 0, 0, 0], [0, 0, 0, 0, 0, 0], fun _ => 0, fun _ => 0, 0, 0⟩ 0 := by
  refine ⟨rfl, rfl, by simp, by simp, by simp, by simp, ?_, ?_⟩
  · intro j hj
    have : j = 0 ∨ j = 1 ∨ j = 2 := by omega
    rcases this with rfl | rfl | rfl <;> simp
  · intro j h3 h6
    have : j = 3 ∨ j = 4 ∨ j = 5 := by omega
    rcases this with rfl | rfl | rfl <;> simp [RdOk, WS.d]
end Go.Proofs.Ytelphbfdibfmoaa
