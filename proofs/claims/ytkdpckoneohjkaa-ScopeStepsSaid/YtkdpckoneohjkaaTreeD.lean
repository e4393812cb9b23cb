/-
  WHAT IS PROVED HERE: contracts of scope.New, Open, Look. Conditions: as in the contracts.
-/
import Derived.Test.YtkdpckoneohjkaaTreeC
import Derived.Test.YtkdpckoneohjkaaApp
import Derived.OwnWalk
import Derived.Laws.OwnMore
namespace Go.Proofs.Ytkdpckoneohjkaa
open Go.RowKit

set_option maxHeartbeats 1000000 in
theorem tree_new {W0 : World} (p s : Nat) (size : Int) (nw : Nat) (i : Int) (w : World) (hm : MachP w ⟨p, p, s⟩ (MS.fresh size nw)) (hb : Below W0.heap.size W0 w) (hp : W0.heap.size ≤ p) (hs : W0.heap.size ≤ s) (h3 : 2 ≤ size) (h4 : size ≤ 1048576) (i0 : 0 ≤ i) (i1 : i ≤ nw) :
    Calls Try.prog 44 #[.pointer (some ⟨p, 0, none⟩), .int .i64 i] w fun e w' => ∃ c tp g,
      e = .returned (.tuple #[.pointer (some ⟨tp, 0, none⟩), .int .i64 0]) ∧ SW W0 w' ⟨p, c, s⟩ tp g size (stepUp (MS.fresh size nw).steps i) [⟨-1, 0, 0, 0⟩] := by
  have hlt := hm.lt
  have g1 : (MS.fresh size nw).isCaller i = true := by simp [MS.isCaller, MS.fresh]; omega
  have g3 : ((MS.fresh size nw).cells.length : Int) + 2 ≤ (MS.fresh size nw).size := by show (0 : Int) + 2 ≤ size; omega
  have HL := Lib.hid hlt
  clear hlt
  go_enter Try.func44, Try.ntmps44
  go_wp2_with fail
  refine (alloc_okI ⟨p, p, s⟩ (MS.fresh size nw) i 2 _ hm g1 (by omega) g3 h4).mono ?_
  rintro e w2 ⟨rfl, hk2, c, hc, hm2⟩
  rw [show ((MS.fresh size nw).cells.length : Int) = 0 from rfl]
  have q2 : Blk (w2.alloc (.cells #[.int .i64 (-1), .int .i64 0, .int .i64 0] 104)) w2.heap.size 104 [.int .i64 (-1), .int .i64 0, .int .i64 0] := Blk.new w2 _ [.int .i64 (-1), .int .i64 0, .int .i64 0]
  have q3 := q2.alloc (.cells #[.slice (some ⟨w2.heap.size, 0, none⟩) 1 1] 107)
  have q4 : Blk ((w2.alloc (.cells #[.int .i64 (-1), .int .i64 0, .int .i64 0] 104)).alloc (.cells #[.slice (some ⟨w2.heap.size, 0, none⟩) 1 1] 107)) (w2.heap.size + 1) 107 [.slice (some ⟨w2.heap.size, 0, none⟩) 1 1] := by
    have := Blk.new (w2.alloc (.cells #[.int .i64 (-1), .int .i64 0, .int .i64 0] 104)) 107 [.slice (some ⟨w2.heap.size, 0, none⟩) 1 1]
    rwa [World.size_alloc] at this
  have hm4 := (hm2.alloc (.cells #[.int .i64 (-1), .int .i64 0, .int .i64 0] 104)).alloc (.cells #[.slice (some ⟨w2.heap.size, 0, none⟩) 1 1] 107)
  have hl2 := hm2.lt
  have hs2 := hk2.size
  have bel2 : Below W0.heap.size W0 ((w2.alloc (.cells #[.int .i64 (-1), .int .i64 0, .int .i64 0] 104)).alloc (.cells #[.slice (some ⟨w2.heap.size, 0, none⟩) 1 1] 107)) := by
    have := hb.trans (hk2.under (B := W0.heap.size) ⟨hp, hp, hs⟩ hb.size)
    exact (this.alloc this.size _).alloc (by have := this.size; simp; omega) _
  have HQ3 := Lib.hid q3
  have HQ4 := Lib.hid q4
  have HM4 := Lib.hid hm4
  have HL2 := Lib.hid hl2
  have HB2 := Lib.hid bel2
  have hbs := hb.size
  clear q2 q3 q4 hm4 hl2 bel2 hm2 hm g1 g3
  go_wp2
  go_ret2
  refine ⟨c, w2.heap.size + 1, w2.heap.size, rfl, HM4.out, ⟨by omega, 1, [], ?_, ?_, by simp [length_scN], by unfold maxLen; omega⟩, ?_, ?_, ⟨hp, by show W0.heap.size ≤ c; omega, hs⟩, by omega, by omega, ⟨by simp, by omega, h4⟩, HB2.out⟩
  · exact HQ4.out
  · exact HQ3.out
  · intro e; have := HL2.out _ e; omega
  · intro e; have := HL2.out _ e; omega
theorem tree_new_stop (p : Nat) (i c : Int) (hc : ¬ c = 0) (w : World)
    (h : Calls Try.prog 52 #[.pointer (some ⟨p, 0, none⟩), .int .i64 i, .int .i64 2] w fun e w' => e = .returned (.tuple #[.int .i64 0, .int .i64 c]) ∧ w = w') :
    Calls Try.prog 44 #[.pointer (some ⟨p, 0, none⟩), .int .i64 i] w fun e w' => e = .returned (.tuple #[.pointer none, .int .i64 c]) ∧ w = w' := by
  have dc : (c != 0) = true := by simp [hc]
  go_enter Try.func44, Try.ntmps44
  go_wp2_with fail
  refine h.mono ?_
  rintro e w2 ⟨rfl, rfl⟩
  go_wp2
  go_ret2
  exact ⟨rfl, by first | trivial | rfl⟩
theorem tree_new_nil (i : Int) (w : World) :
    Calls Try.prog 44 #[.pointer none, .int .i64 i] w fun e w' => e = .returned (.tuple #[.pointer none, .int .i64 2]) ∧ w = w' := by
  go_enter Try.func44, Try.ntmps44
  go_wp2
  go_ret2
  exact ⟨rfl, by first | trivial | rfl⟩

theorem info_node : (Try.prog.info? 104).map (fun i => (i.zero, i.size, i.bytes)) = some (some (.agg #[.int .i64 0, .int .i64 0, .int .i64 0]), 3, 24) := by kernel_rfl
theorem Tr.row {w : World} {p g : Nat} {l : List Nd} (h : Tr w p g l) : ∃ cap, Blk w p 107 [.slice (some ⟨g, 0, none⟩) l.length cap] ∧ w.ownsRow 0 104 3 (.slice (some ⟨g, 0, none⟩) l.length cap) l.length (ndVs l) := by
  obtain ⟨cap, rest, hp, hg, h1, h2⟩ := h.form
  refine ⟨cap, hp, length_ndVs l, .inr ⟨g, cap, (ndVs l ++ rest).toArray, rfl, Nat.zero_le _, hg, by omega, h2, by simp [length_ndVs]; omega, ?_⟩⟩
  simp [← length_ndVs]
theorem Tr.ofRow {w : World} {p g cap : Nat} {l : List Nd} (pg : p ≠ g) (hp : Blk w p 107 [.slice (some ⟨g, 0, none⟩) l.length cap]) (hr : w.ownsRow 0 104 3 (.slice (some ⟨g, 0, none⟩) l.length cap) l.length (ndVs l)) : Tr w p g l := by
  rcases hr.2 with ⟨e, _⟩ | ⟨g', cap', cur, e, hb, hg, hnc, hcm, hcs, htake⟩
  · simp at e
  · obtain ⟨rfl, rfl⟩ : g = g' ∧ cap = cap' := by simpa using e
    refine ⟨pg, cap, cur.toList.drop (l.length * 3), hp, ?_, ?_, hcm⟩
    · unfold Blk
      rw [← htake, List.take_append_drop]
      simpa using hg
    · simp; omega

/-- What Open reads of the scope in which it opens one. -/
theorem SW.nestAt {W0 w : World} {mb : MB} {p g : Nat} {size : Int} {steps : List Int} {l : List Sc} (h : SW W0 w mb p g size steps l) {s : Nat} {n : Sc} (hn : l[s]? = some n) :
    w.cell? ⟨g, s * 3 + 1, none⟩ = some (.int .i64 n.nest) := by
  have hl : s < (scN l).length := by rw [length_scN]; exact sc_lt hn
  have := (h.t.node s hl).2.1
  rw [get_scN] at this
  rw [this]
  simp only [(List.getElem?_eq_some_iff.1 hn).2]

section
variable {W0 w : World} {mb : MB} {p g : Nat} {size : Int} {steps : List Int} {l : List Sc}
set_option maxHeartbeats 1000000 in
theorem sw_open_deep (h : SW W0 w mb p g size steps l) (i : Int) (s : Nat) (n : Sc) (hn : l[s]? = some n) (hd : 32 ≤ n.nest) (hd2 : n.nest ≤ 1000) :
    Calls Try.prog 45 #[.pointer (some ⟨p, 0, none⟩), .pointer (some ⟨mb.p, 0, none⟩), .int .i64 i, .int .i64 s] w fun e w' =>
      e = .returned (.tuple #[.int .i64 0, .int .i64 23]) ∧ Below w.heap.size w w' := by
  have hin := sc_in hn
  go_enter Try.func45, Try.ntmps45
  go_wp2_with fail
  refine (may_ok p g (scN l) ⟨mb.p, 0, none⟩ s _ h.t (sc_inN hn)).mono ?_
  rintro e w2 ⟨rfl, hb⟩
  have h2 := h.below hb
  obtain ⟨cap, a, c0, c1, s0, s1, l1, l2, HA, a0, a1⟩ := h2.opens hin
  have c2 := h2.nestAt hn
  rw [Int.toNat_natCast] at c1
  clear h h2 hn hin c1
  go_wp2
  go_ret2
  exact ⟨rfl, hb⟩
set_option maxHeartbeats 1000000 in
theorem sw_open_refused (h : SW W0 w mb p g size steps l) (i c : Int) (s : Nat) (n : Sc) (hn : l[s]? = some n) (hd : n.nest < 32) (hd2 : 0 ≤ n.nest) (hc : ¬ c = 0)
    (hal : ∀ w, MachP w mb ⟨scC l, size, steps⟩ → Calls Try.prog 52 #[.pointer (some ⟨mb.p, 0, none⟩), .int .i64 i, .int .i64 2] w fun e w' => e = .returned (.tuple #[.int .i64 0, .int .i64 c]) ∧ w = w') :
    Calls Try.prog 45 #[.pointer (some ⟨p, 0, none⟩), .pointer (some ⟨mb.p, 0, none⟩), .int .i64 i, .int .i64 s] w fun e w' =>
      e = .returned (.tuple #[.int .i64 0, .int .i64 c]) ∧ Below w.heap.size w w' := by
  have hin := sc_in hn
  have dc : (c != 0) = true := by simp [hc]
  go_enter Try.func45, Try.ntmps45
  go_wp2_with fail
  refine (may_ok p g (scN l) ⟨mb.p, 0, none⟩ s _ h.t (sc_inN hn)).mono ?_
  rintro e w2 ⟨rfl, hb⟩
  have h2 := h.below hb
  obtain ⟨cap, a, c0, c1, s0, s1, l1, l2, HA, a0, a1⟩ := h2.opens hin
  have c2 := h2.nestAt hn
  have hm2 := h2.m
  rw [Int.toNat_natCast] at c1
  clear h h2 hn hin c1
  go_wp2_with fail
  refine (hal _ hm2).mono ?_
  rintro e w3 ⟨rfl, rfl⟩
  go_wp2
  go_ret2
  exact ⟨rfl, hb⟩
theorem sw_alloc_no (i : Int) (h0 : ¬ (0 ≤ i ∧ i < steps.length)) : ∀ w, MachP w mb ⟨scC l, size, steps⟩ → Calls Try.prog 52 #[.pointer (some ⟨mb.p, 0, none⟩), .int .i64 i, .int .i64 2] w fun e w' => e = .returned (.tuple #[.int .i64 0, .int .i64 10]) ∧ w = w' :=
  fun w hm => alloc_no mb _ i 2 w hm (.inl (scMS_nocaller h0))
theorem sw_alloc_full (i : Int) (h0 : 0 ≤ i) (h1 : i < steps.length) (hf : size < 2 * l.length + 2) (hz : 0 ≤ size ∧ size ≤ 1048576) : ∀ w, MachP w mb ⟨scC l, size, steps⟩ → Calls Try.prog 52 #[.pointer (some ⟨mb.p, 0, none⟩), .int .i64 i, .int .i64 2] w fun e w' => e = .returned (.tuple #[.int .i64 0, .int .i64 21]) ∧ w = w' :=
  fun w hm => alloc_full mb _ i 2 w hm (scMS_caller h0 h1) (by omega) (by simp only [length_scC]; omega) hz.1 hz.2
end
end Go.Proofs.Ytkdpckoneohjkaa
