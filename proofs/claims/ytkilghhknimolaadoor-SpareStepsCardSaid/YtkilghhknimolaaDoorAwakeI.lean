/-
  WHAT IS PROVED HERE: pelotonlaw12's awake returns true. Conditions: the table math/bits.deBruijn64tab lies as its initialiser lays it.
-/
import Derived.Test.YtkilghhknimolaaDoorIdleM
namespace Go.Proofs.YtkilghhknimolaaDoor
open Go.RowKit

/-- A set's machine, as the walk goes on: its number. -/
structure St1 (st : MS) (v : Int) : Prop where
  cell : st.cellOf 0 = v
  given : st.isGiven 0 = true
  c0 : st.isCaller 0 = true
  c1 : st.isCaller 1 = true
  c2 : st.isCaller 2 = true
theorem St1.did {st : MS} {v : Int} (h : St1 st v) (i x : Int) : St1 ((st.did i).putAt 0 x) x := by
  have hg := MS.isGiven_lt h.given
  refine ⟨?_, ?_, ?_, ?_, ?_⟩
  · unfold MS.cellOf MS.putAt MS.did
    rw [if_pos (by simpa using hg)]
    show ((st.cells.set 0 x)[0]?).getD 0 = x
    rw [List.getElem?_set_self (by omega)]
    rfl
  · have := h.given; simpa [MS.isGiven, MS.putAt, MS.did] using this
  · have := h.c0; simpa [MS.isCaller, MS.putAt, MS.did] using this
  · have := h.c1; simpa [MS.isCaller, MS.putAt, MS.did] using this
  · have := h.c2; simpa [MS.isCaller, MS.putAt, MS.did] using this
theorem mem21 : membersOf 21 = [0, 2, 4] := by decide +kernel
theorem first21 : firstOf 21 5 = 1 := by decide +kernel
theorem first7 : firstOf 7 3 = -1 := by decide +kernel
set_option maxRecDepth 20000 in
set_option maxHeartbeats 2000000 in
theorem awake12_any (w : World) (hT : Tab w) :
    Calls Tryd.prog 14 #[] w fun e w' => e = .returned (.bool true) ∧ Below w.heap.size w w' := by
  have hlt := hT.lt
  have hc := count_ok 21 w hT
  rw [mem21, show (([0, 2, 4] : List Int).length : Int) = 3 from rfl] at hc
  go_enter Tryd.func14, Tryd.ntmps14
  go_wp2_with fail
  refine hc.mono ?_
  rintro e w1 ⟨rfl, hb1⟩
  have hT1 := hT.below hb1 hlt
  clear hc
  go_wp2_with fail
  refine (members_any 21 w1).mono ?_
  rintro e w2 ⟨rfl, hw2⟩
  have hb2 : Below w1.heap.size w1 w2 := by rw [← hw2]; exact (Below.refl _ w1).alloc (Nat.le_refl _) _
  have hbs : Blk w2 w1.heap.size 2 [.int .i64 21] := by rw [← hw2]; exact Blk.new w1 _ [.int .i64 21]
  have hT2 := hT1.below hb2 hT1.lt
  have hl := list_ok 21 9 w1.heap.size w2 hbs hT2 (by omega)
  rw [mem21, show ([0, 2, 4] : List Int).take (9 : Int).toNat = [0, 2, 4] from rfl, show ([0, 2, 4] : List Int).length = 3 from rfl] at hl
  clear hw2 hbs
  go_wp2_with fail
  refine hl.mono ?_
  rintro e w3 ⟨g, cap, rfl, hr3, hg3, hb3⟩
  have hT3 := hT2.below hb3 hT2.lt
  have hr4 := hr3.alloc (.cells #[.int .i64 0, .int .i64 2, .int .i64 4] 3)
  have hq4 : Rw (w3.alloc (.cells #[.int .i64 0, .int .i64 2, .int .i64 4] 3)) w3.heap.size 3 3 (ints [0, 2, 4]) := Rw.of (Blk.new w3 3 (ints [0, 2, 4])) (by unfold maxLen; simp [ints])
  have hs := same_ok _ g cap w3.heap.size 3 [0, 2, 4] [0, 2, 4] hr4 hq4 true (by simp)
  rw [show ([0, 2, 4] : List Int).length = 3 from rfl] at hs
  have HS := Lib.hid hs
  have hb4 : Below w3.heap.size w3 (w3.alloc (.cells #[.int .i64 0, .int .i64 2, .int .i64 4] 3)) := (Below.refl _ w3).alloc (Nat.le_refl _) _
  have hz4 : (w3.alloc (.cells #[.int .i64 0, .int .i64 2, .int .i64 4] 3)).heap.size = w3.heap.size + 1 := by simp
  clear hl hs hr4 hq4
  go_wp2_with fail
  refine HS.out.mono ?_
  rintro e w5 ⟨rfl, hb5⟩
  clear HS
  have hbel : Below w.heap.size w w5 := by
    have z1 := hb1.size
    have z2 := hb2.size
    have z3 := hb3.size
    exact (((hb1.trans (hb2.mono z1)).trans (hb3.mono (by omega))).trans (hb4.mono (by omega))).trans (hb5.mono (by omega))
  have hT5 := hT.below hbel hlt
  have hf1 := first_ok 21 5 w5 hT5
  have hf2 := first_ok 7 3 w5 hT5
  rw [first21] at hf1
  rw [first7] at hf2
  have HF2 := Lib.hid hf2
  clear hb1 hb2 hb3 hb4 hb5 hT1 hT2 hT3 hr3 hz4 hf2
  go_wp2_with fail
  refine hf1.mono ?_
  rintro e wn ⟨rfl, rfl⟩
  clear hf1
  go_wp2_with fail
  refine HF2.out.mono ?_
  rintro e wn ⟨rfl, rfl⟩
  clear HF2
  go_wp2_with fail
  refine (new_ok 1 2 _ (by omega) (by omega) (by omega) (by omega)).mono ?_
  rintro e w6 ⟨p, s, rfl, hm6, hk6, hp, hsl⟩
  have hbel6 : Below w.heap.size w w6 := hbel.trans (hk6.below hbel.size (fun _ h => h.elim))
  have hps : w.heap.size ≤ p ∧ w.heap.size ≤ s := by have := hbel.size; omega
  clear hk6 hp hsl
  go_wp2_with fail
  refine (inew_ok hm6 0 (by decide +kernel) (by decide +kernel) (by decide +kernel)).mono ?_
  rintro e w7 ⟨rfl, hk7, c, hc7, hm7⟩
  rw [show setV ((MS.fresh 1 (2 : Int).toNat).cells.length : Nat) = .agg #[.int .i64 0] from rfl]
  have hs7 : St1 (((MS.fresh 1 (2 : Int).toNat).did 0).more 1) 0 := ⟨by decide +kernel, by decide +kernel, by decide +kernel, by decide +kernel, by decide +kernel⟩
  generalize (((MS.fresh 1 (2 : Int).toNat).did 0).more 1) = st7 at *
  have hbel7 : Below w.heap.size w w7 := hbel6.trans (hk7.below hbel6.size (fun q e => by
    rcases e with e | e | e
    · have e' : q = p := e; omega
    · have e' : q = p := e; omega
    · have e' : q = s := e; omega))
  have hlt7 := hm7.lt
  have hm8 := hm7.alloc (.cells #[.int .i64 0] 71)
  have b8 := Blk.new w7 71 [.int .i64 0]
  have hbel8 : Below w.heap.size w (w7.alloc (.cells #[.int .i64 0] 71)) := hbel7.alloc hbel7.size _
  have hcw : w.heap.size ≤ c := by have := hbel6.size; omega
  have hbs8 : w.heap.size ≤ w7.heap.size := hbel7.size
  have hnb : ¬ (⟨p, c, s⟩ : MB).has w7.heap.size := fun e => by have := hlt7 _ e; omega
  have c8 := b8.cell 0
  simp only [List.getElem?_cons_zero] at c8
  have hmbw : ∀ q, (⟨p, c, s⟩ : MB).has q → w.heap.size ≤ q := fun q e => by
    rcases e with e | e | e
    · have e' : q = p := e; omega
    · have e' : q = c := e; omega
    · have e' : q = s := e; omega
  have HM8 := Lib.hid hm8
  have HB8 := Lib.hid b8
  have HBE8 := Lib.hid hbel8
  clear hm6 hk7 hc7 hm7 hbel6 hbel hbel7 hps hT5 hlt7 hm8 b8 hbel8
  go_wp2_with fail
  obtain ⟨bS, hbS⟩ : ∃ b, w7.heap.size = b := ⟨_, rfl⟩
  rw [hbS] at hnb c8 HB8 hbs8 ⊢
  generalize (w7.alloc (.cells #[.int .i64 0] 71)) = w8 at *
  change Hid (Blk w8 bS 71 [.int .i64 0]) at HB8
  have he := enter_ok HM8.out 0 2 (by omega) hs7.c2 hs7.given 0 hs7.cell
  unfold setV at he
  refine he.mono ?_
  rintro e w9 ⟨rfl, hm9, hk9⟩
  clear he c8
  have hs9 := hs7.did 2 (wrap64 (0 + IntKind.i64.wrap (1 * 2 ^ 2)))
  rw [show wrap64 (0 + IntKind.i64.wrap (1 * 2 ^ 2)) = 4 by decide +kernel] at hs9
  rw [show ((2 : Nat) : Int) = 2 from rfl, show wrap64 (0 + IntKind.i64.wrap (1 * 2 ^ 2)) = 4 by decide +kernel] at hm9
  generalize ((st7.did 2).putAt 0 4) = st9 at *
  have HB9 := Lib.hid (HB8.out.kept hk9 hnb)
  have HBE9 := Lib.hid (HBE8.out.trans (hk9.below HBE8.out.size hmbw))
  have c9 : w9.cell? ⟨bS, 0, none⟩ = some (.int .i64 0) := HB9.out.cell 0
  have HM9 := Lib.hid hm9
  clear HM8 HB8 HBE8 hk9 hm9
  go_wp2_with fail
  have he := enter_ok HM9.out 0 0 (by omega) hs9.c0 hs9.given 4 hs9.cell
  unfold setV at he
  refine he.mono ?_
  rintro e w10 ⟨rfl, hm10, hk10⟩
  clear he c9
  have hs10 := hs9.did 0 (wrap64 (4 + IntKind.i64.wrap (1 * 2 ^ 0)))
  rw [show wrap64 (4 + IntKind.i64.wrap (1 * 2 ^ 0)) = 5 by decide +kernel] at hs10
  rw [show ((0 : Nat) : Int) = 0 from rfl, show wrap64 (4 + IntKind.i64.wrap (1 * 2 ^ 0)) = 5 by decide +kernel] at hm10
  generalize ((st9.did 0).putAt 0 5) = st10 at *
  have HB10 := Lib.hid (HB9.out.kept hk10 hnb)
  have HBE10 := Lib.hid (HBE9.out.trans (hk10.below HBE9.out.size hmbw))
  have c10 : w10.cell? ⟨bS, 0, none⟩ = some (.int .i64 0) := HB10.out.cell 0
  have HM10 := Lib.hid hm10
  clear HM9 HB9 HBE9 hk10 hm10
  go_wp2_with fail
  have he := ileave_ok HM10.out 0 2 (by omega) hs10.c2 hs10.given 5 hs10.cell
  unfold setV at he
  refine he.mono ?_
  rintro e w11 ⟨rfl, hm11, hk11⟩
  clear he c10
  have hs11 := hs10.did 2 (wrap64 (5 + IntKind.i64.wrap (-1 * 2 ^ 2)))
  rw [show wrap64 (5 + IntKind.i64.wrap (-1 * 2 ^ 2)) = 1 by decide +kernel] at hs11
  rw [show ((2 : Nat) : Int) = 2 from rfl, show wrap64 (5 + IntKind.i64.wrap (-1 * 2 ^ 2)) = 1 by decide +kernel] at hm11
  generalize ((st10.did 2).putAt 0 1) = st11 at *
  have HB11 := Lib.hid (HB10.out.kept hk11 hnb)
  have HBE11 := Lib.hid (HBE10.out.trans (hk11.below HBE10.out.size hmbw))
  have c11 : w11.cell? ⟨bS, 0, none⟩ = some (.int .i64 0) := HB11.out.cell 0
  have HM11 := Lib.hid hm11
  clear HM10 HB10 HBE10 hk11 hm11
  go_wp2_with fail
  have he := iread_ok HM11.out 0 1 hs11.c1 hs11.given 1 hs11.cell
  unfold setV at he
  refine he.mono ?_
  rintro e w12 ⟨rfl, hm12, hk12⟩
  have HBE12 := Lib.hid (HBE11.out.trans (hk12.below HBE11.out.size hmbw))
  clear he c11 hm12 hk12 HM11 HB11 HBE11
  go_wp2_with fail
  go_ret
  exact ⟨rfl, HBE12.out⟩
end Go.Proofs.YtkilghhknimolaaDoor
