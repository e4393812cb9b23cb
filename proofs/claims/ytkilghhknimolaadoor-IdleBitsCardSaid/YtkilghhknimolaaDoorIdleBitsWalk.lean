/-
  WHAT IS PROVED HERE: the walk of the law pelotonlaw12.IdleBits: it returns true, and what was there before the call stays. Conditions: the table math/bits.deBruijn64tab lies as its initialiser lays it.
-/
import Derived.Test.YtkilghhknimolaaDoorAwakeI
import Derived.Test.YtkilghhknimolaaDoorRefF
namespace Go.Proofs.YtkilghhknimolaaDoor
open Go.RowKit

set_option maxRecDepth 20000 in
set_option maxHeartbeats 2000000 in
theorem idleBits_walk (W : World) (hT : Tab W) (z : Int) (_w0 : (Lit.int .i64 z).wf = true) (v : Int) (_w1 : (Lit.int .i64 v).wf = true) (n : Int) (_w2 : (Lit.int .i64 n).wf = true) :
    Calls Tryd.prog 4 #[.int .i64 z, .int .i64 v, .int .i64 n] W fun e w' => e = .returned (.bool true) ∧ Below W.heap.size W w' := by
  have hlt := hT.lt
  obtain ⟨ml, hml⟩ : ∃ ml, (membersOf z).length = ml := ⟨_, rfl⟩
  have hN : ml ≤ 64 := by rw [← hml]; unfold membersOf; rw [List.length_map]; exact bitsOf_length _
  have htk : (membersOf z).take (100 : Int).toNat = membersOf z := List.take_of_length_le (by rw [hml]; omega)
  obtain ⟨hb, hhb⟩ : ∃ hb, hasBit z v = hb := ⟨_, rfl⟩
  obtain ⟨fr, hfr⟩ : ∃ fr, firstOf z n = fr := ⟨_, rfl⟩
  have hbb : (hb == hb) = true := by simp
  have hbb2 : (hb != hb) = false := by simp
  have hff : (fr != fr) = false := by simp
  have hmm : ((ml : Int) != (ml : Int)) = false := by simp
  have HML := Lib.hid hml
  have HTK := Lib.hid htk
  have HHB := Lib.hid hhb
  have HFR := Lib.hid hfr
  clear hml htk hhb hfr _w0 _w1 _w2
  go_enter Tryd.func4, Tryd.ntmps4
  go_wp2_with fail
  have h := rmem_ok z W
  rw [HML.out] at h
  refine h.mono ?_
  rintro e w1 ⟨g, cap, rfl, hr1, hg, hb1⟩
  clear h
  go_wp2_with fail
  have h := has_ok z v w1
  rw [HHB.out] at h
  refine h.mono ?_
  rintro e wn ⟨rfl, rfl⟩
  clear h
  go_wp2_with fail
  have h := rhas_ok z v w1
  rw [HHB.out] at h
  refine h.mono ?_
  rintro e w2 ⟨rfl, hb2⟩
  have hr2 := hr1.below hb2 hr1.lt
  have hB2 := hb1.trans (hb2.mono hb1.size)
  clear h hr1 hb1 hb2
  go_wp2_with fail
  have h := count_ok z w2 (hT.below hB2 hlt)
  rw [HML.out] at h
  refine h.mono ?_
  rintro e w3 ⟨rfl, hb3⟩
  have hr3 := hr2.below hb3 hr2.lt
  have hB3 := hB2.trans (hb3.mono hB2.size)
  clear h hr2 hB2 hb3
  go_wp2_with fail
  have h := first_ok z n w3 (hT.below hB3 hlt)
  rw [HFR.out] at h
  refine h.mono ?_
  rintro e wn ⟨rfl, rfl⟩
  clear h
  go_wp2_with fail
  have h := rfirst_ok z n w3
  rw [HFR.out] at h
  refine h.mono ?_
  rintro e w4 ⟨rfl, hb4⟩
  have hr4 := hr3.below hb4 hr3.lt
  have hB4 := hB3.trans (hb4.mono hB3.size)
  clear h hr3 hB3 hb4
  go_wp2_with fail
  refine (members_any z w4).mono ?_
  rintro e w5 ⟨rfl, hw5⟩
  have hb5 : Below w4.heap.size w4 w5 := by rw [← hw5]; exact (Below.refl _ w4).alloc (Nat.le_refl _) _
  have hbs : Blk w5 w4.heap.size 2 [.int .i64 z] := by rw [← hw5]; exact Blk.new w4 _ [.int .i64 z]
  have hr5 := hr4.below hb5 hr4.lt
  have hB5 := hB4.trans (hb5.mono hB4.size)
  have h := list_ok z 100 w4.heap.size w5 hbs (hT.below hB5 hlt) (by omega)
  rw [HTK.out, HML.out] at h
  clear hw5 hbs hr4 hB4 hb5
  go_wp2_with fail
  refine h.mono ?_
  rintro e w6 ⟨g6, cap6, rfl, hr6, hg6, hb6⟩
  have hr5 := hr5.below hb6 hr5.lt
  have hB6 := hB5.trans (hb6.mono hB5.size)
  clear h hB5 hb6
  have h := same_ok w6 g6 cap6 g cap (membersOf z) (membersOf z) hr6 hr5 true (by simp)
  rw [HML.out] at h
  clear hr5 hr6
  go_wp2_with fail
  refine h.mono ?_
  rintro e w7 ⟨rfl, hb7⟩
  have hB7 := hB6.trans (hb7.mono hB6.size)
  clear h hB6 hb7
  go_wp2_with fail
  refine (awake12_any w7 (hT.below hB7 hlt)).mono ?_
  rintro e w8 ⟨rfl, hb8⟩
  go_wp2_with fail
  go_ret
  exact ⟨rfl, hB7.trans (hb8.mono hB7.size)⟩
end Go.Proofs.YtkilghhknimolaaDoor
