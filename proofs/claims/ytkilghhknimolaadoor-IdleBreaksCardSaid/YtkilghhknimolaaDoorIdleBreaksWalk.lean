/-
  WHAT IS PROVED HERE: the walk of the law pelotonlaw12.IdleBreaks: it returns true, and what was there before the call stays. Conditions: the table math/bits.deBruijn64tab lies as its initialiser lays it.
-/
import Derived.Test.YtkilghhknimolaaDoorAwakeI
namespace Go.Proofs.YtkilghhknimolaaDoor
open Go.RowKit

set_option maxRecDepth 20000 in
set_option maxHeartbeats 2000000 in
theorem idleBreaks_core (W : World) (hT : Tab W) (z n : Int) :
    Calls Tryd.prog 3 #[.int .i64 z, .int .i64 n] W fun e w' => e = .returned (.bool true) ∧ Below W.heap.size W w' := by
  have hlt := hT.lt
  obtain ⟨ml, hml⟩ : ∃ ml, (membersOf z).length = ml := ⟨_, rfl⟩
  have hr0 := rmem_ok z W
  rw [hml] at hr0
  by_cases h1 : n < 1
  · have d1 : decide (n < 1) = true := by simp; omega
    clear h1
    go_enter Tryd.func3, Tryd.ntmps3
    go_wp2_with fail
    refine hr0.mono ?_
    rintro e w1 ⟨g, cap, rfl, hr, hg, hb⟩
    have hT1 := hT.below hb hlt
    clear hr0 hr
    go_wp2_with fail
    refine (awake12_any _ hT1).mono ?_
    rintro e w2 ⟨rfl, hb2⟩
    go_wp2_with fail
    go_ret
    exact ⟨rfl, hb.trans (hb2.mono hb.size)⟩
  · have d1 : decide (n < 1) = false := by simp; omega
    obtain ⟨k, rfl⟩ : ∃ k : Nat, n = k := ⟨n.toNat, by omega⟩
    by_cases h2 : ml < k
    · have d2 : decide ((ml : Int) < (k : Int)) = true := by simp; omega
      have d3 : decide (ml < k) = true := by simp; omega
      clear h1 h2
      go_enter Tryd.func3, Tryd.ntmps3
      go_wp2_with fail
      refine hr0.mono ?_
      rintro e w1 ⟨g, cap, rfl, hr, hg, hb⟩
      have hT1 := hT.below hb hlt
      clear hr0 hr
      go_wp2_with fail
      refine (awake12_any _ hT1).mono ?_
      rintro e w2 ⟨rfl, hb2⟩
      go_wp2_with fail
      go_ret
      exact ⟨rfl, hb.trans (hb2.mono hb.size)⟩
    · have d2 : decide ((ml : Int) < (k : Int)) = false := by simp; omega
      have d3 : decide (ml < k) = false := by simp; omega
      have hk1 : 1 ≤ k := by omega
      have hk2 : k ≤ ml := by omega
      clear h1 h2
      go_enter Tryd.func3, Tryd.ntmps3
      go_wp2_with fail
      refine hr0.mono ?_
      rintro e w1 ⟨g, cap, rfl, hr, hg, hb⟩
      have hT1 := hT.below hb hlt
      have hrm := hr.room
      rw [length_ints, hml] at hrm
      have hkc : k ≤ cap := by omega
      have HML := Lib.hid hml
      clear hr0 hml
      have HR := Lib.hid hr
      clear hr
      go_upto_region 4 with fail
      have htl : ((membersOf z).take k).length = k := by rw [List.length_take, HML.out]; omega
      have HTL := Lib.hid htl
      clear htl
      go_region_held3 (fun _ => True) (first | exact trivial) (first
        | (go_at_call 17; refine (members_any z _).mono ?_; rintro e w2 ⟨rfl, hw2⟩; have hb2 : Below w1.heap.size w1 w2 := (by rw [← hw2]; exact (below_drewN' (Below.refl _ w1) 1).alloc (Nat.le_refl _) _); have hbs : Blk w2 w1.heap.size 2 [.int .i64 z] := (by rw [← hw2]; exact Blk.new w1.drew _ [.int .i64 z]); have hT2 := hT1.below hb2 hT1.lt; have hr2 := HR.out.below hb2 HR.out.lt; have hl := list_ok z k w1.heap.size w2 hbs hT2 (by omega); rw [Int.toNat_natCast, HTL.out] at hl; have HL := Lib.hid hl; clear hw2 hbs hl)
        | (go_at_call 16; refine HL.out.mono ?_; rintro e w3 ⟨g3, cap3, rfl, hr3, hg3, hb3⟩; have hT3 := hT2.below hb3 hT2.lt; have hr4 := hr2.below hb3 hr2.lt; have hs := same_ok w3 g3 cap3 g cap ((membersOf z).take k) ((membersOf z).take k) hr3 (by have := hr4.take k; rwa [show (ints (membersOf z)).take k = ints ((membersOf z).take k) by simp [ints, List.map_take]] at this) true (by simp); rw [HTL.out] at hs; have HS := Lib.hid hs; clear hs hr3 hr4)
        | (go_at_call 15; refine HS.out.mono ?_; rintro e w4 ⟨rfl, hb4⟩; have hT4 := hT3.below hb4 hT3.lt)
        | (go_at_call 14; refine (awake12_any _ hT4).mono ?_; rintro e w5 ⟨rfl, hb5⟩))
      go_wp2_with fail
      go_ret
      have z1 := hb.size
      have z2 := hb2.size
      have z3 := hb3.size
      have z4 := hb4.size
      exact ⟨rfl, (((hb.trans (hb2.mono z1)).trans (hb3.mono (by omega))).trans (hb4.mono (by omega))).trans (hb5.mono (by omega))⟩
theorem idleBreaks_walk (W : World) (hT : Tab W) (z : Int) (_w0 : (Lit.int .i64 z).wf = true) (n : Int) (_w1 : (Lit.int .i64 n).wf = true) :
    Calls Tryd.prog 3 #[.int .i64 z, .int .i64 n] W fun e w' => e = .returned (.bool true) ∧ Below W.heap.size W w' := idleBreaks_core W hT z n
end Go.Proofs.YtkilghhknimolaaDoor
