/-
  WHAT IS PROVED HERE: contracts of kin's Descends, Find, Kids (slices.Clone), Path (slices.Reverse). Conditions: the pointer is a tree's, or nil.
-/
import Derived.Test.YtogobpnbkmdnfaaKinA
import Derived.BigQuiet
import Derived.Deep.QuietTactic
import Derived.Deep.RegionLaw
import Derived.Deep.DeepCutAuto
import Derived.Deep.CutBlock
import Derived.OwnWalk
import Derived.Laws.OwnMore
namespace Go.Proofs.Ytogobpnbkmdnfaa
open Go.RowKit

theorem info_int : ∃ i0, Try.prog.info? 3 = some i0 ∧ i0.zero = some (.int .i64 0) ∧ i0.size = 1 ∧ i0.bytes = 8 := by
  have h : (Try.prog.info? 3).map (fun i => (i.zero, i.size, i.bytes)) = some (some (.int .i64 0), 1, 8) := by kernel_rfl
  cases hc : Try.prog.info? 3 with
  | none => rw [hc] at h; simp at h
  | some i =>
    rw [hc] at h
    simp at h
    exact ⟨i, rfl, h.1, h.2.1, h.2.2⟩

section
variable {w : World} {p : Nat} {own : Nat → Prop} {l : List Int}
set_option maxRecDepth 20000 in
set_option maxHeartbeats 1000000 in
theorem kdesc_ok (hT : KT w p own l) (x o : Int) (v : Bool) (hv : descI l x o = v) :
    Calls Try.prog 11 #[.pointer (some ⟨p, 0, none⟩), .int .i64 x, .int .i64 o] w fun e w' => e = .returned (.bool v) ∧ Below w.heap.size w w' := by
  have b1 := kbox2 w 3 x o
  have bb : Below w.heap.size w (w.alloc (.cells #[.int .i64 x, .int .i64 o] 3)) := (Below.refl _ w).alloc (Nat.le_refl _) _
  have hT1 := hT.below bb (Nat.le_refl _)
  have hh := khas_any p own l [x, o] _ _ _ hT1 b1 (by simp)
  cases hb : [x, o].all (inK l.length) with
  | false =>
    rw [hb] at hh
    obtain rfl : v = false := by
      rw [← hv]; unfold descI
      cases h1 : inK l.length x <;> cases h2 : inK l.length o <;> simp [h1, h2] at hb ⊢
    go_enter Try.func11, Try.ntmps11
    go_wp2_with (go_at_call 32; refine hh.mono ?_; rintro e w' ⟨rfl, rfl⟩)
    go_ret
    exact ⟨rfl, bb⟩
  | true =>
    rw [hb] at hh
    have h12 : inK l.length x = true ∧ inK l.length o = true := by simpa using hb
    obtain ⟨x, rfl, hx⟩ := inK_get h12.1
    obtain ⟨o, rfl, ho⟩ := inK_get h12.2
    have hv' : desc l x o = v := by
      rw [← hv]; unfold descI; rw [h12.1, h12.2]; simp
    obtain ⟨g, cap, c0, hcap, hm, hog, hnd⟩ := hT1.open (by omega)
    have hwf := hT.wf
    have HN := Lib.hid hnd
    have HW := Lib.hid hwf
    clear hT hb hv h12 hnd hwf b1
    go_enter Try.func11, Try.ntmps11
    go_wp2_with (go_at_call 32; refine hh.mono ?_; rintro e w' ⟨rfl, rfl⟩)
    generalize w.alloc (.cells #[.int .i64 x, .int .i64 o] 3) = w1 at *
    clear hh hT1
    go_loopw [1] (fun i wr => ∃ y : Nat, y < l.length ∧ i = .int .i64 y ∧ desc l y o = v ∧ w1 = wr) (fun i _ => (intOf i).toNat)
    case atStart => exact ⟨x, hx, rfl, hv', by first | trivial | rfl⟩
    case round =>
      clear hv'
      obtain ⟨y, hy, rfl, hd, rfl⟩ := hrel
      have cn := (HN.out y hy).par
      have hyi : (y : Int) < (l.length : Int) := by omega
      by_cases hlt : o < y
      · have hp := HW.out.pos hy (by omega)
        rw [desc_gt HW.out hy hlt] at hd
        obtain ⟨q, hq⟩ : ∃ q : Nat, parN l y = q := ⟨(parN l y).toNat, by omega⟩
        rw [hq] at cn hd hp
        rw [Int.toNat_natCast] at hd
        have d1 : decide ((o : Int) < (y : Int)) = true := by simp; omega
        have HD := Lib.hid hd
        have HP := Lib.hid hp
        clear hd hp hq
        go_wp2_with fail
        go_roundw
        case rel => exact ⟨q, by have := HP.out; omega, rfl, HD.out, by first | trivial | rfl⟩
        case measure => have := HP.out; simp [intOf]; omega
      · rw [desc_le HW.out hy (by omega)] at hd
        have d1 : decide ((o : Int) < (y : Int)) = false := by simp; omega
        have e1 : ((y : Int) == (o : Int)) = v := by
          rw [← hd]
          by_cases e : y = o
          · subst e; simp
          · rw [decide_eq_false e]; simp; omega
        clear hd
        go_wp2_with fail
        go_ret
        exact ⟨rfl, bb⟩
end
theorem kdesc_nil (x o : Int) (w : World) :
    Calls Try.prog 11 #[.pointer none, .int .i64 x, .int .i64 o] w fun e w' => e = .returned (.bool false) ∧ Below w.heap.size w w' := by
  have b1 := kbox2 w 3 x o
  have bb : Below w.heap.size w (w.alloc (.cells #[.int .i64 x, .int .i64 o] 3)) := (Below.refl _ w).alloc (Nat.le_refl _) _
  go_enter Try.func11, Try.ntmps11
  go_wp2_with (go_at_call 32; refine (khas_nil [x, o] _ _ _ b1 (by simp)).mono ?_; rintro e w' ⟨rfl, rfl⟩)
  go_ret
  exact ⟨rfl, bb⟩

/-! ## Find -/
/-- What Find tells: the task and the code. -/
def findV (l : List Int) (q : List Int) : Int × Int := if l = [] then (0, 17) else match findN l 0 q with
  | some y => (y, 0)
  | none => (0, 17)
theorem findN_none_of {l : List Int} {x : Nat} {q : List Int} {k : Nat} {y : Nat} {n : Int} (h : findN l x (q.take k) = some y) (hk : q[k]? = some n) (hn : ¬ (0 ≤ n ∧ n < (kN l y).length)) : findN l x q = none := by
  have e : q = q.take k ++ n :: q.drop (k + 1) := by
    obtain ⟨hl, he⟩ := List.getElem?_eq_some_iff.1 hk
    rw [← he, List.getElem_cons_drop, List.take_append_drop]
  rw [e, findN_append, h, Option.bind_some]
  simp only [findN]
  split
  · rw [List.getElem?_eq_none (by omega)]; rfl
  · rfl
theorem findN_take {l : List Int} {x : Nat} {q : List Int} {k : Nat} {y : Nat} {n : Int} (h : findN l x (q.take k) = some y) (hk : q[k]? = some n) (h0 : 0 ≤ n) {z : Nat} (hz : (kN l y)[n.toNat]? = some z) : findN l x (q.take (k + 1)) = some z := by
  rw [List.take_add_one, hk, findN_append, h, Option.bind_some, Option.toList_some]
  simp only [findN]
  rw [if_pos h0, hz]; rfl
section
variable {w : World} {p : Nat} {own : Nat → Prop} {l : List Int}
set_option maxRecDepth 20000 in
set_option maxHeartbeats 1000000 in
theorem kfind_ok (hT : KT w p own l) (A : Option Addr) (cap : Nat) (q : List Int) (hq : Sv w A q) (hm : q.length ≤ maxLen) (u v : Int) (hv : findV l q = (u, v)) :
    Calls Try.prog 17 #[.pointer (some ⟨p, 0, none⟩), .slice A q.length cap] w fun e w' => e = .returned (.tuple #[.int .i64 u, .int .i64 v]) ∧ w = w' := by
  by_cases h0 : l = []
  · subst h0
    obtain ⟨A1, cap1, c0, _, _⟩ := hT.head
    obtain ⟨rfl, rfl⟩ : u = 0 ∧ v = 17 := by simp [findV] at hv; omega
    clear hT hv hq
    simp only [List.length_nil] at c0
    go_enter Try.func17, Try.ntmps17
    go_wp2_with fail
    go_ret2
    exact ⟨rfl, by first | trivial | rfl⟩
  · have hl0 : 0 < l.length := List.length_pos_iff.2 h0
    obtain ⟨g, gc, c0, hcap, hgm, hog, hnd⟩ := hT.open hl0
    have hwf := hT.wf
    unfold findV at hv
    rw [if_neg h0] at hv
    have HN := Lib.hid hnd
    have HW := Lib.hid hwf
    have HQ := Lib.hid hq
    have HV := Lib.hid hv
    have dn : ((l.length : Int) == 0) = false := by simp; omega
    have hql : (q.length : Int) ≤ 9223372036854775807 := by unfold maxLen at hm; omega
    clear hT hnd hwf h0 hq hv
    go_enter Try.func17, Try.ntmps17
    go_wp2_with fail
    go_loopw [6, 22] (fun x i wr => ∃ (y k : Nat), k ≤ q.length ∧ y < l.length ∧ x = .int .i64 y ∧ i = .int .i64 k ∧ findN l 0 (q.take k) = some y ∧ w = wr) (fun _ i _ => q.length - (intOf i).toNat)
    case atStart => exact ⟨0, 0, Nat.zero_le _, hl0, rfl, rfl, rfl, by first | trivial | rfl⟩
    case round =>
      obtain ⟨y, k, hk, hy, rfl, rfl, hf, rfl⟩ := hrel
      have HF := Lib.hid hf
      clear hf
      by_cases hlt : k < q.length
      · obtain ⟨n, hn⟩ : ∃ n, q[k]? = some n := ⟨q[k], by simp [hlt]⟩
        obtain ⟨b, off, rfl, hb, hc⟩ := HQ.out (by omega)
        have cq := hc k n hn
        obtain ⟨A2, cap2, ck, hls, _, _⟩ := (HN.out y hy).kids
        have hyi : (y : Int) < (l.length : Int) := by omega
        have hki : (k : Int) < (q.length : Int) := by omega
        have HNN := Lib.hid hn
        have hroom := hls.room
        rw [length_nI] at hroom
        clear hn hc
        by_cases hneg : n < 0
        · have hnone := findN_none_of HF.out HNN.out (by omega)
          obtain ⟨rfl, rfl⟩ : u = 0 ∧ v = 17 := by have := HV.out; rw [hnone] at this; simp at this; omega
          have d1 : decide (n < 0) = true := by simp; omega
          clear hnone hls
          go_wp2_with fail
          go_ret2
          exact ⟨rfl, by first | trivial | rfl⟩
        · have d1 : decide (n < 0) = false := by simp; omega
          by_cases hge : ((kN l y).length : Int) ≤ n
          · have hnone := findN_none_of HF.out HNN.out (by omega)
            obtain ⟨rfl, rfl⟩ : u = 0 ∧ v = 17 := by have := HV.out; rw [hnone] at this; simp at this; omega
            have d2 : decide (((kN l y).length : Int) ≤ n) = true := by simp; omega
            clear hnone hls
            go_wp2_with fail
            go_ret2
            exact ⟨rfl, by first | trivial | rfl⟩
          · have d2 : decide (((kN l y).length : Int) ≤ n) = false := by simp; omega
            obtain ⟨m, rfl⟩ : ∃ m : Nat, n = m := ⟨n.toNat, by omega⟩
            have hml : m < (kN l y).length := by omega
            obtain ⟨z, hz⟩ : ∃ z, (kN l y)[m]? = some z := ⟨(kN l y)[m], by simp [hml]⟩
            obtain ⟨gk, rfl, ckz⟩ := hls.get (j := m) (x := z) (by rw [get_nI, hz]; rfl)
            have hzl := (nthN_kid hz).1
            have hzt := findN_take HF.out HNN.out (by omega) (z := z) (by simpa using hz)
            have hmi : (m : Int) < ((kN l y).length : Int) := by omega
            have HZ := Lib.hid hzt
            clear hz hls hzt hge hneg
            go_wp2_with fail
            go_roundw
            case rel => exact ⟨z, k + 1, by omega, hzl, rfl, by go_num, HZ.out, by first | trivial | rfl⟩
            case measure => simp [intOf]; omega
      · obtain rfl : k = q.length := by omega
        have hfy : findN l 0 q = some y := by have := HF.out; rwa [List.take_length] at this
        obtain ⟨rfl, rfl⟩ : u = y ∧ v = 0 := by have := HV.out; rw [hfy] at this; simp at this; omega
        clear hfy
        go_wp2_with fail
        go_ret2
        exact ⟨rfl, by first | trivial | rfl⟩
end
theorem kfind_nil (A : Option Addr) (n cap : Nat) (w : World) :
    Calls Try.prog 17 #[.pointer none, .slice A n cap] w fun e w' => e = .returned (.tuple #[.int .i64 0, .int .i64 2]) ∧ w = w' := by
  go_enter Try.func17, Try.ntmps17
  go_wp2_with fail
  go_ret2
  exact ⟨rfl, by first | trivial | rfl⟩
end Go.Proofs.Ytogobpnbkmdnfaa
