/-
  WHAT IS PROVED HERE: the contract of pelotonlaw14's around. Conditions: the list is that of a tree, the first number is a scope's.
-/
import Derived.Test.YtkdpckoneohjkaaQuiet
namespace Go.Proofs.Ytkdpckoneohjkaa
open Go.RowKit

set_option maxRecDepth 20000 in
set_option maxHeartbeats 1000000 in
theorem around_ok (w : World) (bi ci : Nat) (L : List Sc) (hr : Rw w bi ci 3 (ints (L.map Sc.par))) (hw : WfS L) (s : Nat) (n : Sc) (hn : L[s]? = some n) (o : Nat) (v : Bool) (hv : v = decide ((o : Int) ∈ outs L s)) :
    Calls Try.prog 32 #[.slice (some ⟨bi, 0, none⟩) L.length ci, .int .i64 s, .int .i64 o] w fun e w' => e = .returned (.bool v) ∧ w = w' := by
  have HV := Lib.hid hv
  have HN := Lib.hid hn
  clear hv hn
  go_enter Try.func32, Try.ntmps32
  go_wp2_with fail
  go_loopw [1] (fun x wr => wr = w ∧ ∃ y : Int, x = .int .i64 y ∧ ((y = -1 ∧ v = false) ∨ ∃ (k : Nat) (m : Sc), y = k ∧ L[k]? = some m ∧ v = decide ((o : Int) ∈ outs L k))) (fun x _ => (intOf x + 1).toNat)
  case atStart => exact ⟨rfl, s, rfl, .inr ⟨s, n, rfl, HN.out, HV.out⟩⟩
  case round =>
    clear HV HN
    obtain ⟨rfl, y, rfl, hy⟩ := hrel
    rcases hy with ⟨rfl, rfl⟩ | ⟨k, m, rfl, hm, hv⟩
    · have d1 : decide ((0 : Int) ≤ -1) = false := rfl
      have d2 : ((-1 : Int) == (o : Int)) = false := by rw [beq_eq_false_iff_ne]; omega
      go_wp2_with fail
      go_ret
      exact ⟨rfl, rfl⟩
    · have hk := sc_lt hm
      have hout := hw.outs_eq hm
      have hpar := hw.par0 hm
      by_cases e : k = o
      · have d3 : ((k : Int) != (o : Int)) = false := by simp [e]
        have d4 : ((k : Int) == (o : Int)) = true := by simp [e]
        have hvt : v = true := by rw [hv, hout, e]; simp
        subst hvt
        clear hv hout hpar
        go_wp2_with fail
        go_ret
        exact ⟨rfl, rfl⟩
      · have d3 : ((k : Int) != (o : Int)) = true := by simp; omega
        have d4 : ((k : Int) == (o : Int)) = false := by simp; omega
        have c1 := hr.cell (int_row Sc.par hm)
        have hrm := hr.room
        rw [len_row] at hrm
        obtain ⟨u, hu⟩ : ∃ u, m.par = u := ⟨_, rfl⟩
        rw [hu] at c1
        have HU := Lib.hid hu
        have HV := Lib.hid hv
        have HO := Lib.hid hout
        have HP := Lib.hid hpar
        have hge := Lib.hid (hw.par_ge hm)
        have hlt := Lib.hid (hw.par_lt hm)
        clear hu hv hout hpar
        go_wp2_with fail
        go_roundw
        case rel =>
          have hu := HU.out
          have hv := HV.out
          rw [HO.out, hu] at hv
          refine ⟨by first | trivial | rfl, u, rfl, ?_⟩
          by_cases e0 : k = 0
          · have h1 : ¬ 0 ≤ m.par := fun h => (HP.out.2 h) e0
            have h2 := hge.out
            left
            refine ⟨by omega, ?_⟩
            rw [hv, outs_neg (by omega)]
            simp; omega
          · right
            obtain ⟨q, m2, a, b, c, d⟩ := hw.up k m hm (by omega)
            refine ⟨q, m2, by omega, c, ?_⟩
            have a' : u = (q : Int) := by omega
            rw [hv, a']
            have ne : ¬ ((o : Int) = (k : Int)) := by omega
            simp [ne]
        case measure =>
          have := HU.out
          have := hlt.out
          have := hge.out
          simp [intOf]; omega
end Go.Proofs.Ytkdpckoneohjkaa
