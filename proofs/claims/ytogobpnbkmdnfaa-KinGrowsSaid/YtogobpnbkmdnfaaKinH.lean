/-
  WHAT IS PROVED HERE: the contract of slices.Backward's iterator over a list of numbers. Conditions: the list is one's own.
-/
import Derived.Test.YtogobpnbkmdnfaaKinG
import Derived.Test.YtogobpnbkmdnfaaRange
import Derived.Shelf.Abstract
import Derived.Shelf.RegionOpen
import Derived.OwnWalkIn
import Derived.TacticsInMore
import Derived.LoopNIn
import Derived.LoopIn
namespace Go.Proofs.Ytogobpnbkmdnfaa
open Go.RowKit Go.Shelf
attribute [local go_sem] Oper.semAt_some

/-- The first m numbers of a list with their places, the last one first. -/
def backF (xs : List Int) (m : Nat) : List (Nat × Int) := (List.range m).reverse.map fun i => (i, xs.getD i 0)
theorem backF_succ (xs : List Int) (m : Nat) : backF xs (m + 1) = (m, xs.getD m 0) :: backF xs m := by simp [backF, List.range_succ]
theorem length_backF (xs : List Int) (m : Nat) : (backF xs m).length = m := by simp [backF]
theorem backF_snd (xs : List Int) : (backF xs xs.length).map (·.2) = xs.reverse := by
  unfold backF
  rw [List.map_map, List.map_reverse]
  congr 1
  apply List.ext_getElem?
  intro i
  by_cases h : i < xs.length
  · simp [h]
  · rw [List.getElem?_eq_none (by simp; omega), List.getElem?_eq_none (by omega)]
def encB (x : Nat × Int) : Array Value := #[.int .i64 x.1, .int .i64 x.2]
set_option maxRecDepth 20000 in
set_option maxHeartbeats 2000000 in
theorem back1_seq (n : Nat) (hn : 1 ≤ n) (bs : Nat) (A : Option Addr) (cap : Nat) (xs : List Int) (few : xs.length ≤ 1000) (w : World) (ts : TypeId) (hbs : Blk w bs ts [.slice A xs.length cap]) (hls : Ls w 0 A cap xs) :
    SeqO n Try.prog 37 #[.pointer (some ⟨bs, 0, none⟩)] encB (fun k => k = bs ∨ A = some ⟨k, 0, none⟩) (fun _ => False) (fun ys => ys = backF xs xs.length) (fun pre => pre <+: backF xs xs.length) xs.length w := by
  intro lp Pr Wr J Jx W hbW hSt hOwn hY h0
  have hbs := hbs.below hbW hbs.lt
  have hls := hls.below hbW (Nat.le_refl _)
  clear hbW
  have c0 : W.cell? ⟨bs, 0, none⟩ = some (.slice A xs.length cap) := hbs.cell 0
  refine callsIn_of_wp Try.func37 rfl trivial ?_ rfl
  simp only [Try.ntmps37, List.size_toArray, List.length_cons, List.length_nil, Nat.reduceAdd, Nat.reduceSub, Array.replicate_succ, Array.replicate_zero, List.push_toArray, List.append_toArray, List.nil_append, List.cons_append]
  gi_wp2
  clear c0
  gi_loopw [3] (fun v wr => ∃ (pre : List (Nat × Int)) (m : Nat), m ≤ xs.length ∧ backF xs xs.length = pre ++ backF xs m ∧ v = .int .i64 ((m : Int) - 1) ∧ J pre wr ∧ Blk wr bs ts [.slice A xs.length cap] ∧ Ls wr 0 A cap xs) (fun v _ => (intOf v + 1).toNat)
  case atStart => exact ⟨[], xs.length, Nat.le_refl _, rfl, by go_num, h0, hbs, hls⟩
  case round =>
    clear hbs hls h0
    obtain ⟨pre, m, hm, hpre, rfl, hJ, hbs, hls⟩ := hrel
    cases m with
    | zero =>
      have hdone : backF xs xs.length = pre := by rw [hpre]; simp [backF]
      have HD := Lib.hid hdone
      clear hpre hdone
      gi_wp2
      go_end0
      exact ⟨⟨_, rfl⟩, .inl ⟨pre, HD.out.symm, hJ⟩⟩
    | succ m =>
      have hml : m < xs.length := by omega
      rw [backF_succ] at hpre
      obtain ⟨v, hv⟩ : ∃ v, xs.getD m 0 = v := ⟨_, rfl⟩
      rw [hv] at hpre
      have hv' : xs[m]? = some v := by rw [← hv]; simp [hml]
      obtain ⟨g, rfl, cv⟩ := hls.get hv'
      have c0 : wr.cell? ⟨bs, 0, none⟩ = some (.slice (some ⟨g, 0, none⟩) xs.length cap) := hbs.cell 0
      have hplt : pre.length < xs.length := by
        have := congrArg List.length hpre
        rw [length_backF, List.length_append, List.length_cons, length_backF] at this
        omega
      obtain ⟨fn, tmps, assign, body, hy, hR⟩ := hY pre (m, v) wr hJ hplt
      obtain ⟨ow1, ow2⟩ := hOwn pre wr hJ
      have e1 : (((m + 1 : Nat) : Int) - 1) = (m : Int) := by omega
      have hmi : (m : Int) < (xs.length : Int) := by omega
      rw [e1]
      have HPRE := Lib.hid hpre
      clear hpre hv hv' e1
      simp only [encB] at hy hR
      gi_wp2
      refine hR.mono ?_
      rintro e W3 (⟨rfl, hJ3, hk3, hp3⟩ | ⟨rfl, hJx3⟩)
      · have hbs3 := hbs.kept hk3 (ow1 bs (.inl rfl))
        have hls3 := hls.kept hk3 (fun k e => ow1 k (.inr e))
        have HB3 := Lib.hid hbs3
        have HL3 := Lib.hid hls3
        have HJ3 := Lib.hid hJ3
        clear hbs hls hJ hbs3 hls3 hJ3 hk3 hp3 hR hy c0 cv
        gi_wp2
        refine ⟨⟨pre ++ [(m, v)], m, by omega, by rw [HPRE.out]; simp, rfl, HJ3.out, HB3.out, HL3.out⟩, ?_⟩
        simp only [intOf]
        omega
      · clear hbs hls hJ hR hy c0 cv
        gi_wp2
        refine bodyPost_ret (results_none rfl _ _ _) rfl ?_
        exact ⟨⟨_, rfl⟩, .inr ⟨pre ++ [(m, v)], ⟨backF xs m, by rw [HPRE.out]; simp⟩, hJx3⟩⟩
theorem backward_any (A : Option Addr) (n cap : Nat) (w : World) :
    Calls Try.prog 35 #[.slice A n cap] w fun e w' => e = .returned (.func (.func 37) #[] #[.pointer (some ⟨w.heap.size, 0, none⟩)]) ∧ w.alloc (.cells #[.slice A n cap] 22) = w' := by
  go_enter Try.func35, Try.ntmps35
  go_wp2
  go_ret
  exact ⟨rfl, by first | trivial | rfl⟩
theorem all_any (t : Option Addr) (w : World) :
    Calls Try.prog 21 #[.pointer t] w fun e w' => e = .returned (.func (.func 34) #[] #[.pointer (some ⟨w.heap.size, 0, none⟩)]) ∧ w.alloc (.cells #[.pointer t] 25) = w' := by
  go_enter Try.func21, Try.ntmps21
  go_wp2
  go_ret
  exact ⟨rfl, by first | trivial | rfl⟩
end Go.Proofs.Ytogobpnbkmdnfaa
