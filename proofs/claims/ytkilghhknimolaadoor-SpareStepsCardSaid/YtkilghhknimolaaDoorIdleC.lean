/-
  WHAT IS PROVED HERE: the contract of idle's iterator over the workers among bits. Conditions: the table math/bits.deBruijn64tab lies as its initialiser lays it.
-/
import Derived.Test.YtkilghhknimolaaDoorIdleB
import Derived.StillTailTactics
namespace Go.Proofs.YtkilghhknimolaaDoor
open Go.RowKit Go.Shelf
attribute [local go_sem] Oper.semAt_some

/-- The workers among bits, rising. -/
def membersOf (z : Int) : List Int := (bitsOf (u64 z)).map fun (n : Nat) => (n : Int)
def natOf : Value → Nat
  | .int _ z => z.toNat
  | _ => 0
set_option maxRecDepth 20000 in
set_option maxHeartbeats 2000000 in
theorem members_seq (n : Nat) (hn : 2 ≤ n) (bs : Nat) (z : Int) (w : World) (ts : TypeId) (hbs : Blk w bs ts [.int .i64 z]) (hT : Tab w) :
    SeqO n Tryd.prog 48 #[.pointer (some ⟨bs, 0, none⟩)] (fun x : Int => #[.int .i64 x]) (fun k => k = bs ∨ k = 0) (fun _ => False) (fun ys => ys = membersOf z) (fun pre => pre <+: membersOf z) (membersOf z).length w := by
  intro lp Pr Wr J Jx W hbW hSt hOwn hY h0
  have hbs := hbs.below hbW hbs.lt
  have hT : Tab W := hT.below hbW hT.lt
  clear hbW
  have c0 := hbs.cell 0
  simp only [List.getElem?_cons_zero] at c0
  have hs : IntKind.u64.signed = false := rfl
  have hxs : u64 z < 18446744073709551616 := u64_lt z
  have hwr := wrap_u64_cast z
  refine callsIn_of_wp Tryd.func48 rfl trivial ?_ rfl
  simp only [Tryd.ntmps48, List.size_toArray, List.length_cons, List.length_nil, Nat.reduceAdd, Nat.reduceSub, Array.replicate_succ, Array.replicate_zero, List.push_toArray, List.append_toArray, List.nil_append, List.cons_append]
  gi_wp2
  gi_loopw [3] (fun v wr => ∃ (pre : List Int) (x : Nat), membersOf z = pre ++ (bitsOf x).map (fun (n : Nat) => (n : Int)) ∧ v = .int .u64 x ∧ x < 18446744073709551616 ∧ J pre wr ∧ Tab wr) (fun v _ => natOf v)
  case atStart => exact ⟨[], u64 z, rfl, rfl, hxs, h0, hT⟩
  case round =>
    clear hT h0
    obtain ⟨pre, x, hxs, rfl, hx, hJ, hT⟩ := hrel
    by_cases hx0 : x = 0
    · subst hx0
      rw [bitsOf_zero] at hxs
      have HXS := Lib.hid hxs
      clear hxs hwr
      gi_wp2
      go_end0
      exact ⟨⟨_, rfl⟩, .inl ⟨pre, by rw [HXS.out]; simp, hJ⟩⟩
    · obtain ⟨hb, hlt⟩ := bitsOf_next hx0 hx
      obtain ⟨t, ht⟩ : ∃ t, Lib.ctz 64 x = t := ⟨_, rfl⟩
      have htz := tz_ok x hx wr hT
      rw [ht] at htz hb
      rw [hb] at hxs
      have e0 : ((x : Int) == 0) = false := by simp; omega
      have e1 : ((x : Int) != 0) = true := by simp; omega
      have esub : IntKind.u64.wrap ((x : Int) - 1) = ((x - 1 : Nat) : Int) := by rw [IntKind.wrap_u64]; omega
      have eand := bits_and_u64_nat x (x - 1) hx (by omega)
      obtain ⟨fn, tmps, assign, body, hy, hR⟩ := hY pre t wr hJ (by rw [hxs]; simp)
      obtain ⟨ow1, ow2⟩ := hOwn pre wr hJ
      have HTZ := Lib.hid htz
      have HXS := Lib.hid hxs
      have HB := Lib.hid hb
      have HLT := Lib.hid hlt
      have HX0 := Lib.hid hx0
      have HX := Lib.hid hx
      clear htz hxs hb hlt ht hx0 hx hwr
      gi_wp2_with fail
      refine ⟨trivial, fun _ => by omega, ?_⟩
      refine (callsIn_wide.2 HTZ.out).mono ?_
      rintro e w2 ⟨rfl, rfl⟩
      clear HTZ
      gi_wp2
      refine ⟨fun _ => by omega, ?_⟩
      refine hR.mono ?_
      rintro e W3 (⟨rfl, hJ3, hk3, hp3⟩ | ⟨rfl, hJx3⟩)
      · have hT3 := hT.kept hk3 (ow1 0 (.inr rfl))
        have HT3 := Lib.hid hT3
        have HJ3 := Lib.hid hJ3
        clear hT3 hT hJ hJ3 hk3 hp3 hR hy
        gi_wp2
        refine ⟨⟨pre ++ [(t : Int)], x &&& (x - 1), by rw [HXS.out]; simp, rfl, Nat.lt_trans HLT.out HX.out, HJ3.out, HT3.out⟩, ?_⟩
        have := HLT.out
        simp only [natOf]
        omega
      · gi_wp2
        refine bodyPost_ret (results_none rfl _ _ _) rfl ?_
        exact ⟨⟨_, rfl⟩, .inr ⟨pre ++ [(t : Int)], ⟨(bitsOf (x &&& (x - 1))).map (fun (n : Nat) => (n : Int)), by rw [HXS.out]; simp⟩, hJx3⟩⟩
theorem members_any (z : Int) (w : World) :
    Calls Tryd.prog 17 #[.int .i64 z] w fun e w' => e = .returned (.func (.func 48) #[] #[.pointer (some ⟨w.heap.size, 0, none⟩)]) ∧ w.alloc (.cells #[.int .i64 z] 2) = w' := by
  go_enter Tryd.func17, Tryd.ntmps17
  go_wp2
  go_ret
  exact ⟨rfl, by first | trivial | rfl⟩
end Go.Proofs.YtkilghhknimolaaDoor
