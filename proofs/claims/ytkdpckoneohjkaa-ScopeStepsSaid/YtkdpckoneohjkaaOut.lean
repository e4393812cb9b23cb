/-
  WHAT IS PROVED HERE: the contract of scope's iterator 'out' (its closure keeps its state in a cell of its own). Conditions: the pointer is a tree's; the scopes around s are xs.
-/
import Derived.Test.YtkdpckoneohjkaaTreeB
import Derived.Test.YtkdpckoneohjkaaRange
import Derived.RangeFuncNested
import Derived.RangeFuncBound
import Derived.RangeFuncCalls
import Derived.RangeFuncLeaves
import Derived.Shelf.Abstract
import Derived.Shelf.RegionOpen
import Derived.WalkKit
import Derived.OwnWalkIn
import Derived.TacticsInMore
import Derived.LoopNIn
import Derived.LoopIn
import Derived.StillTailTactics
namespace Go.Proofs.Ytkdpckoneohjkaa
open Go.RowKit Go.Shelf
attribute [local go_sem] Oper.semAt_some

/-- xs is s and the scopes around it. -/
def isOut (l : List Nd) : Int → List Int → Prop
  | s, [] => s < 0
  | s, x :: xs => 0 ≤ s ∧ x = s ∧ ∃ n, l[s.toNat]? = some n ∧ n.par < s ∧ isOut l n.par xs

/-- What is left of the scopes around a scope. -/
def cellNat (w : World) (b : Nat) : Nat := match w.cell? ⟨b, 0, none⟩ with
  | some (.int _ z) => (z + 1).toNat
  | _ => 0

set_option maxRecDepth 20000 in
set_option maxHeartbeats 2000000 in
theorem out1_seq (n : Nat) (hn : 1 ≤ n) (bs bt p g : Nat) (l : List Nd) (s : Int) (xs : List Int) (w : World) (ts tt : TypeId) (hbs : Blk w bs ts [.int .i64 s]) (hbt : Blk w bt tt [.pointer (some ⟨p, 0, none⟩)]) (hT : Tr w p g l)
    (d1 : bs ≠ bt) (d2 : bs ≠ p) (d3 : bs ≠ g) (hx : isOut l s xs) :
    SeqO n Try.prog 67 #[.pointer (some ⟨bs, 0, none⟩), .pointer (some ⟨bt, 0, none⟩)] (fun x : Int => #[.int .i64 x]) (fun k => k = bt ∨ k = p ∨ k = g) (fun k => k = bs) (fun ys => ys = xs) (fun pre => pre <+: xs) xs.length w := by
  intro lp Pr Wr J Jx W hbW hSt hOwn hY h0
  have hbs := hbs.below hbW hbs.lt
  have hbt := hbt.below hbW hbt.lt
  have hT : Tr W p g l := hT.kept (Kept.of_below (S := fun k => w.heap.size ≤ k) hbW) (by have := hT.lt.1; omega) (by have := hT.lt.2; omega)
  clear hbW
  refine callsIn_of_wp Try.func67 rfl trivial ?_ rfl
  simp only [Try.ntmps67, List.size_toArray, List.length_cons, List.length_nil, Nat.reduceAdd, Nat.reduceSub, Array.replicate_succ, Array.replicate_zero, List.push_toArray, List.append_toArray, List.nil_append, List.cons_append]
  gi_wp2
  gi_loopw [4] (fun _ wr => ∃ (pre rest : List Int) (s' : Int), xs = pre ++ rest ∧ isOut l s' rest ∧ J pre wr ∧ Blk wr bs ts [.int .i64 s'] ∧ Blk wr bt tt [.pointer (some ⟨p, 0, none⟩)] ∧ Tr wr p g l)
    (fun _ wr => cellNat wr bs)
  case atStart => exact ⟨[], xs, s, rfl, hx, h0, hbs, hbt, hT⟩
  case round =>
    clear hbs hbt hT h0
    obtain ⟨pre, rest, s', hxs, ho, hJ, hbs, hbt, hT⟩ := hrel
    have c0 := hbs.cell 0
    have c1 := hbt.cell 0
    simp only [List.getElem?_cons_zero] at c0 c1
    have hms : cellNat wr bs = (s' + 1).toNat := by simp [cellNat, c0]
    cases rest with
    | nil =>
      have hneg : s' < 0 := ho
      gi_wp2
      refine ⟨fun _ h => (by cases h), ?_⟩
      gi_wp2
      go_end0
      exact ⟨⟨_, rfl⟩, .inl ⟨pre, by simp [hxs], hJ⟩⟩
    | cons x rest =>
      obtain ⟨s0, rfl, nd, hnd, hlt, ho'⟩ := ho
      obtain ⟨fn, tmps, assign, body, hy, hR⟩ := hY pre x wr hJ (by rw [hxs]; simp)
      obtain ⟨ow1, ow2⟩ := hOwn pre wr hJ
      gi_wp2
      refine hR.mono ?_
      rintro e W3 (⟨rfl, hJ3, hk3, hp3⟩ | ⟨rfl, hJx3⟩)
      · have nbs : ¬ Wr wr bs := fun e => ow2 bs rfl (hSt.sub _ _ _ hJ e)
        have hbs3 := hbs.kept hk3 nbs
        have hbt3 := hbt.kept hk3 (ow1 bt (.inl rfl))
        have hT3 := hT.kept hk3 (ow1 p (.inr (.inl rfl))) (ow1 g (.inr (.inr rfl)))
        clear c0 c1
        have c0 := hbs3.cell 0
        have c1 := hbt3.cell 0
        have f0 := hbs3.frozen 0
        simp only [List.getElem?_cons_zero] at c0 c1
        obtain ⟨cap, ch, l1, l2⟩ := hT3.head
        have hsl := (List.getElem?_eq_some_iff.1 hnd).1
        have cn := (hT3.node x.toNat hsl).1
        rw [(List.getElem?_eq_some_iff.1 hnd).2] at cn
        have hsl' : x < (l.length : Int) := by omega
        gi_wp2
        refine wpIn_wide.2 ?_
        go_still_tail 8, (by kernel_rfl)
        change wpList _ _ _ _ _ W3.drew
        go_wp2
        have kS : Kept (fun k => k = bs) W3 (W3.setCell ⟨bs, 0, none⟩ (.int .i64 nd.par)).drew := ((Kept.refl (fun k => k = bs) W3).setCell (p := ⟨bs, 0, none⟩) (.inl rfl) _).drew
        have npr : ¬ Pr W3 bs := fun e => (ow2 bs rfl) (hp3 bs hbs.lt e)
        obtain ⟨hJ4, _, _⟩ := hSt.go _ _ _ hJ3 (kS.mono (fun k _ e => by rw [e]; exact npr))
        have b4 : Blk (W3.setCell ⟨bs, 0, none⟩ (.int .i64 nd.par)).drew bs ts [.int .i64 nd.par] := hbs3.set 0 (.int .i64 nd.par)
        refine ⟨⟨pre ++ [x], rest, nd.par, by simp [hxs], ho', hJ4, b4, hbt3.kept kS (Ne.symm d1), hT3.kept kS (Ne.symm d2) (Ne.symm d3)⟩, ?_⟩
        have c4 := b4.cell 0
        simp only [List.getElem?_cons_zero] at c4
        rw [hms]
        simp only [cellNat, c4]
        omega
      · gi_wp2
        go_end0
        exact ⟨⟨_, rfl⟩, .inr ⟨pre ++ [x], ⟨rest, by simp [hxs]⟩, hJx3⟩⟩

theorem out_any (p : Nat) (s : Int) (w : World) :
    Calls Try.prog 62 #[.pointer (some ⟨p, 0, none⟩), .int .i64 s] w fun e w' => e = .returned (.func (.func 67) #[] #[.pointer (some ⟨w.heap.size + 1, 0, none⟩), .pointer (some ⟨w.heap.size, 0, none⟩)]) ∧
      (w.alloc (.cells #[.pointer (some ⟨p, 0, none⟩)] 53)).alloc (.cells #[.int .i64 s] 3) = w' := by
  go_enter Try.func62, Try.ntmps62
  go_wp2
  go_ret
  exact ⟨rfl, by first | trivial | rfl⟩
end Go.Proofs.Ytkdpckoneohjkaa
