/-
  WHAT IS PROVED HERE: the walk of the law pelotonlaw12.IdleSums: it returns true, and what was there before the call stays. Conditions: the table math/bits.deBruijn64tab lies as its initialiser lays it.
-/
import Derived.Test.YtkilghhknimolaaDoorAwakeI
import Derived.Test.YtkilghhknimolaaDoorFirstP
namespace Go.Proofs.YtkilghhknimolaaDoor
open Go.RowKit

theorem members_sorted (z : Int) : (membersOf z).Pairwise (· < ·) := by
  unfold membersOf bitsOf
  rw [List.pairwise_map]
  exact List.Pairwise.imp (fun h => by omega) (List.Pairwise.filter _ List.pairwise_lt_range)
theorem members_get {z : Int} {k : Nat} {a : Int} (h : (membersOf z)[k]? = some a) : ∃ b : Nat, a = b ∧ b < 64 ∧ hasBit z b = true := by
  have hm := List.mem_of_getElem? h
  unfold membersOf at hm
  obtain ⟨b, hb, rfl⟩ := List.mem_map.1 hm
  obtain ⟨h1, h2⟩ := mem_bitsOf.1 hb
  exact ⟨b, rfl, h1, by rw [hasBit_nat z h1]; exact h2⟩
theorem powSum_take_le (l : List Int) (k : Nat) : powSum (l.take k) ≤ powSum l := by
  have := powSum_append (l.take k) (l.drop k)
  rw [List.take_append_drop] at this
  omega
theorem powSum_take_succ {l : List Int} {k b : Nat} (h : l[k]? = some (b : Int)) : powSum (l.take (k + 1)) = powSum (l.take k) + 2 ^ b := by
  rw [List.take_add_one, h, powSum_append]
  simp [powSum]
set_option maxRecDepth 20000 in
set_option maxHeartbeats 2000000 in
theorem idleSums_walk (W : World) (hT : Tab W) (z : Int) (_w0 : (Lit.int .i64 z).wf = true) :
    Calls Tryd.prog 6 #[.int .i64 z] W fun e w' => e = .returned (.bool true) ∧ Below W.heap.size W w' := by
  have hlt := hT.lt
  obtain ⟨ms, hms⟩ : ∃ ms, membersOf z = ms := ⟨_, rfl⟩
  obtain ⟨ml, hml⟩ : ∃ ml, ms.length = ml := ⟨_, rfl⟩
  have hN : ml ≤ 64 := by rw [← hml, ← hms]; unfold membersOf; rw [List.length_map]; exact bitsOf_length _
  have htk : ms.take (100 : Int).toNat = ms := List.take_of_length_le (by rw [hml]; omega)
  have hsort : ms.Pairwise (· < ·) := by rw [← hms]; exact members_sorted z
  have hsum : powSum ms = u64 z := by rw [← hms]; exact powSum_members z
  have hul := u64_lt z
  have hsgn : IntKind.u64.signed = false := rfl
  have HML := Lib.hid hml
  have HTK := Lib.hid htk
  have HMS := Lib.hid hms
  have HSO := Lib.hid hsort
  have HSU := Lib.hid hsum
  clear hml htk hms hsort hsum _w0
  go_enter Tryd.func6, Tryd.ntmps6
  go_wp2_with fail
  refine (members_any z W).mono ?_
  rintro e w5 ⟨rfl, hw5⟩
  have hB5 : Below W.heap.size W w5 := by rw [← hw5]; exact (Below.refl _ W).alloc (Nat.le_refl _) _
  have hbs : Blk w5 W.heap.size 2 [.int .i64 z] := by rw [← hw5]; exact Blk.new W _ [.int .i64 z]
  have h := list_ok z 100 W.heap.size w5 hbs (hT.below hB5 hlt) (by omega)
  rw [HMS.out, HTK.out, HML.out] at h
  clear hw5 hbs
  go_wp2_with fail
  refine h.mono ?_
  rintro e w6 ⟨g, cap, rfl, hr, hg, hb6⟩
  have hB6 := hB5.trans (hb6.mono hB5.size)
  have hrm := hr.room
  rw [length_ints, HML.out] at hrm
  clear h hB5 hb6
  go_wp2_with fail
  go_loopw [4, 5, 6] (fun x y i wr => ∃ (k : Nat) (lst : Int), k ≤ ml ∧ x = .int .u64 (powSum (ms.take k) : Nat) ∧ y = .int .i64 lst ∧ i = .int .i64 k ∧ (∀ j a, k ≤ j → ms[j]? = some a → lst < a) ∧ wr = w6) (fun _ _ i _ => ml - (intOf i).toNat)
  case atStart => exact ⟨0, -1, Nat.zero_le _, by simp [powSum], rfl, rfl, fun j a _ h => by
    rw [← HMS.out] at h
    obtain ⟨b, rfl, _⟩ := members_get h
    omega, rfl⟩
  case round =>
    obtain ⟨k, lst, hk, rfl, rfl, rfl, hlst, rfl⟩ := hrel
    by_cases hku : k < ml
    · obtain ⟨a, ha⟩ : ∃ a, ms[k]? = some a := ⟨ms[k]'(by rw [HML.out]; exact hku), by simp [HML.out, hku]⟩
      obtain ⟨b, rfl, hb64, hbit⟩ := members_get (by rw [HMS.out]; exact ha)
      have c1 : wr.cell? ⟨g, k, none⟩ = some (.int .i64 b) := hr.cell (by rw [get_ints, ha]; rfl)
      have d1 : decide ((b : Int) ≤ lst) = false := by have := hlst k b (Nat.le_refl _) ha; simp; omega
      have d2 : decide ((63 : Int) < (b : Int)) = false := by simp; omega
      have hki : (k : Int) < (ml : Int) := by omega
      have hh := has_ok z b wr
      rw [hbit] at hh
      have hps := powSum_take_succ ha
      have hle := powSum_take_le ms (k + 1)
      rw [HSU.out] at hle
      obtain ⟨p, hp⟩ : ∃ p, powSum (ms.take k) = p := ⟨_, rfl⟩
      rw [hp] at hps ⊢
      have HH := Lib.hid hh
      have HL := Lib.hid hlst
      have HA := Lib.hid ha
      have HPS := Lib.hid hps
      have HLE := Lib.hid hle
      have HR := Lib.hid hr
      clear hh hlst hps hle hp ha hr hbit
      go_wp2_with fail
      refine HH.out.mono ?_
      rintro e wn ⟨rfl, rfl⟩
      clear HH
      go_wp2_with fail
      go_roundw
      case rel =>
        refine ⟨k + 1, b, by omega, ?_, rfl, by go_num, fun j a hj haj => ?_, by first | trivial | rfl⟩
        · have e : ((2 : Int) ^ b) = ((2 ^ b : Nat) : Int) := by simp
          have h1 := HPS.out
          have h2 := HLE.out
          rw [e, h1]
          rw [h1] at h2
          generalize 2 ^ b = P at *
          rw [IntKind.wrap_u64, IntKind.wrap_u64]
          exact int_eq (by omega)
        · obtain ⟨l1, e1⟩ := List.getElem?_eq_some_iff.1 HA.out
          obtain ⟨l2, e2⟩ := List.getElem?_eq_some_iff.1 haj
          have := List.pairwise_iff_getElem.1 HSO.out k j l1 l2 (by omega)
          rw [e1, e2] at this
          exact this
      case measure => simp [intOf]; omega
    · obtain rfl : k = ml := by omega
      have hps : powSum (ms.take k) = u64 z := by rw [List.take_of_length_le (by rw [HML.out]; exact Nat.le_refl _), HSU.out]
      rw [hps]
      have hwu := wrap_u64_cast z
      have huu : ((u64 z : Int) == (u64 z : Int)) = true := by simp
      have hc := count_ok z wr (hT.below hB6 hlt)
      rw [HMS.out, HML.out] at hc
      have hkk : ((k : Int) == (k : Int)) = true := by simp
      clear hps hlst hr hku
      go_wp2_with fail
      refine hc.mono ?_
      rintro e w7 ⟨rfl, hb7⟩
      have hB7 := hB6.trans (hb7.mono hB6.size)
      clear hc
      go_wp2_with fail
      refine (awake12_any w7 (hT.below hB7 hlt)).mono ?_
      rintro e w8 ⟨rfl, hb8⟩
      go_wp2_with fail
      go_ret
      exact ⟨rfl, hB7.trans (hb8.mono hB7.size)⟩
end Go.Proofs.YtkilghhknimolaaDoor
