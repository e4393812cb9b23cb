/-
  WHAT IS PROVED HERE: contracts of pelotonlaw14's looks and awake. Conditions: as in the contracts.
-/
import Derived.Test.YtkdpckoneohjkaaTreeH
namespace Go.Proofs.Ytkdpckoneohjkaa
open Go.RowKit

section
variable {W0 w : World} {mb : MB} {p g : Nat} {size : Int} {k : Nat} {did : Int} {l : List Sc}
set_option maxRecDepth 20000 in
set_option maxHeartbeats 2000000 in
theorem slooks_ok (h : SD W0 w mb p g size k did l) (s q : Nat) (n m : Sc) (hn : l[s]? = some n) (ha : n.ask = 0) (hs : s ≠ 0) (hq : n.par = q) (hm : l[q]? = some m) (want : Bool) (hw : want = decide (¬ m.ask = 0)) (hd : (want || decide (q = 0)) = true) (hk : 0 < k) (hb : did < 4000000) :
    Calls Try.prog 59 #[.pointer (some ⟨p, 0, none⟩), .pointer (some ⟨mb.p, 0, none⟩), .int .i64 s, .int .i64 2, .bool want] w fun e w' =>
      e = .returned (.bool true) ∧ SD W0 w' mb p g size k (did + 2) l := by
  go_enter Try.func59, Try.ntmps59
  go_wp2_with fail
  refine (sd_look h s n hn).mono ?_
  rintro e w1 ⟨b, rfl, hbs, hnb, hbW, hL1, h1, _⟩
  have HS := Lib.hid hs
  have HA := Lib.hid ha
  have HQ := Lib.hid hq
  have HW := Lib.hid hw
  have HD := Lib.hid hd
  clear h hs ha hq hw hd
  go_wp2_with fail
  go_loopw [13] (fun i wr => ∃ (j a : Nat) (d : Int), i = .int .i64 j ∧ ((j = 1 ∧ a = s ∧ d = did) ∨ (j = 2 ∧ a = q ∧ d = did + 1)) ∧ Lk wr b p a false false ∧ SD W0 wr mb p g size k d l) (fun i _ => 2 - (intOf i).toNat)
  case atStart => exact ⟨1, s, did, rfl, .inl ⟨rfl, rfl, rfl⟩, hL1, h1⟩
  case round =>
    clear hL1 h1
    obtain ⟨j, a, d, rfl, hj, hL, hS⟩ := hrel
    rcases hj with ⟨rfl, rfl, rfl⟩ | ⟨rfl, rfl, rfl⟩
    · go_wp2_with fail
      refine (sd_step hS 0 (by omega) (by omega) (by omega) b a n false hL hnb hbW hn false false (by simp [HA.out]) (by simp [HS.out])).mono ?_
      rintro e w2 ⟨rfl, hS2, hL2, _⟩
      rw [HQ.out] at hL2
      clear hS hL
      go_wp2_with fail
      go_roundw
      case rel => exact ⟨2, q, d + 1, by rfl, .inr ⟨rfl, rfl, rfl⟩, hL2, hS2⟩
      case measure => simp [intOf]
    · go_wp2_with fail
      refine (sd_step hS 0 (by omega) (by omega) (by omega) b a m false hL hnb hbW hm want true HW.out (by rw [HD.out])).mono ?_
      rintro e w2 ⟨rfl, hS2, hL2, _⟩
      have hxx : (want == want) = true := by simp
      rw [show did + 1 + 1 = did + 2 by omega] at hS2
      clear hS hL
      go_wp2_with fail
      go_ret
      exact ⟨rfl, hS2⟩
end
end Go.Proofs.Ytkdpckoneohjkaa
