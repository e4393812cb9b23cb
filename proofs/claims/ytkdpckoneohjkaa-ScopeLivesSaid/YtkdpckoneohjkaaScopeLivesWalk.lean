/-
  WHAT IS PROVED HERE: the walk of the law pelotonlaw14.ScopeLives: it returns true, and what was there before the call stays. Conditions: the arguments are 64-bit numbers.
-/
import Derived.Test.YtkdpckoneohjkaaAwakeS
import Derived.Test.YtkdpckoneohjkaaArgs
namespace Go.Proofs.Ytkdpckoneohjkaa
open Go.RowKit

theorem lpick_three (v : Int) : ∃ r : Nat, r < 3 ∧ (wrap64 (v.tmod 3 + 3)).tmod 3 = (r : Int) := by
  have h1 := Int.tmod_lt_of_pos v (show (0 : Int) < 3 by omega)
  have h2 := Int.lt_tmod_of_pos v (show (0 : Int) < 3 by omega)
  have e : wrap64 (v.tmod 3 + 3) = v.tmod 3 + 3 := by unfold wrap64; omega
  rw [e]
  obtain ⟨u, hu⟩ := Int.eq_ofNat_of_zero_le (show 0 ≤ v.tmod 3 + 3 by omega)
  rw [hu]
  exact ⟨u % 3, Nat.mod_lt _ (by omega), rfl⟩

/-- What the law keeps: the machine, and how many it thinks live. -/
structure LvW (W w : World) (mb : MB) (t g nb : Nat) (d : Int) (l : List Sc) : Prop where
  sd : SD W w mb t g 6 2 d l
  len : l.length = 3
  ask : ∀ n ∈ l, n.ask = 0
  arr : Blk w nb 88 (ints (l.map Sc.live))
  nhas : ¬ hasSW mb t g nb
  nnew : W.heap.size ≤ nb
section
variable {W w w' : World} {mb : MB} {t g nb : Nat} {d : Int} {l : List Sc}
theorem LvW.get (h : LvW W w mb t g nb d l) {r : Nat} (hr : r < 3) : ∃ n, l[r]? = some n ∧ n.ask = 0 ∧ w.cell? ⟨nb, r, none⟩ = some (.int .i64 n.live) ∧ w.frozen? ⟨nb, r, none⟩ = false := by
  have hl := h.len
  have hr' : r < l.length := by omega
  have hn : l[r]? = some l[r] := by simp [hr']
  refine ⟨l[r], hn, h.ask _ (List.getElem_mem hr'), ?_, h.arr.frozen r⟩
  rw [h.arr.cell, get_ints, List.getElem?_map, hn]
  rfl
theorem mem_set {l : List Sc} {r : Nat} {n : Sc} (h : ∀ m ∈ l, m.ask = 0) (hn : n.ask = 0) : ∀ m ∈ l.set r n, m.ask = 0 := by
  intro m hm
  rcases List.mem_or_eq_of_mem_set hm with e | e
  · exact h m e
  · rw [e]; exact hn
/-- A call turned how many live in a scope; the law counts it. -/
theorem LvW.turn (h : LvW W w mb t g nb d l) {r : Nat} {n : Sc} (hn : l[r]? = some n) (v : Int) (hk : Kept mb.has w w') (hS : SD W w' mb t g 6 2 (d + 1) (l.set r { n with live := v })) :
    w'.cell? ⟨nb, r, none⟩ = some (.int .i64 n.live) ∧ w'.frozen? ⟨nb, r, none⟩ = false ∧ LvW W (w'.setCell ⟨nb, r, none⟩ (.int .i64 v)) mb t g nb (d + 1) (l.set r { n with live := v }) := by
  have hb' := h.arr.kept hk (fun e => h.nhas (.inl e))
  have hlt := sc_lt hn
  refine ⟨by rw [hb'.cell, get_ints, List.getElem?_map, hn]; rfl, hb'.frozen r, ?_, by rw [List.length_set]; exact h.len, mem_set h.ask (show n.ask = 0 from h.ask n (List.mem_of_getElem? hn)), ?_, h.nhas, h.nnew⟩
  · refine hS.kept (S := fun k => k = nb) ((Kept.refl (fun k => k = nb) w').setCell (p := ⟨nb, r, none⟩) (.inl rfl) _) (fun q hq e => h.nhas (e ▸ hq)) (hS.bel.setCell (p := ⟨nb, r, none⟩) h.nnew _)
  · have := hb'.set r (.int .i64 v)
    rwa [set_ints, ← List.map_set (f := Sc.live) (l := l) (i := r) (a := { n with live := v })] at this
theorem LvW.same (h : LvW W w mb t g nb d l) {d' : Int} (hk : Kept mb.has w w') (hS : SD W w' mb t g 6 2 d' l) : LvW W w' mb t g nb d' l :=
  ⟨hS, h.len, h.ask, h.arr.kept hk (fun e => h.nhas (.inl e)), h.nhas, h.nnew⟩
theorem LvW.below (h : LvW W w mb t g nb d l) (hb : Below w.heap.size w w') : LvW W w' mb t g nb d l :=
  ⟨h.sd.below hb, h.len, h.ask, h.arr.below hb h.arr.lt, h.nhas, h.nnew⟩
end
def lv3 : List Sc := [⟨-1, 0, 0, 0⟩, ⟨0, 1, 0, 0⟩, ⟨1, 2, 0, 0⟩]

set_option maxRecDepth 100000 in
set_option maxHeartbeats 4000000 in
theorem lives_near (W : World) (A1 : Option Addr) (n1 c1 : Nat) (z1 : List Int) (F1 : Flat W A1 n1 z1) (A2 : Option Addr) (n2 c2 : Nat) (z2 : List Bool) (F2 : FlatB W A2 n2 z2) (hn : n2 ≤ 200) :
    Calls Try.prog 9 #[.slice A1 n1 c1, .slice A2 n2 c2] W fun e w' => e = .returned (.bool true) ∧ Below W.heap.size W w' := by
  have d1 : decide ((200 : Int) < (n2 : Int)) = false := by simp; omega
  go_enter Try.func9, Try.ntmps9
  go_wp2_with fail
  refine (new_ok 6 1 _ (by omega) (by omega) (by omega) (by omega)).mono ?_
  rintro e w1 ⟨p, s, rfl, hm1, hk1, hp, hs⟩
  have hb1 : Below W.heap.size W w1 := hk1.below (Nat.le_refl _) (fun _ h => h.elim)
  clear hk1
  go_wp2_with fail
  refine (sd_new (W0 := W) p s 6 1 0 w1 hm1 hb1 hp hs (by omega) (by omega) (by omega) (by omega)).mono ?_
  rintro e w2 ⟨c, t, g, rfl, h2⟩
  clear hm1 hb1 hp hs
  go_wp2_with fail
  refine (sd_open h2 0 (by omega) (by omega) (by omega) 0 ⟨-1, 0, 0, 0⟩ rfl (by decide) (by decide) (by simp) (by simp)).mono ?_
  rintro e w3 ⟨c3, g3, rfl, h3, _, _⟩
  have h3 : SD W w3 ⟨p, c3, s⟩ t g3 6 2 2 aw2 := h3
  clear h2
  go_wp2_with fail
  refine (sd_open h3 0 (by omega) (by omega) (by omega) 1 ⟨0, 1, 0, 0⟩ rfl (by decide) (by decide) (by simp [aw2]) (by simp [aw2])).mono ?_
  rintro e w4 ⟨c4, g4, rfl, h4, _, _⟩
  have h4 : SD W w4 ⟨p, c4, s⟩ t g4 6 2 3 lv3 := h4
  rw [show ((aw2).length : Int) = 2 from rfl]
  clear h3
  have hL0 : LvW W (w4.alloc (.cells #[.int .i64 0, .int .i64 0, .int .i64 0] 88)) ⟨p, c4, s⟩ t g4 w4.heap.size 3 lv3 :=
    ⟨h4.below ((Below.refl _ _).alloc (Nat.le_refl _) _), rfl, by decide, Blk.new w4 88 (ints [0, 0, 0]), fun e => by have := h4.lt _ e; omega, h4.bel.size⟩
  clear h4
  go_wp2_with fail
  generalize w4.heap.size = nb at *
  go_loopw [14] (fun i wr => ∃ (k : Nat) (d : Int) (l : List Sc), k ≤ n2 ∧ i = .int .i64 k ∧ d ≤ 3 + 4 * (k : Int) ∧ LvW W wr ⟨p, c4, s⟩ t g4 nb d l) (fun i _ => n2 - (intOf i).toNat)
  case atStart => exact ⟨0, 3, lv3, Nat.zero_le _, rfl, by omega, hL0⟩
  case round =>
    clear hL0
    obtain ⟨k, d, l, hk, rfl, hd, hL⟩ := hrel
    by_cases hlt : k < n2
    · by_cases hlt1 : k < n1
      · obtain ⟨_, _, hcell1⟩ := F1
        obtain ⟨b1, off1, rfl, hb1, hc1⟩ := hcell1 (by omega)
        obtain ⟨_, hcell2⟩ := F2
        obtain ⟨b2, off2, rfl, hb2, hc2⟩ := hcell2 (by omega)
        obtain ⟨v, hv⟩ : ∃ v, v = z1.getD k 0 := ⟨_, rfl⟩
        have hcv : wr.cell? ⟨b1, off1 + k, none⟩ = some (.int .i64 v) := by rw [hv, hL.sd.bel.cell (by exact hb1)]; exact hc1 k hlt1
        obtain ⟨u, hu⟩ : ∃ u, u = z2.getD k false := ⟨_, rfl⟩
        have hcu : wr.cell? ⟨b2, off2 + k, none⟩ = some (.bool u) := by rw [hu, hL.sd.bel.cell (by exact hb2)]; exact hc2 k hlt
        clear hv hu hcell1 hc1 hcell2 hc2
        go_upto_region 12 with fail
        obtain ⟨r, h3, hr⟩ := lpick_three v
        rw [hr]
        clear hr hcv
        obtain ⟨n, hn', ha, cn, fn⟩ := hL.get h3
        go_upto_if 103 with fail
        go_cut [16, 17] from 81 to 172 (fun x y wc => ∃ (l' : List Sc), LvW W wc ⟨p, c4, s⟩ t g4 nb (d + 1) l')
        case first =>
          cases u with
          | true =>
            go_wp2_with fail
            refine (sd_enter hL.sd 1 (by omega) (by omega) (by omega) r n hn').mono ?_
            rintro e w5 ⟨rfl, hS5, hk5⟩
            obtain ⟨x5, f5, hL5⟩ := hL.turn hn' _ hk5 hS5
            have HL := Lib.hid hL5
            clear hL hS5 hL5 cn fn
            go_wp2_with fail
            go_meet
            case rel => exact ⟨_, HL.out⟩
          | false =>
            go_wp2_with fail
            refine (sd_leave hL.sd 1 (by omega) (by omega) (by omega) r n hn').mono ?_
            rintro e w5 ⟨rfl, hS5, hk5⟩
            obtain ⟨x5, f5, hL5⟩ := hL.turn hn' _ hk5 hS5
            have HL := Lib.hid hL5
            have de : (decide (n.live = 1) == (n.live == 1)) = true := by by_cases h : n.live = 1 <;> simp [h]
            clear hL hS5 hL5 cn fn
            rw [show n.live + -1 = n.live - 1 by omega] at HL
            go_wp2_with fail
            go_meet
            case rel => exact ⟨_, HL.out⟩
        case rest =>
          obtain ⟨l', hL'⟩ := hcut
          clear hL cn fn hn' ha
          go_wp2_with fail
          go_loopw [18] (fun y wl => ∃ (j : Nat), j ≤ 3 ∧ y = .int .i64 j ∧ LvW W wl ⟨p, c4, s⟩ t g4 nb (d + 1 + (j : Int)) l') (fun y _ => 3 - (intOf y).toNat)
          case atStart => exact ⟨0, by omega, rfl, by simpa using hL'⟩
          case round =>
            clear hL'
            obtain ⟨j, hj, rfl, hL⟩ := hrel
            by_cases hj3 : j < 3
            · obtain ⟨m, hm, ha, cm, fm⟩ := hL.get hj3
              go_wp2_with fail
              refine (sd_live hL.sd 0 (by omega) (by omega) (by omega) j m hm).mono ?_
              rintro e w5 ⟨rfl, hS5, hk5⟩
              have hL5 := hL.same hk5 hS5
              clear hL hS5 cm fm
              go_wp2_with fail
              refine (sd_peek hL5.sd j m hm).mono ?_
              rw [show decide (¬ m.ask = 0) = false by simp [ha]]
              rintro e w6 ⟨rfl, hS6, hb6⟩
              have hL6 := hL5.below hb6
              obtain ⟨m', hm', ha', cm, fm⟩ := hL6.get hj3
              obtain rfl : m = m' := by rw [hm] at hm'; exact Option.some.inj hm'
              clear hL5 hS6
              go_wp2_with fail
              go_roundw
              case rel => exact ⟨j + 1, by omega, by go_num, by rw [show d + 1 + ((j + 1 : Nat) : Int) = d + 1 + (j : Int) + 1 by omega]; exact hL6⟩
              case measure => simp [intOf]; omega
            · obtain rfl : j = 3 := by omega
              go_wp2_with fail
              go_roundw
              case rel => exact ⟨k + 1, _, l', by omega, by go_num, by omega, hL⟩
              case measure => simp [intOf]; omega
      · have d3 : decide ((k : Int) < (n1 : Int)) = false := by simp; omega
        have bel := hL.sd.bel
        clear hL
        go_wp2_with (go_at_call 26; refine (awake14_any _).mono ?_; rintro e w3 ⟨rfl, hb3⟩)
        go_ret
        exact ⟨rfl, bel.trans (hb3.mono bel.size)⟩
    · obtain rfl : k = n2 := by omega
      have bel := hL.sd.bel
      clear hL hk hlt
      go_wp2_with (go_at_call 26; refine (awake14_any _).mono ?_; rintro e w3 ⟨rfl, hb3⟩)
      go_ret
      exact ⟨rfl, bel.trans (hb3.mono bel.size)⟩

set_option maxRecDepth 100000 in
set_option maxHeartbeats 1000000 in
theorem lives_far (W : World) (A1 : Option Addr) (n1 c1 : Nat) (A2 : Option Addr) (n2 c2 : Nat) (hn : ¬ n2 ≤ 200) :
    Calls Try.prog 9 #[.slice A1 n1 c1, .slice A2 n2 c2] W fun e w' => e = .returned (.bool true) ∧ Below W.heap.size W w' := by
  have d1 : decide ((200 : Int) < (n2 : Int)) = true := by simp; omega
  go_enter Try.func9, Try.ntmps9
  go_wp2_with fail
  refine (new_ok 6 1 _ (by omega) (by omega) (by omega) (by omega)).mono ?_
  rintro e w1 ⟨p, s, rfl, hm1, hk1, hp, hs⟩
  have hb1 : Below W.heap.size W w1 := hk1.below (Nat.le_refl _) (fun _ h => h.elim)
  clear hk1
  go_wp2_with fail
  refine (sd_new (W0 := W) p s 6 1 0 w1 hm1 hb1 hp hs (by omega) (by omega) (by omega) (by omega)).mono ?_
  rintro e w2 ⟨c, t, g, rfl, h2⟩
  clear hm1 hb1 hp hs
  go_wp2_with fail
  refine (sd_open h2 0 (by omega) (by omega) (by omega) 0 ⟨-1, 0, 0, 0⟩ rfl (by decide) (by decide) (by simp) (by simp)).mono ?_
  rintro e w3 ⟨c3, g3, rfl, h3, _, _⟩
  have h3 : SD W w3 ⟨p, c3, s⟩ t g3 6 2 2 aw2 := h3
  clear h2
  go_wp2_with fail
  refine (sd_open h3 0 (by omega) (by omega) (by omega) 1 ⟨0, 1, 0, 0⟩ rfl (by decide) (by decide) (by simp [aw2]) (by simp [aw2])).mono ?_
  rintro e w4 ⟨c4, g4, rfl, h4, _, _⟩
  have bel := h4.bel
  rw [show ((aw2).length : Int) = 2 from rfl]
  clear h3 h4
  go_wp2_with (go_at_call 26; refine (awake14_any _).mono ?_; rintro e w5 ⟨rfl, hb5⟩)
  go_ret
  exact ⟨rfl, bel.trans (hb5.mono bel.size)⟩

theorem scopeLives_walk (W : World) (A1 : Option Addr) (n1 c1 : Nat) (z1 : List Int) (_h1 : n1 ≤ maxLen) (F1 : Flat W A1 n1 z1) (A2 : Option Addr) (n2 c2 : Nat) (z2 : List Bool) (_h2 : n2 ≤ maxLen) (F2 : FlatB W A2 n2 z2) :
    Calls Try.prog 9 #[.slice A1 n1 c1, .slice A2 n2 c2] W fun e w' => e = .returned (.bool true) ∧ Below W.heap.size W w' := by
  by_cases hn : n2 ≤ 200
  · exact lives_near W A1 n1 c1 z1 F1 A2 n2 c2 z2 F2 hn
  · exact lives_far W A1 n1 c1 A2 n2 c2 hn
end Go.Proofs.Ytkdpckoneohjkaa
