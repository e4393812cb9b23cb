/-
  WHAT IS PROVED HERE: the contracts of pelotonlaw16's grow, awake, small. Conditions: the slices read lists.
-/
import Derived.Test.YtogobpnbkmdnfaaKinK
namespace Go.Proofs.Ytogobpnbkmdnfaa
open Go.RowKit

theorem Ls.lt {w : World} {B cap : Nat} {A : Option Addr} {xs : List Int} (h : Ls w B A cap xs) : ∀ k, A = some ⟨k, 0, none⟩ → k < w.heap.size := fun k e => by
  rcases h with ⟨rfl, _, _⟩ | ⟨g, rfl, hr, _⟩
  · cases e
  · have e2 : g = k := congrArg Addr.block (Option.some.inj e)
    exact e2 ▸ hr.lt
theorem Sv.alloc {w : World} {A : Option Addr} {xs : List Int} (h : Sv w A xs) (o : Obj) : Sv (w.alloc o) A xs := h.below ((Below.refl w.heap.size w).alloc (Nat.le_refl _) o) (Nat.le_refl _)
theorem sv_new (w : World) (t : TypeId) (xs : List Int) : Sv (w.alloc (.cells (ints xs).toArray t)) (some ⟨w.heap.size, 0, none⟩) xs := fun _ =>
  ⟨w.heap.size, 0, rfl, by simp, fun j x hj => by rw [Nat.zero_add, (Blk.new w t (ints xs)).cell, get_ints, hj]; rfl⟩
theorem radd_any {A : Option Addr} {cap : Nat} {l : List Int} (w : World) (B : Nat) (hB : B ≤ w.heap.size) (hl : Ls w B A cap l) (few : l.length ≤ 1000) (x : Int) :
    Calls Try.prog 31 #[.slice A l.length cap, .int .i64 x] w fun e w' => ∃ A' c', e = .returned (.tuple #[.slice A' (addL l x).length c', .int .i64 (if addC l x = 0 then (l.length : Int) else 0), .int .i64 (addC l x)]) ∧
      Ls w' B A' c' (addL l x) ∧ Kept (fun k => A = some ⟨k, 0, none⟩) w w' ∧ ∀ k, A' = some ⟨k, 0, none⟩ → A = some ⟨k, 0, none⟩ ∨ w.heap.size ≤ k := by
  by_cases hc : addC l x = 0
  · unfold addL
    rw [if_pos hc, if_pos hc, hc]
    refine (radd_ok w B hB hl few x hc).mono ?_
    rintro e w' ⟨g', c', rfl, h1, h2, h3⟩
    refine ⟨some ⟨g', 0, none⟩, c', by simp, h1, h2, fun k e => ?_⟩
    have e2 : g' = k := congrArg Addr.block (Option.some.inj e)
    subst e2; exact h3
  · unfold addL
    rw [if_neg hc, if_neg hc]
    refine (radd_no w x _ rfl hc).mono ?_
    rintro e w' ⟨rfl, rfl⟩
    exact ⟨A, cap, rfl, hl, Kept.refl _ w, fun k e => .inl e⟩

/-- The tasks that come of parents. -/
def gl (xs : List Int) : List Int := xs.foldl addL []
theorem gl_take {xs : List Int} {k : Nat} {x : Int} (h : xs[k]? = some x) : gl (xs.take (k + 1)) = addL (gl (xs.take k)) x := by
  unfold gl
  rw [List.take_add_one, h]
  simp
theorem gl_wf (xs : List Int) : WfP (gl xs) := by
  unfold gl
  suffices h : ∀ (l : List Int), WfP l → WfP (xs.foldl addL l) from h [] WfP.nil
  induction xs with
  | nil => exact fun l h => h
  | cons x xs ih => exact fun l h => ih _ (h.add x)
theorem gl_length (xs : List Int) : (gl xs).length ≤ xs.length := by
  unfold gl
  suffices h : ∀ (l : List Int), (xs.foldl addL l).length ≤ l.length + xs.length from by simpa using h []
  induction xs with
  | nil => intro l; simp
  | cons x xs ih =>
    intro l
    have h1 := ih (addL l x)
    have h2 := addL_length l x
    simp only [List.foldl_cons, List.length_cons]
    omega
/-- What a law keeps in memory behind grow: the tree, the list of its parents. -/
structure GrW (w0 w : World) (p : Nat) (own : Nat → Prop) (A : Option Addr) (c : Nat) (l : List Int) : Prop where
  t : KT w p own l
  ls : Ls w w0.heap.size A c l
  far : ∀ k, own k → w0.heap.size ≤ k
  off : ∀ k, A = some ⟨k, 0, none⟩ → ¬ own k
  bel : Below w0.heap.size w0 w
theorem GrW.below {w0 w w' : World} {p : Nat} {own : Nat → Prop} {A : Option Addr} {c : Nat} {l : List Int} (h : GrW w0 w p own A c l) (hb : Below w.heap.size w w') : GrW w0 w' p own A c l :=
  ⟨h.t.below hb (Nat.le_refl _), h.ls.below hb (Nat.le_refl _), h.far, h.off, h.bel.trans (hb.mono h.bel.size)⟩
theorem GrW.wf {w0 w : World} {p : Nat} {own : Nat → Prop} {A : Option Addr} {c : Nat} {l : List Int} (h : GrW w0 w p own A c l) : WfP l := h.t.wf
set_option maxRecDepth 20000 in
set_option maxHeartbeats 1000000 in
theorem grow_ok (w : World) (X : Option Addr) (cx : Nat) (xs : List Int) (hx : Sv w X xs) (few : xs.length ≤ 900) :
    Calls Try.prog 10 #[.slice X xs.length cx] w fun e w' => ∃ p own A c, e = .returned (.tuple #[.pointer (some ⟨p, 0, none⟩), .slice A (gl xs).length c, .bool true]) ∧ GrW w w' p own A c (gl xs) := by
  have HX := Lib.hid hx
  have hlm : (xs.length : Int) ≤ 900 := by omega
  obtain ⟨l, hl⟩ : ∃ l, gl xs = l := ⟨_, rfl⟩
  rw [hl]
  have HL := Lib.hid hl
  clear hx hl
  go_enter Try.func10, Try.ntmps10
  go_wp2_with fail
  refine (knew_ok w).mono ?_
  rintro e w1 ⟨rfl, hT, hb⟩
  have hs1 : w.heap.size < w1.heap.size := hT.lt _ rfl
  have he : Ls (w1.alloc (.cells #[] 3)) w.heap.size (some ⟨w1.heap.size, 0, none⟩) 0 [] := .inr ⟨w1.heap.size, rfl, Rw.of (Blk.new w1 3 []) (Nat.zero_le _), by omega⟩
  have hg0 : GrW w (w1.alloc (.cells #[] 3)) w.heap.size (fun k => k = w.heap.size) (some ⟨w1.heap.size, 0, none⟩) 0 [] := by
    have hb1 : Below w1.heap.size w1 (w1.alloc (.cells #[] 3)) := (Below.refl _ w1).alloc (Nat.le_refl _) _
    refine ⟨hT.below hb1 (Nat.le_refl _), he, fun k e => by omega, fun k e e2 => ?_, hb.trans (hb1.mono (by omega))⟩
    have e3 : w1.heap.size = k := congrArg Addr.block (Option.some.inj e)
    omega
  have HG0 := Lib.hid hg0
  clear hT hb he hg0
  go_wp2_with fail
  go_loopw [6, 7] (fun a i wr => ∃ (k : Nat) (own : Nat → Prop) (A : Option Addr) (c : Nat), k ≤ xs.length ∧ i = .int .i64 k ∧ a = .slice A (gl (xs.take k)).length c ∧ Hid (GrW w wr w.heap.size own A c (gl (xs.take k)))) (fun _ i _ => xs.length - (intOf i).toNat)
  case atStart => exact ⟨0, _, some ⟨w1.heap.size, 0, none⟩, 0, Nat.zero_le _, rfl, rfl, HG0⟩
  case round =>
    clear HG0
    obtain ⟨k, own, A, c, hk, rfl, rfl, HG⟩ := hrel
    by_cases hlt : k < xs.length
    · obtain ⟨x, hxk⟩ : ∃ x, xs[k]? = some x := ⟨xs[k], by simp [hlt]⟩
      obtain ⟨b, off, rfl, _, hc⟩ := HX.out.below HG.out.bel (Nat.le_refl _) (by omega)
      have cx := hc k x hxk
      have hki : (k : Int) < (xs.length : Int) := by omega
      have hll := gl_length (xs.take k)
      rw [List.length_take] at hll
      have hst := gl_take hxk
      obtain ⟨L, hL⟩ : ∃ L, gl (xs.take k) = L := ⟨_, rfl⟩
      rw [hL] at HG hll hst ⊢
      have HST := Lib.hid hst
      have HXK := Lib.hid hxk
      clear hc hst hL hxk
      go_wp2_with fail
      refine (kadd_any HG.out.t (by omega) x).mono ?_
      rintro e w2 ⟨rfl, hT2, hk2⟩
      have hb2 : Below w.heap.size w w2 := HG.out.bel.trans (hk2.below HG.out.bel.size HG.out.far)
      have hls2 : Ls w2 w.heap.size A c L := HG.out.ls.kept hk2 HG.out.off
      obtain ⟨_, _, e, _, hc⟩ := HX.out.below hb2 (Nat.le_refl _) (by omega)
      obtain ⟨rfl, rfl⟩ : b = _ ∧ off = _ := by simpa using e
      have cx2 := hc k x HXK.out
      have HT2 := Lib.hid hT2
      have HB2 := Lib.hid hb2
      have HLS2 := Lib.hid hls2
      have HK2 := Lib.hid hk2
      obtain ⟨v, hv⟩ : ∃ v : Int, (if addC L x = 0 then (L.length : Int) else 0) = v := ⟨_, rfl⟩
      rw [hv]
      have HVV := Lib.hid hv
      obtain ⟨u, hu⟩ : ∃ u : Int, addC L x = u := ⟨_, rfl⟩
      rw [hu]
      have HUU := Lib.hid hu
      clear hc e hT2 hb2 hls2 hk2 cx hu hv
      go_wp2_with fail
      refine (radd_any w2 w.heap.size HB2.out.size HLS2.out (by omega) x).mono ?_
      rw [HVV.out, HUU.out]
      rintro e w3 ⟨A3, c3, rfl, hls3, hk3, hw3⟩
      have hg3 : GrW w w3 w.heap.size (fun k => own k ∨ (wr.heap.size ≤ k ∧ k < w2.heap.size)) A3 c3 (addL L x) := by
        refine ⟨HT2.out.kept hk3 (fun q ho e => ?_), hls3, fun q ho => ?_, fun q e ho => ?_, HB2.out.trans (hk3.below HB2.out.size HG.out.ls.at_)⟩
        · rcases ho with ho | ho
          · exact HG.out.off q e ho
          · have := HG.out.ls.lt q e; omega
        · rcases ho with ho | ho
          · exact HG.out.far q ho
          · have := HG.out.bel.size; omega
        · rcases hw3 q e with e2 | e2
          · rcases ho with ho | ho
            · exact HG.out.off q e2 ho
            · have := HG.out.ls.lt q e2; omega
          · have := HT2.out.lt q ho; omega
      have HG3 := Lib.hid hg3
      have e1 : (v != v) = false := by simp
      have e2 : (u != u) = false := by simp
      clear hg3 hls3 hk3 hw3 cx2
      go_wp2_with fail
      go_roundw
      case rel => exact ⟨k + 1, _, A3, c3, by omega, by go_num, by rw [HST.out], by rw [HST.out]; exact HG3⟩
      case measure => simp [intOf]; omega
    · obtain rfl : k = xs.length := by omega
      rw [List.take_length, HL.out] at HG ⊢
      have e1 : ((l.length : Int) == (l.length : Int)) = true := by simp
      go_wp2_with fail
      refine (klen_ok HG.out.t).mono ?_
      rintro e w2 ⟨rfl, rfl⟩
      go_wp2_with fail
      go_ret3
      exact ⟨_, own, A, c, rfl, HG.out⟩

/-! ## The chapter's example -/
def ex16 : List Int := [-1, 0, 0, 1, 0]
theorem ex16_gl : gl ex16 = ex16 := by decide
theorem ex16_facts : kidI ex16 0 = [1, 2, 4] ∧ nI (allN ex16) = [0, 1, 3, 2, 4] ∧ (allN ex16).length = 5 ∧ descI ex16 3 1 = true ∧ descI ex16 3 2 = false ∧ nI (wayN ex16 3) = [0, 0] ∧ (wayN ex16 3).length = 2 ∧ findV ex16 [2] = (4, 0) ∧ addC ex16 (-1) = 18 := by decide
theorem same_true {w : World} {A B : Option Addr} {ca cb : Nat} {xs ys : List Int} (ha : Sv w A xs) (hb : Sv w B ys) (hm : xs.length ≤ maxLen) (e : xs = ys) (n m : Nat) (hn : n = xs.length) (hm2 : m = ys.length) :
    Calls Try.prog 15 #[.slice A n ca, .slice B m cb] w fun e w' => e = .returned (.bool true) ∧ Below w.heap.size w w' := by
  subst hn; subst hm2
  exact ksame_ok w A B ca cb xs ys ha hb hm true (by simp [e])
set_option maxRecDepth 20000 in
set_option maxHeartbeats 2000000 in
theorem awake16 (w : World) :
    Calls Try.prog 9 #[] w fun e w' => e = .returned (.bool true) ∧ Below w.heap.size w w' := by
  obtain ⟨f1, f2, f3, f4, f5, f6, f7, f8, f9⟩ := ex16_facts
  have s0 : Sv (w.alloc (.cells #[.int .i64 (-1), .int .i64 0, .int .i64 0, .int .i64 1, .int .i64 0] 3)) (some ⟨w.heap.size, 0, none⟩) ex16 := sv_new w 3 ex16
  have hb0 : Below w.heap.size w (w.alloc (.cells #[.int .i64 (-1), .int .i64 0, .int .i64 0, .int .i64 1, .int .i64 0] 3)) := (Below.refl _ w).alloc (Nat.le_refl _) _
  have hgr := grow_ok _ _ 5 ex16 s0 (by decide)
  rw [ex16_gl] at hgr
  have hl5 : ex16.length = 5 := rfl
  rw [hl5] at hgr
  have HGR := Lib.hid hgr
  clear hgr s0
  go_enter Try.func9, Try.ntmps9
  go_wp2_with fail
  refine HGR.out.mono ?_
  rintro e w1 ⟨p, own, A, c, rfl, hg⟩
  have hb1 : Below w.heap.size w w1 := hb0.trans (hg.bel.mono hb0.size)
  have HG := Lib.hid hg
  have HB1 := Lib.hid hb1
  clear hg hb1 hb0 HGR
  -- Kids
  go_wp2_with fail
  refine (kkids_ok HG.out.t (by decide) 0).mono ?_
  rw [f1]
  rintro e w2 ⟨A2, c2, rfl, hls, hb⟩
  have HG2 := Lib.hid (HG.out.below hb)
  have HB2 := Lib.hid (HB1.out.trans (hb.mono HB1.out.size))
  have HS2 := Lib.hid (hls.sv.alloc (.cells #[.int .i64 1, .int .i64 2, .int .i64 4] 3))
  have HS3 := Lib.hid (sv_new w2 3 [1, 2, 4])
  have hba : Below w2.heap.size w2 (w2.alloc (.cells #[.int .i64 1, .int .i64 2, .int .i64 4] 3)) := (Below.refl _ w2).alloc (Nat.le_refl _) _
  have HG3 := Lib.hid (HG2.out.below hba)
  have HB3 := Lib.hid (HB2.out.trans (hba.mono HB2.out.size))
  clear hb hls hba
  go_wp2_with fail
  refine (same_true HS2.out HS3.out (by simp [maxLen]) rfl 3 3 rfl rfl).mono ?_
  rintro e w4 ⟨rfl, hb⟩
  have HG4 := Lib.hid (HG3.out.below hb)
  have HB4 := Lib.hid (HB3.out.trans (hb.mono HB3.out.size))
  clear hb HS2 HS3 HG3 HB3 HG2 HB2 HG HB1
  -- Order
  go_wp2_with fail
  refine (korder_ok HG4.out.t (by decide)).mono ?_
  rw [f2, f3]
  rintro e w5 ⟨A5, c5, rfl, hls, hb⟩
  have HG5 := Lib.hid (HG4.out.below hb)
  have HB5 := Lib.hid (HB4.out.trans (hb.mono HB4.out.size))
  have HS2 := Lib.hid (hls.sv.alloc (.cells #[.int .i64 0, .int .i64 1, .int .i64 3, .int .i64 2, .int .i64 4] 3))
  have HS3 := Lib.hid (sv_new w5 3 [0, 1, 3, 2, 4])
  have hba : Below w5.heap.size w5 (w5.alloc (.cells #[.int .i64 0, .int .i64 1, .int .i64 3, .int .i64 2, .int .i64 4] 3)) := (Below.refl _ w5).alloc (Nat.le_refl _) _
  have HG6 := Lib.hid (HG5.out.below hba)
  have HB6 := Lib.hid (HB5.out.trans (hba.mono HB5.out.size))
  clear hb hls hba
  go_wp2_with fail
  refine (same_true HS2.out HS3.out (by simp [maxLen]) rfl 5 5 rfl rfl).mono ?_
  rintro e w7 ⟨rfl, hb⟩
  have HG7 := Lib.hid (HG6.out.below hb)
  have HB7 := Lib.hid (HB6.out.trans (hb.mono HB6.out.size))
  clear hb HS2 HS3 HG5 HB5 HG6 HB6 HG4 HB4
  -- Descends
  go_wp2_with fail
  refine (kdesc_ok HG7.out.t 3 1 true f4).mono ?_
  rintro e w8 ⟨rfl, hb⟩
  have HG8 := Lib.hid (HG7.out.below hb)
  have HB8 := Lib.hid (HB7.out.trans (hb.mono HB7.out.size))
  clear hb HG7 HB7
  go_wp2_with fail
  refine (kdesc_ok HG8.out.t 3 2 false f5).mono ?_
  rintro e w9 ⟨rfl, hb⟩
  have HG9 := Lib.hid (HG8.out.below hb)
  have HB9 := Lib.hid (HB8.out.trans (hb.mono HB8.out.size))
  clear hb HG8 HB8
  -- Path
  go_wp2_with fail
  refine (kpath_ok HG9.out.t (by decide) 3 (by decide)).mono ?_
  rw [f6, f7]
  rintro e w10 ⟨A10, c10, rfl, hls, hb⟩
  have HG10 := Lib.hid (HG9.out.below hb)
  have HB10 := Lib.hid (HB9.out.trans (hb.mono HB9.out.size))
  have HSP := Lib.hid (hls.sv.alloc (.cells #[.int .i64 2] 3))
  have HS3 := Lib.hid (sv_new w10 3 [2])
  have hba : Below w10.heap.size w10 (w10.alloc (.cells #[.int .i64 2] 3)) := (Below.refl _ w10).alloc (Nat.le_refl _) _
  have HG11 := Lib.hid (HG10.out.below hba)
  have HB11 := Lib.hid (HB10.out.trans (hba.mono HB10.out.size))
  clear hb hls hba HG9 HB9
  -- Find
  go_wp2_with fail
  refine (kfind_ok HG11.out.t _ 1 [2] HS3.out (by simp [maxLen]) 4 0 f8).mono ?_
  rintro e w12 ⟨rfl, rfl⟩
  -- Add
  go_wp2_with fail
  refine (kadd_no HG11.out.t (-1) 18 f9 (by omega)).mono ?_
  rintro e w13 ⟨rfl, hb⟩
  have HB13 := Lib.hid (HB11.out.trans (hb.mono HB11.out.size))
  have HSQ := Lib.hid ((HSP.out.below hb (Nat.le_refl _)).alloc (.cells #[.int .i64 0, .int .i64 0] 3))
  have HS4 := Lib.hid (sv_new w13 3 [0, 0])
  have hba : Below w13.heap.size w13 (w13.alloc (.cells #[.int .i64 0, .int .i64 0] 3)) := (Below.refl _ w13).alloc (Nat.le_refl _) _
  have HB14 := Lib.hid (HB13.out.trans (hba.mono HB13.out.size))
  clear hb hba HG11 HB11 HG10 HB10
  go_wp2_with fail
  refine (same_true HSQ.out HS4.out (by simp [maxLen]) rfl 2 2 rfl rfl).mono ?_
  rintro e w15 ⟨rfl, hb⟩
  have HB15 := Lib.hid (HB14.out.trans (hb.mono HB14.out.size))
  clear hb
  go_wp2_with fail
  go_ret
  exact ⟨rfl, HB15.out⟩
end Go.Proofs.Ytogobpnbkmdnfaa
