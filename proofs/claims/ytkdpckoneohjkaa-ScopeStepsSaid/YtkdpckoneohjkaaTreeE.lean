/-
  WHAT IS PROVED HERE: the contract of scope's Open that opens a scope; of Look. Conditions: as in the contracts.
-/
import Derived.Test.YtkdpckoneohjkaaTreeD
namespace Go.Proofs.Ytkdpckoneohjkaa
open Go.RowKit

theorem add_plain' {b off q : Nat} : (⟨b, off, none⟩ : Addr).add q = ⟨b, off + q, none⟩ := by
  unfold Addr.add
  split <;> simp_all
theorem Blk.grown {w w' : World} {g : Nat} {t : TypeId} {cs : List Value} {row : Option Nat} (h : Blk w g t cs) (hg : w.grownBy w' row) (hr : some g ≠ row) : Blk w' g t cs := (hg.block g h.lt hr).trans h
theorem ownsRow_setBelow {w : World} {e : TypeId} {size : Nat} {g n cap : Nat} {xs : List Value} (h : w.ownsRow 0 e size (.slice (some ⟨g, 0, none⟩) n cap) n xs) {p : Addr} (hp : g ≠ p.block) (u : Value) : (w.setCell p u).ownsRow 0 e size (.slice (some ⟨g, 0, none⟩) n cap) n xs := by
  refine ⟨h.1, ?_⟩
  rcases h.2 with hn | ⟨g', cap', cur, hv, hb, hgg, rest⟩
  · exact .inl hn
  · refine .inr ⟨g', cap', cur, hv, hb, ?_, rest⟩
    obtain ⟨rfl, rfl⟩ : g = g' ∧ cap = cap' := by simpa using hv
    exact (Below.heap_setCell w p u g hp).trans hgg

section
variable {W0 w : World} {mb : MB} {p g : Nat} {size : Int} {steps : List Int} {l : List Sc}
set_option maxRecDepth 20000 in
set_option maxHeartbeats 2000000 in
theorem sw_open_ok (h : SW W0 w mb p g size steps l) (i : Int) (h0 : 0 ≤ i) (h1 : i < steps.length) (s : Nat) (n : Sc) (hn : l[s]? = some n) (hd : n.nest < 32) (hd2 : 0 ≤ n.nest) (hr : 2 * (l.length : Int) + 2 ≤ size) (hl : l.length < 1000) :
    Calls Try.prog 45 #[.pointer (some ⟨p, 0, none⟩), .pointer (some ⟨mb.p, 0, none⟩), .int .i64 i, .int .i64 s] w fun e w' => ∃ c g',
      e = .returned (.tuple #[.int .i64 l.length, .int .i64 0]) ∧ SW W0 w' ⟨mb.p, c, mb.s⟩ p g' size (stepUp steps i) (l ++ [⟨s, n.nest + 1, 0, 0⟩]) ∧ Kept (hasSW mb p g) w w' ∧ w.heap.size ≤ c ∧ (g' = g ∨ w.heap.size ≤ g') := by
  obtain ⟨i0, hi, hz0, hz1, hz2⟩ := info_parts info_node
  have hin := sc_in hn
  have hsize := h.few
  go_enter Try.func45, Try.ntmps45
  go_wp2_with fail
  refine (may_ok p g (scN l) ⟨mb.p, 0, none⟩ s _ h.t (sc_inN hn)).mono ?_
  rintro e w2 ⟨rfl, hb⟩
  have h2 := h.below hb
  have hk2 : Kept (hasSW mb p g) w w2 := Kept.of_below hb
  obtain ⟨cap, a, c0, c1, s0, s1, l1, l2, HA, a0, a1⟩ := h2.opens hin
  have c2 := h2.nestAt hn
  rw [Int.toNat_natCast] at c1
  have HH := Lib.hid h2
  have HK := Lib.hid hk2
  clear h h2 hn hin c1 hk2
  go_wp2_with fail
  refine (alloc_okI mb ⟨scC l, size, steps⟩ i 2 _ HH.out.m (scMS_caller h0 h1) (by omega) (by simp only [length_scC]; omega) hsize.2.2).mono ?_
  rintro e w3 ⟨rfl, hk3, c, hc, hm3⟩
  simp only [length_scC]
  have ht3 := HH.out.t.kept hk3 HH.out.sp HH.out.sg
  obtain ⟨cap3, hp3, ho3⟩ := ht3.row
  have c3 := hp3.cell 0
  have f3 := hp3.frozen 0
  simp only [List.getElem?_cons_zero, length_scN] at c3
  have hn3 : Blk (w3.alloc (.cells #[.int .i64 s, .int .i64 (n.nest + 1), .int .i64 (2 * l.length)] 104)) w3.heap.size 104 [.int .i64 s, .int .i64 (n.nest + 1), .int .i64 (2 * l.length)] := Blk.new w3 _ [.int .i64 s, .int .i64 (n.nest + 1), .int .i64 (2 * l.length)]
  have HM3 := Lib.hid hm3
  have HK3 := Lib.hid hk3
  have HP3 := Lib.hid hp3
  have HO3 := Lib.hid ho3
  have HN3 := Lib.hid hn3
  have HT3 := Lib.hid ht3
  clear hm3 hk3 hp3 ho3 hn3 ht3 c0 c2 HA
  have hps3 : p < w3.heap.size := HP3.out.lt
  have hgs3 : g < w3.heap.size := HT3.out.lt.2
  have hpg : p ≠ g := HT3.out.pg
  rw [length_scN] at HP3 HO3
  go_wp2_with (at_builtin; go_loud (refine wpList_append_more _ rfl (.tmp 45) (.tmp 50) 105 rfl 0 104 i0 (.agg #[.int .i64 0, .int .i64 0, .int .i64 0]) 3 24 Try.underlying105 hi hz0 hz1 hz2 rfl (by decide) (.slice (some ⟨g, 0, none⟩) l.length cap3) l.length (ndVs (scN l)) rfl (HO3.out.alloc _) ⟨w3.heap.size, 0, none⟩ 1 1 [.int .i64 s, .int .i64 (n.nest + 1), .int .i64 (2 * l.length)] rfl rfl (fun j u hu => by rw [add_plain', Nat.zero_add]; exact (HN3.out.cell j).trans hu) (fun x hx => by simp at hx; rcases hx with rfl | rfl | rfl <;> rfl) (by omega) (by unfold maxLen; omega) (by omega) (Nat.zero_le _) ?_); intro g' cap' w4 hown' hgrow hwhere; have b4 := (HP3.out.alloc (.cells #[.int .i64 s, .int .i64 (n.nest + 1), .int .i64 (2 * l.length)] 104)).grown hgrow (by simp [Value.ownBlock]; exact hpg); have c4 := b4.cell 0; have f4 := b4.frozen 0; simp only [List.getElem?_cons_zero] at c4; have B4 := Lib.hid b4; have OW4 := Lib.hid hown'; have GR4 := Lib.hid hgrow; have WH4 := Lib.hid hwhere; clear b4 hown' hgrow hwhere)
  have hgp : p ≠ g' := by
    rcases WH4.out with e | e
    · have : g' = g := by simpa [Value.ownBlock] using e
      rw [this]; exact hpg
    · simp at e; omega
  have o5 := ownsRow_setBelow OW4.out (p := ⟨p, 0, none⟩) (Ne.symm hgp) (.slice (some ⟨g', 0, none⟩) (l.length + 1) cap')
  have b5 := B4.out.set 0 (.slice (some ⟨g', 0, none⟩) (l.length + 1) cap')
  have hk4 : Kept (fun k => k = g) w3 w4 := by
    refine ((Kept.refl _ w3).alloc _).grown GR4.out (fun k e => .inl ?_)
    have e' : g = k := by simpa [Value.ownBlock] using e
    exact e'.symm
  have hk5 : Kept (fun k => k = g ∨ k = p) w3 (w4.setCell ⟨p, 0, none⟩ (.slice (some ⟨g', 0, none⟩) (l.length + 1) cap')) := (hk4.mono (fun k _ e => .inl e)).setCell (.inl (.inr rfl)) _
  have ht5 : Tr (w4.setCell ⟨p, 0, none⟩ (.slice (some ⟨g', 0, none⟩) (l.length + 1) cap')) p g' (scN (l ++ [⟨s, n.nest + 1, 0, 0⟩])) := by
    refine Tr.ofRow (cap := cap') hgp ?_ ?_
    · rw [length_scN]; simpa using b5
    · rw [scN_append, ndVs_append, List.length_append, length_scN]
      exact o5
  have hlt2 := HH.out.lt
  have hg2 : g < w2.heap.size := hlt2 _ (.inr (.inr rfl))
  have hp2 : p < w2.heap.size := hlt2 _ (.inr (.inl rfl))
  have hnp : ¬ (⟨mb.p, c, mb.s⟩ : MB).has p := by
    rintro (e | e | e)
    · exact HH.out.sp (.inl e)
    · have e' : p = c := e; omega
    · exact HH.out.sp (.inr (.inr e))
  have hng : ¬ (⟨mb.p, c, mb.s⟩ : MB).has g := by
    rintro (e | e | e)
    · exact HH.out.sg (.inl e)
    · have e' : g = c := e; omega
    · exact HH.out.sg (.inr (.inr e))
  have hm5 := HM3.out.kept hk5 (fun k e => by
    rintro (rfl | rfl)
    · exact hng e
    · exact hnp e)
  have hng' : ¬ (⟨mb.p, c, mb.s⟩ : MB).has g' := by
    rcases WH4.out with e | e
    · have : g' = g := by simpa [Value.ownBlock] using e
      rw [this]; exact hng
    · intro e'; have := HM3.out.lt _ e'; simp at e; omega
  have hk25 : Kept (hasSW mb p g) w2 (w4.setCell ⟨p, 0, none⟩ (.slice (some ⟨g', 0, none⟩) (l.length + 1) cap')) := by
    refine (HK3.out.mono (fun k _ e => .inl e)).trans hk5 (fun k _ e => ?_)
    rcases e with e | e
    · exact .inr (.inr e)
    · exact .inr (.inl e)
  have hs3 := HK3.out.size
  have hsw := HK.out.size
  have hmn : ((⟨scC l, size, steps⟩ : MS).did i).more (2 : Int).toNat = ⟨scC (l ++ [⟨s, n.nest + 1, 0, 0⟩]), size, stepUp steps i⟩ := by
    rw [scC_append]; rfl
  rw [hmn] at hm5
  have bel5 : Below W0.heap.size W0 (w4.setCell ⟨p, 0, none⟩ (.slice (some ⟨g', 0, none⟩) (l.length + 1) cap')) := HH.out.bel.trans (hk25.below HH.out.bel.size (fun k e => HH.out.new k e))
  have hfg' : g' = g ∨ w.heap.size ≤ g' := by
    rcases WH4.out with e | e
    · left; simpa [Value.ownBlock] using e
    · right; simp at e; omega
  have hgb : W0.heap.size ≤ g' := by
    rcases hfg' with e | e
    · rw [e]; exact HH.out.fg
    · have := HH.out.bel.size
      rcases WH4.out with e | e
      · have : g' = g := by simpa [Value.ownBlock] using e
        rw [this]; exact HH.out.fg
      · simp at e; omega
  have HF := Lib.hid hfg'
  go_ret2
  refine ⟨c, g', rfl, ⟨hm5, ht5, hnp, hng', ⟨HH.out.from_.1, by show W0.heap.size ≤ c; have := HH.out.bel.size; omega, HH.out.from_.2.2⟩, HH.out.fp, hgb, ⟨by simp; omega, hsize.2⟩, bel5⟩, HK.out.trans hk25 (fun _ _ e => e), by omega, HF.out⟩
end
end Go.Proofs.Ytkdpckoneohjkaa
