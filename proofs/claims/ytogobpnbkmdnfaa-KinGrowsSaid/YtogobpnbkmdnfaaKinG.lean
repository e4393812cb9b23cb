/-
  WHAT IS PROVED HERE: contracts of kin's New and Add. Conditions: the pointer is a tree's.
-/
import Derived.Test.YtogobpnbkmdnfaaKinF
namespace Go.Proofs.Ytogobpnbkmdnfaa
open Go.RowKit

theorem knew_ok (w : World) :
    Calls Try.prog 30 #[] w fun e w' => e = .returned (.pointer (some ⟨w.heap.size, 0, none⟩)) ∧ KT w' w.heap.size (fun k => k = w.heap.size) [] ∧ Below w.heap.size w w' := by
  have hb : Blk (w.alloc (.cells #[.slice none 0 0] 60)) w.heap.size 60 [.slice none 0 0] := Blk.new w _ _
  have bb : Below w.heap.size w (w.alloc (.cells #[.slice none 0 0] 60)) := (Below.refl _ w).alloc (Nat.le_refl _) _
  go_enter Try.func30, Try.ntmps30
  go_wp2_with fail
  go_ret
  refine ⟨rfl, ⟨0, fun _ => 0, fun _ => 0, WfP.nil, rfl, fun h => absurd rfl h, .inl ⟨rfl, hb⟩, fun i hi => by simp at hi, fun i j hi => by simp at hi, fun k hk => by subst hk; simp⟩, bb⟩

/-- An append to an array of records of one's own, at a step of a region that draws. -/
theorem step_append_more {P : Program} {ops : Array Oper} {o : Oper} {a : Act} {w : World} {K : Act → World → Prop} {Q : Exit → Act → World → Prop} {E : Prop}
    (hg : o.guard = none) (s x : Operand) (t : TypeId) (hop : o.op = Op.call { callee := Callee.builtin Builtin.append, args := #[s, x], argTypes := #[t, t] })
    (base : Nat) (e : TypeId) (i : TypeInfo) (z : Value) (size bytes : Nat) (ht : P.underlying t = some (.slice e)) (hi : P.info? e = some i) (hz : i.zero = some z)
    (hsize : i.size = size) (hby : i.bytes = bytes) (hzs : z.cells.size = size) (hsz : 0 < size)
    (v : Value) (n : Nat) (xs : List Value) (hs : a.eval s = v) (hown : w.ownsRow base e size v n xs)
    (ad : Addr) (m c : Nat) (news : List Value) (hx : a.eval x = .slice (some ad) m c) (hl : news.length = m * size) (hnews : ∀ j u, news[j]? = some u → w.cell? (ad.add j) = some u) (h1 : ∀ u ∈ news, u.oneCell' = true)
    (hm : 0 < m) (h63 : n + m ≤ maxLen) (hbytes : (n + m) * bytes ≤ 140737488355328) (hbase : base ≤ w.heap.size)
    (hK : ∀ g cap w', w'.ownsRow base e size (.slice (some ⟨g, 0, none⟩) (n + m) cap) (n + m) (xs ++ news) → w.grownBy w' v.ownBlock → (some g = v.ownBlock ∨ g = w.heap.size) → K (a.put o.dst (.slice (some ⟨g, 0, none⟩) (n + m) cap)) w') :
    if Region.wanted o (yielded ops a.tmps) = true then Oper.wp P o a w K Q else E := by
  have hw : Region.wanted o (yielded ops a.tmps) = true := by simp [Region.wanted, hg]
  rw [if_pos hw]
  obtain ⟨v', w', hr, h2, h3, _⟩ := run_append_own (P := P) w base t o.type e i z size bytes ht hi hz hsize hby hzs hsz v n xs hown ad m c news hl hnews h1 h63 hbytes hbase
  obtain ⟨v2, w2, hr2, h5⟩ := run_append_where (P := P) w base t o.type e i z size bytes ht hi hz hsize hby v n xs hown ad m c news hl hnews h1 hm h63 hbytes
  rw [hr] at hr2
  obtain ⟨rfl, rfl⟩ : v' = v2 ∧ w' = w2 := by simpa using hr2
  obtain ⟨g, cap, rfl⟩ := ownsRow_form h2 (by omega)
  unfold Oper.wp
  simp [execOp, hop, resolve, invoke, builtin, hs, hx, hr, Result.andThen]
  exact hK g cap w' h2 h3 (h5.imp (fun h => h) (fun h => by simpa [Value.ownBlock] using h))

theorem info_task : (Try.prog.info? 57).map (fun i => (i.zero, i.size, i.bytes)) = some (some (.agg #[.int .i64 0, .int .i64 0, .slice none 0 0]), 3, 40) := by kernel_rfl


/-- What a tree is, of its struct's block and its tasks' array. -/
theorem KTs.make {w : World} {p g cap : Nat} {kg kc : Nat → Nat} {own : Nat → Prop} {l : List Int} (wf : WfP l) (h0 : l ≠ []) (op : own p) (og : own g) (pg : p ≠ g) (hp : Blk w p 60 [.slice (some ⟨g, 0, none⟩) l.length cap])
    (hr : w.ownsRow 0 57 3 (.slice (some ⟨g, 0, none⟩) l.length cap) l.length (tkVs l kg kc))
    (kid : ∀ i, i < l.length → kN l i ≠ [] → Rw w (kg i) (kc i) 3 (ints (nI (kN l i))) ∧ kg i ≠ p ∧ kg i ≠ g ∧ own (kg i)) (sep : ∀ i j, i < l.length → j < l.length → kN l i ≠ [] → kN l j ≠ [] → i ≠ j → kg i ≠ kg j) (lt : ∀ k, own k → k < w.heap.size) :
    KTs w p g kg kc own l := by
  refine ⟨wf, op, fun _ => ⟨og, pg⟩, .inr ?_, kid, sep, lt⟩
  rcases hr.2 with ⟨e, _⟩ | ⟨g', cap', cur, e, hb, hg, hnc, hcm, hcs, htake⟩
  · simp at e
  · obtain ⟨rfl, rfl⟩ : g = g' ∧ cap = cap' := by simpa using e
    have hl : (tkVs l kg kc).length = l.length * 3 := length_rows3 _ _ _ _
    refine ⟨cap, cur.toList.drop (l.length * 3), h0, hp, ?_, ?_, hcm⟩
    · unfold Blk
      rw [← htake, List.take_append_drop]
      simpa using hg
    · simp; omega
theorem KTs.row {w : World} {p g : Nat} {kg kc : Nat → Nat} {own : Nat → Prop} {l : List Int} (h : KTs w p g kg kc own l) (h0 : l ≠ []) :
    ∃ cap, Blk w p 60 [.slice (some ⟨g, 0, none⟩) l.length cap] ∧ (∃ rest, Blk w g 57 (tkVs l kg kc ++ rest) ∧ l.length * 3 + rest.length = cap * 3 ∧ cap ≤ maxLen) := by
  rcases h.top with ⟨e, _⟩ | ⟨cap, rest, _, hp, hg, h1, h2⟩
  · exact absurd e h0
  · exact ⟨cap, hp, rest, hg, h1, h2⟩
theorem ownsRow_of {w : World} {g cap n : Nat} {xs rest : List Value} {t : TypeId} (hg : Blk w g t (xs ++ rest)) (hl : xs.length = n * 3) (h1 : n * 3 + rest.length = cap * 3) (h2 : cap ≤ maxLen) : w.ownsRow 0 t 3 (.slice (some ⟨g, 0, none⟩) n cap) n xs := by
  refine ⟨hl, .inr ⟨g, cap, (xs ++ rest).toArray, rfl, Nat.zero_le _, hg, by omega, h2, by simp; omega, ?_⟩⟩
  simp [← hl]
theorem ownsRow_setOther {w : World} {e : TypeId} {size : Nat} {g n cap : Nat} {xs : List Value} (h : w.ownsRow 0 e size (.slice (some ⟨g, 0, none⟩) n cap) n xs) {p : Addr} (hp : g ≠ p.block) (u : Value) : (w.setCell p u).ownsRow 0 e size (.slice (some ⟨g, 0, none⟩) n cap) n xs := by
  refine ⟨h.1, ?_⟩
  rcases h.2 with hn | ⟨g', cap', cur, hv, hb, hgg, rest⟩
  · exact .inl hn
  · refine .inr ⟨g', cap', cur, hv, hb, ?_, rest⟩
    obtain ⟨rfl, rfl⟩ : g = g' ∧ cap = cap' := by simpa using hv
    exact (Below.heap_setCell w p u g hp).trans hgg
theorem Blk.grown {w w' : World} {g : Nat} {t : TypeId} {cs : List Value} {row : Option Nat} (h : Blk w g t cs) (hg : w.grownBy w' row) (hr : some g ≠ row) : Blk w' g t cs := (hg.block g h.lt hr).trans h
/-- The cells of a box of a record of three cells, as an append reads them. -/
theorem three_cells {w : World} {b : Nat} {t : TypeId} {x y z : Value} (h : Blk w b t [x, y, z]) : ∀ (j : Nat) (u : Value), [x, y, z][j]? = some u → w.cell? ((⟨b, 0, none⟩ : Addr).add j) = some u := fun j u hj => by
  rw [kadd_plain, Nat.zero_add, h.cell]; exact hj

theorem tkVs_snoc {l : List Int} (hw : WfP l) {k : Nat} (hk : k < l.length) (kg kc : Nat → Nat) (g4 c4 : Nat) :
    tkVs (l ++ [(k : Int)]) (fun j => if j = k then g4 else kg j) (fun j => if j = k then c4 else kc j) =
      rows3 l.length (fun i => .int .i64 (parN l i)) (fun i => .int .i64 (nthN l i)) (fun j => if j = k then .slice (some ⟨g4, 0, none⟩) ((kN l k).length + 1) c4 else kvOf l kg kc j) ++ [.int .i64 k, .int .i64 (kN l k).length, .slice none 0 0] := by
  have hn : kN l l.length = [] := List.eq_nil_iff_forall_not_mem.2 (fun y hy => by have := kN_gt hw hy; omega)
  have hl : (l ++ [(k : Int)]).length = l.length + 1 := by simp
  unfold tkVs
  rw [hl, rows3_succ]
  congr 1
  · refine rows3_congr (fun i hi => ⟨by rw [parN_snoc hi], by rw [nthN_snoc hi], ?_⟩)
    show kvOf _ _ _ _ = _
    unfold kvOf
    rw [kN_snoc]
    by_cases e : i = k
    · subst e
      rw [if_pos rfl, if_pos rfl]
      simp
    · have e' : ¬ ((k : Int) = (i : Int)) := by omega
      rw [if_neg e', if_neg e]
      simp only [if_neg e]
  · rw [parN_new, nthN_new]
    have e' : ¬ ((k : Int) = (l.length : Int)) := by omega
    have e3 : kN (l ++ [(k : Int)]) l.length = [] := by rw [kN_snoc, if_neg e', hn]
    simp [kvOf, e3]
theorem tk_cell {w : World} {g : Nat} {t : TypeId} {kg kc : Nat → Nat} {l : List Int} {rest : List Value} (hg : Blk w g t (tkVs l kg kc ++ rest)) {k : Nat} (hk : k < l.length) : w.cell? ⟨g, k * 3 + 2, none⟩ = some (kvOf l kg kc k) := by
  have e2 := (get_rows3 (n := l.length) (fun i => .int .i64 (parN l i)) (fun i => .int .i64 (nthN l i)) (kvOf l kg kc) hk).2.2
  have hl : (tkVs l kg kc).length = l.length * 3 := length_rows3 _ _ _ _
  rw [hg.cell, List.getElem?_append_left (by omega)]; exact e2
theorem KTs.kidAt {w : World} {p g : Nat} {kg kc : Nat → Nat} {own : Nat → Prop} {l : List Int} (h : KTs w p g kg kc own l) {k : Nat} (hk : k < l.length) :
    ∃ A ac, w.cell? ⟨g, k * 3 + 2, none⟩ = some (.slice A (kN l k).length ac) ∧ Ls w 0 A ac (nI (kN l k)) ∧ ∀ b, A = some ⟨b, 0, none⟩ → b ≠ p ∧ b ≠ g ∧ own b ∧ ∀ j, j < l.length → j ≠ k → kN l j ≠ [] → kg j ≠ b := by
  obtain ⟨A, ac, cA, hA, h1, h2⟩ := (h.node hk).kids
  refine ⟨A, ac, cA, hA, fun b e => ?_⟩
  have hne : kN l k ≠ [] := fun e2 => by rw [h1 e2] at e; cases e
  have hb : b = kg k := by
    rcases h.top with ⟨e0, _⟩ | ⟨cap, rest, _, _, hg, _, _⟩
    · subst e0; simp at hk
    · have e2 := (get_rows3 (n := l.length) (fun i => .int .i64 (parN l i)) (fun i => .int .i64 (nthN l i)) (kvOf l kg kc) hk).2.2
      have hl : (tkVs l kg kc).length = l.length * 3 := length_rows3 _ _ _ _
      have ec : w.cell? ⟨g, k * 3 + 2, none⟩ = some (kvOf l kg kc k) := by rw [hg.cell, List.getElem?_append_left (by omega)]; exact e2
      rw [cA] at ec
      unfold kvOf at ec
      rw [if_neg hne, e] at ec
      simp at ec
      exact ec.1
  obtain ⟨_, k2, k3, k4⟩ := h.kid k hk hne
  subst hb
  exact ⟨k2, k3, k4, fun j hj hjk hjn => h.sep j k hj hk hjn hne hjk⟩

section
variable {w : World} {p : Nat} {own : Nat → Prop} {l : List Int}
set_option maxRecDepth 20000 in
set_option maxHeartbeats 1000000 in
theorem kadd_root (hT : KT w p own []) :
    Calls Try.prog 28 #[.pointer (some ⟨p, 0, none⟩), .int .i64 (-1)] w fun e w' => e = .returned (.tuple #[.int .i64 0, .int .i64 0]) ∧
      KT w' p (fun k => own k ∨ (w.heap.size ≤ k ∧ k < w'.heap.size)) [-1] ∧ Kept own w w' := by
  obtain ⟨i0, hi, hz0, hz1, hz2⟩ := info_parts info_task
  obtain ⟨g, kg, kc, hT⟩ := hT
  have hp : Blk w p 60 [.slice none 0 0] := by
    rcases hT.top with ⟨_, hp⟩ | ⟨_, _, h, _⟩
    · exact hp
    · exact absurd rfl h
  have c0 := hp.cell 0
  simp only [List.getElem?_cons_zero] at c0
  have hpl := hp.lt
  have one : Blk (w.alloc (.cells #[.int .i64 (-1), .int .i64 0, .slice none 0 0] 57)) w.heap.size 57 [.int .i64 (-1), .int .i64 0, .slice none 0 0] := Blk.new w _ _
  have hp1 := hp.alloc (.cells #[.int .i64 (-1), .int .i64 0, .slice none 0 0] 57)
  have k1 : Kept own w (w.alloc (.cells #[.int .i64 (-1), .int .i64 0, .slice none 0 0] 57)) := (Kept.refl _ w).alloc _
  have z1 : (w.alloc (.cells #[.int .i64 (-1), .int .i64 0, .slice none 0 0] 57)).heap.size = w.heap.size + 1 := by simp
  have HT := Lib.hid hT
  clear hT hp
  go_enter Try.func28, Try.ntmps28
  go_upto_region 13 with fail
  clear c0
  generalize (w.alloc (.cells #[.int .i64 (-1), .int .i64 0, .slice none 0 0] 57)) = w1 at *
  have c0 := hp1.cell 0
  simp only [List.getElem?_cons_zero] at c0
  have q0 := one.cell 0
  have q1 := one.cell 1
  have q2 := one.cell 2
  simp only [List.getElem?_cons_zero, List.getElem?_cons_succ] at q0 q1 q2
  have hb6 := (Blk.new w1 57 [.int .i64 (-1), .int .i64 0, .slice none 0 0]).drew
  rw [z1] at hb6
  have hp6 := (hp1.alloc (.cells #[.int .i64 (-1), .int .i64 0, .slice none 0 0] 57)).drew
  have HB6 := Lib.hid (three_cells hb6)
  have HP6 := Lib.hid hp6
  have K1 := Lib.hid k1
  clear hb6 hp6 hp1 one k1
  go_region_law (refine step_append_more rfl (.tmp 68) (.tmp 70) 58 rfl 0 57 i0 (.agg #[.int .i64 0, .int .i64 0, .slice none 0 0]) 3 40 Try.underlying58 hi hz0 hz1 hz2 rfl (by decide) (.slice none 0 0) 0 [] rfl (World.ownsRow_nil _ _ _ _) ⟨w.heap.size + 1, 0, none⟩ 1 1 [.int .i64 (-1), .int .i64 0, .slice none 0 0] rfl rfl HB6.out (by simp; exact ⟨rfl, rfl, rfl⟩) (by omega) (by unfold maxLen; omega) (by omega) (Nat.zero_le _) ?_; intro g' cap' w' hown hgrow hwhere; have hp7 := HP6.out.grown hgrow (by simp [Value.ownBlock]); have c7 := hp7.cell 0; have f7 := hp7.frozen 0; simp only [List.getElem?_cons_zero] at c7)
  all_goals
    have HO := Lib.hid hown
    have HG := Lib.hid hgrow
    have HW := Lib.hid hwhere
    have HP7 := Lib.hid hp7
    clear hown hgrow hwhere hp7
    go_wp2_with fail
    go_ret2
    have hg' : g' = w.heap.size + 2 := by
      rcases HW.out with e | e
      · simp [Value.ownBlock] at e
      · rw [e]; simp [z1]
    have hz7 := HG.out.size
    simp [z1] at hz7
    have hgs : g' < w'.heap.size := by
      rcases HO.out.2 with ⟨e, _⟩ | ⟨g2, cap2, cur, e, hb, hg, _⟩
      · simp at e
      · obtain ⟨rfl, rfl⟩ : g' = g2 ∧ cap' = cap2 := by simpa using e
        exact (Array.getElem?_eq_some_iff.1 hg).1
    have hsz8 : (w'.setCell ⟨p, 0, none⟩ (.slice (some ⟨g', 0, none⟩) 1 cap')).heap.size = w'.heap.size := by simp [World.setCell]
    refine ⟨rfl, ⟨g', kg, kc, KTs.make (cap := cap') (HT.out.wf.snoc (.inl ⟨rfl, rfl⟩)) (by simp) (.inl HT.out.op) (.inr ⟨by omega, by rw [hsz8]; exact hgs⟩) (by omega) (HP7.out.set 0 _) ?_ ?_ ?_ ?_⟩, ?_⟩
    · have e : tkVs [-1] kg kc = [.int .i64 (-1), .int .i64 0, .slice none 0 0] := by
        simp [tkVs, rows3, kvOf, kN, parN, nthN]
      rw [e]
      exact ownsRow_setOther HO.out (p := ⟨p, 0, none⟩) (by show g' ≠ p; omega) _
    · intro i hi h
      have : i = 0 := by simpa using hi
      subst this
      simp [kN] at h
    · intro i j hi hj _ _ hij
      simp at hi hj
      omega
    · rintro k (h | h)
      · have := HT.out.lt k h
        rw [hsz8]; omega
      · exact h.2
    · exact (((K1.out.alloc _).drew.grown HG.out (fun k e => by simp [Value.ownBlock] at e))).setCell (p := ⟨p, 0, none⟩) (.inl HT.out.op) _
set_option maxRecDepth 20000 in
set_option maxHeartbeats 2000000 in
theorem kadd_kid (hT : KT w p own l) (few : l.length ≤ 1000) (k : Nat) (hk : k < l.length) :
    Calls Try.prog 28 #[.pointer (some ⟨p, 0, none⟩), .int .i64 k] w fun e w' => e = .returned (.tuple #[.int .i64 l.length, .int .i64 0]) ∧
      KT w' p (fun k => own k ∨ (w.heap.size ≤ k ∧ k < w'.heap.size)) (l ++ [(k : Int)]) ∧ Kept own w w' := by
  obtain ⟨i0, hi, hz0, hz1, hz2⟩ := info_parts info_task
  obtain ⟨g, kg, kc, hT⟩ := hT
  have h0 : l ≠ [] := by intro e; subst e; simp at hk
  have b1 := kbox1 w 3 k
  have bb : Below w.heap.size w (w.alloc (.cells #[.int .i64 k] 3)) := (Below.refl _ w).alloc (Nat.le_refl _) _
  have kk1 : Kept own w (w.alloc (.cells #[.int .i64 k] 3)) := (Kept.refl own w).alloc _
  have hT1 : KTs (w.alloc (.cells #[.int .i64 k] 3)) p g kg kc own l := hT.kept ((Kept.refl (fun _ => False) w).alloc _) (fun _ _ e => e)
  have hh := khas1 ⟨g, kg, kc, hT1⟩ b1 (inK_nat hk)
  have z1 : (w.alloc (.cells #[.int .i64 k] 3)).heap.size = w.heap.size + 1 := by simp
  obtain ⟨cap, hp, rest, hg, hl1, hl2⟩ := hT1.row h0
  have c0 : (w.alloc (.cells #[.int .i64 k] 3)).cell? ⟨p, 0, none⟩ = some (.slice (some ⟨g, 0, none⟩) l.length cap) := hp.cell 0
  obtain ⟨A, ac, cA, hA, hA1⟩ := hT1.kidAt hk
  have hki : (k : Int) < (l.length : Int) := by omega
  have hlc : l.length ≤ cap := by omega
  have hpg := (hT.og h0).2
  have hgl : g < w.heap.size := hT.lt g (hT.og h0).1
  have hpl : p < w.heap.size := hT.lt p hT.op
  have e1 : ((k : Int) != -1) = true := by simp
  have e2 : ((k : Int) == -1) = false := by simp
  have HT := Lib.hid hT
  have HT1 := Lib.hid hT1
  have HP := Lib.hid hp
  have HG := Lib.hid hg
  have HA := Lib.hid hA
  have HA1 := Lib.hid hA1
  clear hT hT1 hp hg hA hA1 b1
  go_enter Try.func28, Try.ntmps28
  go_upto_region 12 with (go_at_call 32; refine hh.mono ?_; rintro e w' ⟨rfl, rfl⟩)
  have n1 : Blk ((w.alloc (.cells #[.int .i64 k] 3)).alloc (.cells #[.int .i64 k, .int .i64 (kN l k).length, .slice none 0 0] 57)) (w.heap.size + 1) 57 [.int .i64 k, .int .i64 (kN l k).length, .slice none 0 0] := by
    have := Blk.new (w.alloc (.cells #[.int .i64 k] 3)) 57 [.int .i64 k, .int .i64 (kN l k).length, .slice none 0 0]
    rwa [z1] at this
  have kq : Kept own w ((w.alloc (.cells #[.int .i64 k] 3)).alloc (.cells #[.int .i64 k, .int .i64 (kN l k).length, .slice none 0 0] 57)) := kk1.alloc _
  have kf : Kept (fun _ => False) (w.alloc (.cells #[.int .i64 k] 3)) ((w.alloc (.cells #[.int .i64 k] 3)).alloc (.cells #[.int .i64 k, .int .i64 (kN l k).length, .slice none 0 0] 57)) := (Kept.refl _ _).alloc _
  have zq : ((w.alloc (.cells #[.int .i64 k] 3)).alloc (.cells #[.int .i64 k, .int .i64 (kN l k).length, .slice none 0 0] 57)).heap.size = w.heap.size + 2 := by simp
  have cA' := (kf.cell (p := ⟨g, k * 3 + 2, none⟩) (by rw [z1]; show g < _; omega) id).trans cA
  clear cA c0 bb
  generalize (w.alloc (.cells #[.int .i64 k] 3)).alloc (.cells #[.int .i64 k, .int .i64 (kN l k).length, .slice none 0 0] 57) = wq at *
  have hTq := HT1.out.kept kf (fun _ _ e => e)
  have hpq := HP.out.kept kf id
  have hgq := HG.out.kept kf id
  have hAq := HA.out.kept kf (fun _ _ => id)
  generalize hw1 : (w.alloc (.cells #[.int .i64 k] 3)) = w1 at *
  clear kf kk1 hh HT1 HP HG HA z1 hw1
  obtain ⟨nk, hnk⟩ : ∃ nk, (kN l k).length = nk := ⟨_, rfl⟩
  have hnk2 : nk ≤ 1000 := by rw [← hnk]; have := kN_length l k; omega
  rw [hnk] at cA' n1 ⊢
  have hAb := hAq.below ((Below.refl wq.heap.size wq).alloc (Nat.le_refl _) (.cells #[.int .i64 l.length] 3)) (Nat.le_refl _)
  have nb := one_cell ((Blk.new wq 3 [.int .i64 l.length]).cell 0)
  rw [zq] at nb
  have hb1 : Kept own w (wq.alloc (.cells #[.int .i64 l.length] 3)) := kq.alloc _
  have kf2 : Kept (fun _ => False) wq (wq.alloc (.cells #[.int .i64 l.length] 3)) := (Kept.refl _ _).alloc _
  have z3 : (wq.alloc (.cells #[.int .i64 l.length] 3)).heap.size = w.heap.size + 3 := by simp [zq]
  have HAB := Lib.hid hAb
  have NB := Lib.hid nb
  have HTQ := Lib.hid hTq
  have HPQ := Lib.hid hpq
  have HGQ := Lib.hid hgq
  have HN1 := Lib.hid n1
  have HNK := Lib.hid hnk
  have KB1 := Lib.hid hb1
  have KF2 := Lib.hid kf2
  clear hAb nb hTq hpq hgq n1 hb1 kf2 kq hAq hnk
  go_upto_region 13 with (at_builtin; go_loud ((refine wpList_append_ls _ rfl (.tmp 58) (.tmp 60) rfl (nI (kN l k)) HAB.out nk (by rw [length_nI]; exact HNK.out.symm) rfl (Nat.zero_le _) ⟨w.heap.size + 2, 0, none⟩ 1 1 [(l.length : Int)] rfl rfl (by omega) NB.out (by omega) ?_); (intro g4 c4 w4 h4 hk4 hw4 hl4; have hg4 := (HGQ.out.kept KF2.out id).kept hk4 (fun e => (HA1.out g e).2.1 rfl); have fg4 := hg4.frozen (k * 3 + 2); have cg4 := tk_cell hg4 hk; have HG4 := Lib.hid hg4; have H4 := Lib.hid h4; have HK4 := Lib.hid hk4; have HW4 := Lib.hid hw4; clear hg4 h4 hk4 hw4)))
  have hzw4 := HK4.out.size
  rw [z3] at hzw4
  have hownl : ∀ b, own b → b < w.heap.size := HT.out.lt
  have f4 : g4 ≠ g ∧ g4 ≠ p ∧ (own g4 ∨ w.heap.size ≤ g4) ∧ (∀ j, j < l.length → j ≠ k → kN l j ≠ [] → kg j ≠ g4) := by
    rcases HW4.out with e | e
    · obtain ⟨h1, h2, h3, h4⟩ := HA1.out g4 e
      exact ⟨h2, h1, .inl h3, h4⟩
    · rw [z3] at e
      refine ⟨by omega, by omega, .inr (by omega), fun j hj hjk hjn e2 => ?_⟩
      have := hownl _ (HTQ.out.kid j hj hjn).2.2.2
      omega
  obtain ⟨f41, f42, f43, f44⟩ := f4
  have hr4 : Rw w4 g4 c4 3 (ints (nI (kN l k) ++ [(l.length : Int)])) := by
    rcases H4.out with ⟨e, _⟩ | ⟨g', e, hr, _⟩
    · cases e
    · obtain rfl : g4 = g' := by simpa using e
      exact hr
  have k3 : Kept own (wq.alloc (.cells #[.int .i64 l.length] 3)) w4 := HK4.out.mono (fun i _ e => (HA1.out i e).2.2.1)
  have hp5 := ((HPQ.out.kept KF2.out id).kept HK4.out (fun e => (HA1.out p e).1 rfl)).setOther (p := ⟨g, k * 3 + 2, none⟩) hpg (.slice (some ⟨g4, 0, none⟩) (nk + 1) c4)
  have one5 := ((HN1.out.kept KF2.out id).kept HK4.out (fun e => by have := hownl _ (HA1.out _ e).2.2.1; omega)).setOther (p := ⟨g, k * 3 + 2, none⟩) (by show _ ≠ g; omega) (.slice (some ⟨g4, 0, none⟩) (nk + 1) c4)
  have hg5 := HG4.out.set (k * 3 + 2) (.slice (some ⟨g4, 0, none⟩) (nk + 1) c4)
  rw [List.set_append_left _ _ (by rw [show (tkVs l kg kc).length = l.length * 3 from length_rows3 _ _ _ _]; omega), show tkVs l kg kc = rows3 l.length (fun i => .int .i64 (parN l i)) (fun i => .int .i64 (nthN l i)) (kvOf l kg kc) from rfl, rows3_set _ _ _ hk] at hg5
  have hr5 := hr4.setOther (p := ⟨g, k * 3 + 2, none⟩) f41 (.slice (some ⟨g4, 0, none⟩) (nk + 1) c4)
  have ho5 : ∀ j, j < l.length → j ≠ k → kN l j ≠ [] → Rw (w4.setCell ⟨g, k * 3 + 2, none⟩ (.slice (some ⟨g4, 0, none⟩) (nk + 1) c4)) (kg j) (kc j) 3 (ints (nI (kN l j))) := fun j hj hjk hjn => by
    obtain ⟨r1, r2, r3, r4⟩ := HTQ.out.kid j hj hjn
    exact ((r1.kept KF2.out id).kept HK4.out (fun e => (HA1.out _ e).2.2.2 j hj hjk hjn rfl)).setOther (p := ⟨g, k * 3 + 2, none⟩) r3 _
  have k5 : Kept own w (w4.setCell ⟨g, k * 3 + 2, none⟩ (.slice (some ⟨g4, 0, none⟩) (nk + 1) c4)) := (KB1.out.trans k3 (fun _ _ e => e)).setCell (p := ⟨g, k * 3 + 2, none⟩) (.inl (HT.out.og h0).1) _
  have z5 : (w4.setCell ⟨g, k * 3 + 2, none⟩ (.slice (some ⟨g4, 0, none⟩) (nk + 1) c4)).heap.size = w4.heap.size := by simp [World.setCell]
  have hkj : ∀ j, j < l.length → kN l j ≠ [] → kg j ≠ p ∧ kg j ≠ g ∧ own (kg j) := fun j hj hjn => (HTQ.out.kid j hj hjn).2
  have hsep : ∀ i j, i < l.length → j < l.length → kN l i ≠ [] → kN l j ≠ [] → i ≠ j → kg i ≠ kg j := HTQ.out.sep
  have hgl4 : g4 < w4.heap.size := hl4
  have HNK' := HNK.out
  have wf := HT.out.wf
  have hop := HT.out.op
  have hog := (HT.out.og h0).1
  clear k3 hr4 cg4 fg4 HK4 H4 HG4 HW4 HAB NB HTQ HPQ HGQ HN1 KB1 KF2 z3 zq cA' hl4
  generalize w4.setCell ⟨g, k * 3 + 2, none⟩ (.slice (some ⟨g4, 0, none⟩) (nk + 1) c4) = w5 at *
  rw [← z5] at hzw4 hgl4
  clear z5
  have hp5l : p < w5.heap.size := by omega
  have ho5l : w.heap.size + 1 < w5.heap.size := by omega
  have c0 := hp5.cell 0
  simp only [List.getElem?_cons_zero] at c0
  have q0 := one5.cell 0
  have q1 := one5.cell 1
  have q2 := one5.cell 2
  simp only [List.getElem?_cons_zero, List.getElem?_cons_succ] at q0 q1 q2
  have hb6 := (Blk.new w5 57 [.int .i64 k, .int .i64 nk, .slice none 0 0]).drew
  have hp6 := (hp5.alloc (.cells #[.int .i64 k, .int .i64 nk, .slice none 0 0] 57)).drew
  have hg6 := (hg5.alloc (.cells #[.int .i64 k, .int .i64 nk, .slice none 0 0] 57)).drew
  have ho6 := ownsRow_of hg6 (length_rows3 _ _ _ _) hl1 hl2
  have HB6 := Lib.hid (three_cells hb6)
  have HP6 := Lib.hid hp6
  have HO6 := Lib.hid ho6
  have HR5 := Lib.hid hr5
  have HQ5 := Lib.hid ho5
  have K5 := Lib.hid k5
  have HKJ := Lib.hid hkj
  have HSEP := Lib.hid hsep
  have HOL := Lib.hid hownl
  have HNK := Lib.hid HNK'
  have HWF := Lib.hid wf
  have F44 := Lib.hid f44
  have hpg5 : some p ≠ (Value.slice (some ⟨g, 0, none⟩) l.length cap).ownBlock := by simp [Value.ownBlock]; exact hpg
  clear hb6 hp6 hg6 ho6 hp5 hg5 one5 hr5 ho5 k5 hkj hsep hownl HNK' wf f44 HT HA1
  go_region_law (refine step_append_more rfl (.tmp 68) (.tmp 70) 58 rfl 0 57 i0 (.agg #[.int .i64 0, .int .i64 0, .slice none 0 0]) 3 40 Try.underlying58 hi hz0 hz1 hz2 rfl (by decide) (.slice (some ⟨g, 0, none⟩) l.length cap) l.length _ rfl HO6.out ⟨w5.heap.size, 0, none⟩ 1 1 [.int .i64 k, .int .i64 nk, .slice none 0 0] rfl rfl HB6.out (by simp; exact ⟨rfl, rfl, rfl⟩) (by omega) (by unfold maxLen; omega) (by omega) (Nat.zero_le _) ?_; intro g' cap' w' hown hgrow hwhere; have hp7 := HP6.out.grown hgrow hpg5; have c7 := hp7.cell 0; have f7 := hp7.frozen 0; simp only [List.getElem?_cons_zero] at c7)
  all_goals
    have HO := Lib.hid hown
    have HG := Lib.hid hgrow
    have HW := Lib.hid hwhere
    have HP7 := Lib.hid hp7
    clear hown hgrow hwhere hp7
    go_wp2_with fail
    go_ret2
    have hz7 := HG.out.size
    have z6 : ((w5.alloc (.cells #[.int .i64 k, .int .i64 nk, .slice none 0 0] 57)).drew).heap.size = w5.heap.size + 1 := by simp
    rw [z6] at hz7
    have hg' : g' = g ∨ g' = w5.heap.size + 1 := by
      rcases HW.out with e | e
      · left; simpa [Value.ownBlock] using e
      · right; rw [e, z6]
    have hgs : g' < w'.heap.size := by
      rcases HO.out.2 with ⟨e, _⟩ | ⟨g2, cap2, cur, e, hb, hg, _⟩
      · simp at e
      · obtain ⟨rfl, rfl⟩ : g' = g2 ∧ cap' = cap2 := by simpa using e
        exact (Array.getElem?_eq_some_iff.1 hg).1
    have hg'p : g' ≠ p := by omega
    have hsz8 : (w'.setCell ⟨p, 0, none⟩ (.slice (some ⟨g', 0, none⟩) (l.length + 1) cap')).heap.size = w'.heap.size := by simp [World.setCell]
    have k7 : Kept own w w' := ((K5.out.alloc _).drew.grown HG.out (fun b e => .inl (by simp [Value.ownBlock] at e; subst e; exact hog)))
    have hfar : ∀ {b c : Nat} {cs : List Value}, Rw w5 b c 3 cs → b ≠ g → b ≠ p → Rw (w'.setCell ⟨p, 0, none⟩ (.slice (some ⟨g', 0, none⟩) (l.length + 1) cap')) b c 3 cs := fun {b c cs} h hb hbp =>
      ((((h.alloc (.cells #[.int .i64 k, .int .i64 nk, .slice none 0 0] 57)).drew).grown HG.out (by simp [Value.ownBlock]; exact hb))).setOther (p := ⟨p, 0, none⟩) hbp _
    have hlen : (l ++ [(k : Int)]).length = l.length + 1 := by simp
    have hnew : kN (l ++ [(k : Int)]) l.length = [] := by
      rw [kN_snoc, if_neg (by omega)]
      exact List.eq_nil_iff_forall_not_mem.2 (fun y hy => by have := kN_gt HWF.out hy; omega)
    have hcas : ∀ i, i < l.length + 1 → kN (l ++ [(k : Int)]) i ≠ [] → i < l.length ∧ (i ≠ k → kN (l ++ [(k : Int)]) i = kN l i ∧ kN l i ≠ []) := fun i hi hn => by
      have h1 : i ≠ l.length := fun e => by subst e; exact hn hnew
      refine ⟨by omega, fun hik => ?_⟩
      have h2 : kN (l ++ [(k : Int)]) i = kN l i := by rw [kN_snoc, if_neg (by omega)]
      exact ⟨h2, h2 ▸ hn⟩
    refine ⟨rfl, ⟨g', fun j => if j = k then g4 else kg j, fun j => if j = k then c4 else kc j, KTs.make (cap := cap') (HWF.out.snoc (.inr ⟨by omega, by omega⟩)) (by simp) (.inl hop) ?_ (Ne.symm hg'p) ?_ ?_ ?_ ?_ ?_⟩, k7.setCell (p := ⟨p, 0, none⟩) (.inl hop) _⟩
    · rw [hsz8]
      rcases hg' with e | e
      · left; rw [e]; exact hog
      · right; exact ⟨by omega, hgs⟩
    · rw [hlen]; exact HP7.out.set 0 _
    · rw [hlen, tkVs_snoc HWF.out hk, HNK.out]
      exact ownsRow_setOther HO.out (p := ⟨p, 0, none⟩) hg'p _
    · intro i hi hn
      rw [hlen] at hi
      obtain ⟨h1, h2⟩ := hcas i hi hn
      by_cases hik : i = k
      · subst hik
        simp only [if_pos]
        refine ⟨?_, f42, by omega, ?_⟩
        · rw [kN_snoc, if_pos rfl, nI_append]
          exact hfar HR5.out f41 f42
        · rw [hsz8]
          rcases f43 with e | e
          · exact .inl e
          · exact .inr ⟨e, by omega⟩
      · obtain ⟨h3, h4⟩ := h2 hik
        simp only [if_neg hik]
        obtain ⟨r2, r3, r4⟩ := HKJ.out i h1 h4
        have hlt := HOL.out _ r4
        refine ⟨?_, r2, by omega, .inl r4⟩
        rw [h3]
        exact hfar (HQ5.out i h1 hik h4) r3 r2
    · intro i j hi hj hni hnj hij
      rw [hlen] at hi hj
      obtain ⟨h1, h2⟩ := hcas i hi hni
      obtain ⟨h3, h4⟩ := hcas j hj hnj
      by_cases hik : i = k
      · subst hik
        have hjk : j ≠ i := Ne.symm hij
        simp only [if_pos, if_neg hjk]
        exact Ne.symm (F44.out j h3 hjk (h4 hjk).2)
      · by_cases hjk : j = k
        · subst hjk
          simp only [if_pos, if_neg hik]
          exact F44.out i h1 hik (h2 hik).2
        · simp only [if_neg hik, if_neg hjk]
          exact HSEP.out i j h1 h3 (h2 hik).2 (h4 hjk).2 hij
    · rintro b (h | h)
      · have := HOL.out b h
        rw [hsz8]; omega
      · exact h.2
set_option maxHeartbeats 1000000 in
theorem kadd_no (hT : KT w p own l) (x c : Int) (hc : addC l x = c) (h0 : c ≠ 0) :
    Calls Try.prog 28 #[.pointer (some ⟨p, 0, none⟩), .int .i64 x] w fun e w' => e = .returned (.tuple #[.int .i64 0, .int .i64 c]) ∧ Below w.heap.size w w' := by
  unfold addC at hc
  split at hc
  · next h1 =>
    obtain ⟨hx, hi⟩ := h1
    subst hc
    have b1 := kbox1 w 3 x
    have bb : Below w.heap.size w (w.alloc (.cells #[.int .i64 x] 3)) := (Below.refl _ w).alloc (Nat.le_refl _) _
    have hh := khas1 (hT.below bb (Nat.le_refl _)) b1 hi
    have e1 : (x != -1) = true := by simp [hx]
    clear hT b1 h0 hi
    go_enter Try.func28, Try.ntmps28
    go_wp2_with (go_at_call 32; refine hh.mono ?_; rintro e w' ⟨rfl, rfl⟩)
    go_ret2
    exact ⟨rfl, bb⟩
  · split at hc
    · next h2 =>
      obtain ⟨rfl, hl⟩ := h2
      subst hc
      obtain ⟨A, cap, c0, _, _⟩ := hT.head
      have hl0 : 0 < l.length := List.length_pos_iff.2 hl
      have d1 : decide ((0 : Int) < (l.length : Int)) = true := by simp; exact hl0
      clear hT h0
      go_enter Try.func28, Try.ntmps28
      go_wp2_with fail
      go_ret2
      exact ⟨rfl, Below.refl _ w⟩
    · exact absurd hc.symm h0
theorem kadd_nil (x : Int) (w : World) :
    Calls Try.prog 28 #[.pointer none, .int .i64 x] w fun e w' => e = .returned (.tuple #[.int .i64 0, .int .i64 2]) ∧ w = w' := by
  go_enter Try.func28, Try.ntmps28
  go_wp2_with fail
  go_ret2
  exact ⟨rfl, by first | trivial | rfl⟩
/-- Add, of any parent: what it answers, and the tree behind it. -/
theorem kadd_any (hT : KT w p own l) (few : l.length ≤ 1000) (x : Int) :
    Calls Try.prog 28 #[.pointer (some ⟨p, 0, none⟩), .int .i64 x] w fun e w' => e = .returned (.tuple #[.int .i64 (if addC l x = 0 then (l.length : Int) else 0), .int .i64 (addC l x)]) ∧
      KT w' p (fun k => own k ∨ (w.heap.size ≤ k ∧ k < w'.heap.size)) (addL l x) ∧ Kept own w w' := by
  by_cases hc : addC l x = 0
  · unfold addL
    rw [if_pos hc, if_pos hc, hc]
    rcases addC_ok hc with ⟨rfl, rfl⟩ | ⟨h0, h1⟩
    · exact kadd_root hT
    · obtain ⟨k, rfl⟩ : ∃ k : Nat, x = k := ⟨x.toNat, by omega⟩
      exact kadd_kid hT few k (by omega)
  · unfold addL
    rw [if_neg hc, if_neg hc]
    refine (kadd_no hT x _ rfl hc).mono ?_
    rintro e w' ⟨rfl, hb⟩
    refine ⟨rfl, ?_, Kept.of_below hb⟩
    obtain ⟨g, kg, kc, h⟩ := hT.below hb (Nat.le_refl _)
    exact ⟨g, kg, kc, h.wf, .inl h.op, fun e => ⟨.inl (h.og e).1, (h.og e).2⟩, h.top, fun i hi hn => by obtain ⟨a, b, c, d⟩ := h.kid i hi hn; exact ⟨a, b, c, .inl d⟩, h.sep, fun k hk => hk.elim (h.lt k) (fun e => e.2)⟩
end
end Go.Proofs.Ytogobpnbkmdnfaa
