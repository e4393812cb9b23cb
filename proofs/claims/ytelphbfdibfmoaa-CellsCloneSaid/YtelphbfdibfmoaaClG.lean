/-
  WHAT IS PROVED HERE: the contract of the law's own function 'Does': it does one call of a machine. Conditions: the machine has at most 2^20 cells.
-/
import Derived.Test.YtelphbfdibfmoaaClF
namespace Go.Proofs.Ytelphbfdibfmoaa
open Go.RowKit

/-- What a call answers: its number, its error; and the machine behind it. -/
def doesR (st : MS) (kind i at_ x y : Int) : Int × Int × MS :=
  if kind = 0 then (if st.isCaller i = true ∧ st.isGiven at_ = true then (st.cellOf at_, 0, st.did i) else (0, 10, st))
  else if kind = 1 then (if st.isCaller i = true ∧ st.isGiven at_ = true then (0, 0, (st.did i).putAt at_ x) else (0, 10, st))
  else if kind = 2 then (if st.isCaller i = true ∧ st.isGiven at_ = true then (if st.cellOf at_ = y then (1, 0, (st.did i).putAt at_ x) else (0, 0, st.did i)) else (0, 10, st))
  else if kind = 3 then (if st.isCaller i = true ∧ st.isGiven at_ = true then (st.cellOf at_, 0, (st.did i).putAt at_ (wrap64 (st.cellOf at_ + x))) else (0, 10, st))
  else if st.isCaller i = true ∧ 1 ≤ at_ then (if (st.cells.length : Int) + at_ ≤ st.size then (st.cells.length, 0, (st.did i).more at_.toNat) else (0, 21, st)) else (0, 10, st)

def DoesEnd (w : World) (mb : MB) (st : MS) (r : Int × Int × MS) (e : Ending) (w' : World) : Prop :=
  e = .returned (.tuple #[.int .i64 r.1, .int .i64 r.2.1]) ∧ Kept mb.has w w' ∧ ∃ c, MachCP w' ⟨mb.p, c, mb.s⟩ r.2.2 ∧ (c = mb.c ∨ w.heap.size ≤ c) ∧ ((st.cells.length : Int) = st.size → c = mb.c)

theorem not_both {a b : Bool} (h : ¬ (a = true ∧ b = true)) : a = false ∨ b = false := by cases a <;> cases b <;> simp_all

theorem boxed5 (w : World) (k i at_ x y : Int) : ∀ j, (w.alloc (.cells #[.int .i64 k, .int .i64 i, .int .i64 at_, .int .i64 x, .int .i64 y] 47)).cell? ⟨w.heap.size, j, none⟩ = [Value.int .i64 k, .int .i64 i, .int .i64 at_, .int .i64 x, .int .i64 y][j]? :=
  (Blk.new w 47 [.int .i64 k, .int .i64 i, .int .i64 at_, .int .i64 x, .int .i64 y]).cell

set_option maxHeartbeats 1000000 in
theorem does_load (mb : MB) (st : MS) (i at_ x y : Int) (w : World) (hm : MachCP w mb st) :
    Calls Try.prog 25 #[.pointer (some ⟨mb.p, 0, none⟩), .agg #[.int .i64 0, .int .i64 i, .int .i64 at_, .int .i64 x, .int .i64 y]] w (DoesEnd w mb st (doesR st 0 i at_ x y)) := by
  have hx := boxed5 w 0 i at_ x y
  have hm1 := hm.alloc (.cells #[.int .i64 0, .int .i64 i, .int .i64 at_, .int .i64 x, .int .i64 y] 47)
  have hk1 := (Kept.refl mb.has w).alloc (.cells #[.int .i64 0, .int .i64 i, .int .i64 at_, .int .i64 x, .int .i64 y] 47)
  by_cases g : st.isCaller i = true ∧ st.isGiven at_ = true
  · obtain ⟨g1, g2⟩ := g
    have hr : doesR st 0 i at_ x y = (st.cellOf at_, 0, st.did i) := by simp [doesR, g1, g2]
    rw [hr]
    clear hr
    go_enter Try.func25, Try.ntmps25
    go_wp2_with fail
    refine (load_ok mb st i at_ _ hm1 g1 g2).mono ?_
    rintro e w2 ⟨rfl, hm2, hk2⟩
    clear hx
    go_wp2
    go_ret2
    exact ⟨rfl, hk1.trans hk2 (fun _ _ h => h), mb.c, hm2, .inl rfl, fun _ => rfl⟩
  · have gn := not_both g
    have hr : doesR st 0 i at_ x y = (0, 10, st) := by simp [doesR, g]
    rw [hr]
    clear hr
    go_enter Try.func25, Try.ntmps25
    go_wp2_with fail
    refine (load_no mb st i at_ _ hm1 gn).mono ?_
    rintro e w2 ⟨rfl, rfl⟩
    clear hx
    go_wp2
    go_ret2
    exact ⟨rfl, hk1, mb.c, hm1, .inl rfl, fun _ => rfl⟩

set_option maxHeartbeats 1000000 in
theorem does_store (mb : MB) (st : MS) (i at_ x y : Int) (w : World) (hm : MachCP w mb st) :
    Calls Try.prog 25 #[.pointer (some ⟨mb.p, 0, none⟩), .agg #[.int .i64 1, .int .i64 i, .int .i64 at_, .int .i64 x, .int .i64 y]] w (DoesEnd w mb st (doesR st 1 i at_ x y)) := by
  have hx := boxed5 w 1 i at_ x y
  have hm1 := hm.alloc (.cells #[.int .i64 1, .int .i64 i, .int .i64 at_, .int .i64 x, .int .i64 y] 47)
  have hk1 := (Kept.refl mb.has w).alloc (.cells #[.int .i64 1, .int .i64 i, .int .i64 at_, .int .i64 x, .int .i64 y] 47)
  by_cases g : st.isCaller i = true ∧ st.isGiven at_ = true
  · obtain ⟨g1, g2⟩ := g
    have hr : doesR st 1 i at_ x y = (0, 0, (st.did i).putAt at_ x) := by simp [doesR, g1, g2]
    rw [hr]
    clear hr
    go_enter Try.func25, Try.ntmps25
    go_wp2_with fail
    refine (store_ok mb st i at_ x _ hm1 g1 g2).mono ?_
    rintro e w2 ⟨rfl, hm2, hk2⟩
    clear hx
    go_wp2
    go_ret2
    exact ⟨rfl, hk1.trans hk2 (fun _ _ h => h), mb.c, hm2, .inl rfl, fun _ => rfl⟩
  · have gn := not_both g
    have hr : doesR st 1 i at_ x y = (0, 10, st) := by simp [doesR, g]
    rw [hr]
    clear hr
    go_enter Try.func25, Try.ntmps25
    go_wp2_with fail
    refine (store_no mb st i at_ x _ hm1 gn).mono ?_
    rintro e w2 ⟨rfl, rfl⟩
    clear hx
    go_wp2
    go_ret2
    exact ⟨rfl, hk1, mb.c, hm1, .inl rfl, fun _ => rfl⟩

set_option maxHeartbeats 1000000 in
theorem does_cas (mb : MB) (st : MS) (i at_ x y : Int) (w : World) (hm : MachCP w mb st) :
    Calls Try.prog 25 #[.pointer (some ⟨mb.p, 0, none⟩), .agg #[.int .i64 2, .int .i64 i, .int .i64 at_, .int .i64 x, .int .i64 y]] w (DoesEnd w mb st (doesR st 2 i at_ x y)) := by
  have hx := boxed5 w 2 i at_ x y
  have hm1 := hm.alloc (.cells #[.int .i64 2, .int .i64 i, .int .i64 at_, .int .i64 x, .int .i64 y] 47)
  have hk1 := (Kept.refl mb.has w).alloc (.cells #[.int .i64 2, .int .i64 i, .int .i64 at_, .int .i64 x, .int .i64 y] 47)
  by_cases g : st.isCaller i = true ∧ st.isGiven at_ = true
  · obtain ⟨g1, g2⟩ := g
    by_cases hy : st.cellOf at_ = y
    · have HY := Lib.hid hy
      have hr : doesR st 2 i at_ x y = (1, 0, (st.did i).putAt at_ x) := by simp [doesR, g1, g2, HY.out]
      clear hy
      rw [hr]
      clear hr
      go_enter Try.func25, Try.ntmps25
      go_wp2_with fail
      refine (cas_hit mb st i at_ y x _ hm1 g1 g2 HY.out).mono ?_
      rintro e w2 ⟨rfl, hm2, hk2⟩
      clear hx
      go_wp2
      go_ret2
      exact ⟨rfl, hk1.trans hk2 (fun _ _ h => h), mb.c, hm2, .inl rfl, fun _ => rfl⟩
    · have HY := Lib.hid hy
      have hr : doesR st 2 i at_ x y = (0, 0, st.did i) := by simp [doesR, g1, g2, HY.out]
      clear hy
      rw [hr]
      clear hr
      go_enter Try.func25, Try.ntmps25
      go_wp2_with fail
      refine (cas_miss mb st i at_ y x _ hm1 g1 g2 HY.out).mono ?_
      rintro e w2 ⟨rfl, hm2, hk2⟩
      clear hx
      go_wp2
      go_ret2
      exact ⟨rfl, hk1.trans hk2 (fun _ _ h => h), mb.c, hm2, .inl rfl, fun _ => rfl⟩
  · have gn := not_both g
    have hr : doesR st 2 i at_ x y = (0, 10, st) := by simp [doesR, g]
    rw [hr]
    clear hr
    go_enter Try.func25, Try.ntmps25
    go_wp2_with fail
    refine (cas_no mb st i at_ y x _ hm1 gn).mono ?_
    rintro e w2 ⟨rfl, rfl⟩
    clear hx
    go_wp2
    go_ret2
    exact ⟨rfl, hk1, mb.c, hm1, .inl rfl, fun _ => rfl⟩

set_option maxHeartbeats 1000000 in
theorem does_add (mb : MB) (st : MS) (i at_ x y : Int) (w : World) (hm : MachCP w mb st) :
    Calls Try.prog 25 #[.pointer (some ⟨mb.p, 0, none⟩), .agg #[.int .i64 3, .int .i64 i, .int .i64 at_, .int .i64 x, .int .i64 y]] w (DoesEnd w mb st (doesR st 3 i at_ x y)) := by
  have hx := boxed5 w 3 i at_ x y
  have hm1 := hm.alloc (.cells #[.int .i64 3, .int .i64 i, .int .i64 at_, .int .i64 x, .int .i64 y] 47)
  have hk1 := (Kept.refl mb.has w).alloc (.cells #[.int .i64 3, .int .i64 i, .int .i64 at_, .int .i64 x, .int .i64 y] 47)
  by_cases g : st.isCaller i = true ∧ st.isGiven at_ = true
  · obtain ⟨g1, g2⟩ := g
    have hr : doesR st 3 i at_ x y = (st.cellOf at_, 0, (st.did i).putAt at_ (wrap64 (st.cellOf at_ + x))) := by simp [doesR, g1, g2]
    rw [hr]
    clear hr
    go_enter Try.func25, Try.ntmps25
    go_wp2_with fail
    refine (add_ok mb st i at_ x _ hm1 g1 g2).mono ?_
    rintro e w2 ⟨rfl, hm2, hk2⟩
    clear hx
    go_wp2
    go_ret2
    exact ⟨rfl, hk1.trans hk2 (fun _ _ h => h), mb.c, hm2, .inl rfl, fun _ => rfl⟩
  · have gn := not_both g
    have hr : doesR st 3 i at_ x y = (0, 10, st) := by simp [doesR, g]
    rw [hr]
    clear hr
    go_enter Try.func25, Try.ntmps25
    go_wp2_with fail
    refine (add_no mb st i at_ x _ hm1 gn).mono ?_
    rintro e w2 ⟨rfl, hm2, hk2⟩
    clear hx
    go_wp2
    go_ret2
    exact ⟨rfl, hk1.trans hk2 (fun _ _ h => h), mb.c, hm2, .inl rfl, fun _ => rfl⟩

set_option maxHeartbeats 1000000 in
theorem does_alloc (mb : MB) (st : MS) (kind i at_ x y : Int) (w : World) (hm : MachCP w mb st) (k0 : ¬ kind = 0) (k1 : ¬ kind = 1) (k2 : ¬ kind = 2) (k3 : ¬ kind = 3) (z0 : 0 ≤ st.size) (z1 : st.size ≤ 1048576) :
    Calls Try.prog 25 #[.pointer (some ⟨mb.p, 0, none⟩), .agg #[.int .i64 kind, .int .i64 i, .int .i64 at_, .int .i64 x, .int .i64 y]] w (DoesEnd w mb st (doesR st kind i at_ x y)) := by
  have hx := boxed5 w kind i at_ x y
  have hm1 := hm.alloc (.cells #[.int .i64 kind, .int .i64 i, .int .i64 at_, .int .i64 x, .int .i64 y] 47)
  have hk1 := (Kept.refl mb.has w).alloc (.cells #[.int .i64 kind, .int .i64 i, .int .i64 at_, .int .i64 x, .int .i64 y] 47)
  by_cases g : st.isCaller i = true ∧ 1 ≤ at_
  · obtain ⟨g1, g2⟩ := g
    by_cases g3 : (st.cells.length : Int) + at_ ≤ st.size
    · have G3 := Lib.hid g3
      have hr : doesR st kind i at_ x y = ((st.cells.length : Int), 0, (st.did i).more at_.toNat) := by simp [doesR, k0, k1, k2, k3, g1, g2, G3.out]
      clear g3
      rw [hr]
      clear hr
      go_enter Try.func25, Try.ntmps25
      go_wp2_with fail
      refine (alloc_okI mb st i at_ _ hm1 g1 g2 G3.out z1).mono ?_
      rintro e w2 ⟨rfl, hk2, c, hc, hm2⟩
      clear hx
      go_wp2
      go_ret2
      exact ⟨rfl, hk1.trans hk2 (fun _ _ h => h), c, hm2, .inr (by simp at hc; omega), fun h => absurd G3.out (by omega)⟩
    · have G3 := Lib.hid g3
      have hr : doesR st kind i at_ x y = (0, 21, st) := by simp [doesR, k0, k1, k2, k3, g1, g2, G3.out]
      clear g3
      rw [hr]
      clear hr
      go_enter Try.func25, Try.ntmps25
      go_wp2_with fail
      refine (alloc_full mb st i at_ _ hm1 g1 g2 (by have := G3.out; omega) z0 z1).mono ?_
      rintro e w2 ⟨rfl, rfl⟩
      clear hx
      go_wp2
      go_ret2
      exact ⟨rfl, hk1, mb.c, hm1, .inl rfl, fun _ => rfl⟩
  · have gn : st.isCaller i = false ∨ at_ < 1 := by
      cases h : st.isCaller i with
      | false => exact .inl rfl
      | true => exact .inr (by simp [h] at g; omega)
    have GN := Lib.hid gn
    have G := Lib.hid g
    clear gn g
    have hr : doesR st kind i at_ x y = (0, 10, st) := by simp [doesR, k0, k1, k2, k3, G.out]
    rw [hr]
    clear hr
    go_enter Try.func25, Try.ntmps25
    go_wp2_with fail
    refine (alloc_no mb st i at_ _ hm1 GN.out).mono ?_
    rintro e w2 ⟨rfl, rfl⟩
    clear hx
    go_wp2
    go_ret2
    exact ⟨rfl, hk1, mb.c, hm1, .inl rfl, fun _ => rfl⟩

theorem does_any (mb : MB) (st : MS) (kind i at_ x y : Int) (w : World) (hm : MachCP w mb st) (z0 : 0 ≤ st.size) (z1 : st.size ≤ 1048576) :
    Calls Try.prog 25 #[.pointer (some ⟨mb.p, 0, none⟩), .agg #[.int .i64 kind, .int .i64 i, .int .i64 at_, .int .i64 x, .int .i64 y]] w (DoesEnd w mb st (doesR st kind i at_ x y)) := by
  by_cases k0 : kind = 0
  · subst k0; exact does_load mb st i at_ x y w hm
  · by_cases k1 : kind = 1
    · subst k1; exact does_store mb st i at_ x y w hm
    · by_cases k2 : kind = 2
      · subst k2; exact does_cas mb st i at_ x y w hm
      · by_cases k3 : kind = 3
        · subst k3; exact does_add mb st i at_ x y w hm
        · exact does_alloc mb st kind i at_ x y w hm k0 k1 k2 k3 z0 z1
end Go.Proofs.Ytelphbfdibfmoaa
