/-
  WHAT IS PROVED HERE: the contract of the law's own function 'plain': it does one call of a reference's machine. Conditions: the machine has at most 2^20 cells.
-/
import Derived.Test.YtelphbfdibfmoaaRefB
namespace Go.Proofs.Ytelphbfdibfmoaa
open Go.RowKit

def PlainEnd (w : World) (mb : MB) (r : Int × Int × MS) (e : Ending) (w' : World) : Prop :=
  e = .returned (.tuple #[.int .i64 r.1, .int .i64 r.2.1]) ∧ Kept mb.has w w' ∧ ∃ c, MachR w' ⟨mb.p, c, mb.s⟩ r.2.2 ∧ (⟨mb.p, c, mb.s⟩ : MB).ord ∧ (c = mb.c ∨ w.heap.size ≤ c)

set_option maxHeartbeats 1000000 in
theorem plain_load (mb : MB) (st : MS) (i at_ x y : Int) (w : World) (hm : MachR w mb st) (ho : mb.ord) :
    Calls Try.prog 29 #[.pointer (some ⟨mb.p, 0, none⟩), .agg #[.int .i64 0, .int .i64 i, .int .i64 at_, .int .i64 x, .int .i64 y]] w (PlainEnd w mb (doesR st 0 i at_ x y)) := by
  have hx := boxed5 w 0 i at_ x y
  have hm1 := hm.alloc (.cells #[.int .i64 0, .int .i64 i, .int .i64 at_, .int .i64 x, .int .i64 y] 47)
  have hk1 := (Kept.refl mb.has w).alloc (.cells #[.int .i64 0, .int .i64 i, .int .i64 at_, .int .i64 x, .int .i64 y] 47)
  by_cases g : st.isCaller i = true ∧ st.isGiven at_ = true
  · obtain ⟨g1, g2⟩ := g
    have hr : doesR st 0 i at_ x y = (st.cellOf at_, 0, st.did i) := by simp [doesR, g1, g2]
    rw [hr]
    clear hr
    go_enter Try.func29, Try.ntmps29
    go_wp2_with fail
    refine (rload_ok mb st i at_ _ hm1 g1 g2).mono ?_
    rintro e w2 ⟨rfl, hm2, hk2⟩
    clear hx
    go_wp2
    go_ret2
    exact ⟨rfl, hk1.trans hk2 (fun _ _ h => h), mb.c, hm2, ho, .inl rfl⟩
  · have gn := not_both g
    have hr : doesR st 0 i at_ x y = (0, 10, st) := by simp [doesR, g]
    rw [hr]
    clear hr
    go_enter Try.func29, Try.ntmps29
    go_wp2_with fail
    refine (rload_no mb st i at_ _ hm1 gn).mono ?_
    rintro e w2 ⟨rfl, rfl⟩
    clear hx
    go_wp2
    go_ret2
    exact ⟨rfl, hk1, mb.c, hm1, ho, .inl rfl⟩

set_option maxHeartbeats 1000000 in
theorem plain_store (mb : MB) (st : MS) (i at_ x y : Int) (w : World) (hm : MachR w mb st) (ho : mb.ord) :
    Calls Try.prog 29 #[.pointer (some ⟨mb.p, 0, none⟩), .agg #[.int .i64 1, .int .i64 i, .int .i64 at_, .int .i64 x, .int .i64 y]] w (PlainEnd w mb (doesR st 1 i at_ x y)) := by
  have hx := boxed5 w 1 i at_ x y
  have hm1 := hm.alloc (.cells #[.int .i64 1, .int .i64 i, .int .i64 at_, .int .i64 x, .int .i64 y] 47)
  have hk1 := (Kept.refl mb.has w).alloc (.cells #[.int .i64 1, .int .i64 i, .int .i64 at_, .int .i64 x, .int .i64 y] 47)
  by_cases g : st.isCaller i = true ∧ st.isGiven at_ = true
  · obtain ⟨g1, g2⟩ := g
    have hr : doesR st 1 i at_ x y = (0, 0, (st.did i).putAt at_ x) := by simp [doesR, g1, g2]
    rw [hr]
    clear hr
    go_enter Try.func29, Try.ntmps29
    go_wp2_with fail
    refine (rstore_ok mb st i at_ x _ hm1 g1 g2).mono ?_
    rintro e w2 ⟨rfl, hm2, hk2⟩
    clear hx
    go_wp2
    go_ret2
    exact ⟨rfl, hk1.trans hk2 (fun _ _ h => h), mb.c, hm2, ho, .inl rfl⟩
  · have gn := not_both g
    have hr : doesR st 1 i at_ x y = (0, 10, st) := by simp [doesR, g]
    rw [hr]
    clear hr
    go_enter Try.func29, Try.ntmps29
    go_wp2_with fail
    refine (rstore_no mb st i at_ x _ hm1 gn).mono ?_
    rintro e w2 ⟨rfl, rfl⟩
    clear hx
    go_wp2
    go_ret2
    exact ⟨rfl, hk1, mb.c, hm1, ho, .inl rfl⟩

set_option maxHeartbeats 1000000 in
theorem plain_cas (mb : MB) (st : MS) (i at_ x y : Int) (w : World) (hm : MachR w mb st) (ho : mb.ord) :
    Calls Try.prog 29 #[.pointer (some ⟨mb.p, 0, none⟩), .agg #[.int .i64 2, .int .i64 i, .int .i64 at_, .int .i64 x, .int .i64 y]] w (PlainEnd w mb (doesR st 2 i at_ x y)) := by
  have hx := boxed5 w 2 i at_ x y
  have hm1 := hm.alloc (.cells #[.int .i64 2, .int .i64 i, .int .i64 at_, .int .i64 x, .int .i64 y] 47)
  have hk1 := (Kept.refl mb.has w).alloc (.cells #[.int .i64 2, .int .i64 i, .int .i64 at_, .int .i64 x, .int .i64 y] 47)
  by_cases g : st.isCaller i = true ∧ st.isGiven at_ = true
  · obtain ⟨g1, g2⟩ := g
    by_cases hy : st.cellOf at_ = y
    · have HY := Lib.hid hy
      have hr : doesR st 2 i at_ x y = (1, 0, (st.did i).putAt at_ x) := by simp [doesR, g1, g2, HY.out]
      clear hy
      rw [hr]
      clear hr
      go_enter Try.func29, Try.ntmps29
      go_wp2_with fail
      refine (rcas_hit mb st i at_ y x _ hm1 g1 g2 HY.out).mono ?_
      rintro e w2 ⟨rfl, hm2, hk2⟩
      clear hx
      go_wp2
      go_ret2
      exact ⟨rfl, hk1.trans hk2 (fun _ _ h => h), mb.c, hm2, ho, .inl rfl⟩
    · have HY := Lib.hid hy
      have hr : doesR st 2 i at_ x y = (0, 0, st.did i) := by simp [doesR, g1, g2, HY.out]
      clear hy
      rw [hr]
      clear hr
      go_enter Try.func29, Try.ntmps29
      go_wp2_with fail
      refine (rcas_miss mb st i at_ y x _ hm1 g1 g2 HY.out).mono ?_
      rintro e w2 ⟨rfl, hm2, hk2⟩
      clear hx
      go_wp2
      go_ret2
      exact ⟨rfl, hk1.trans hk2 (fun _ _ h => h), mb.c, hm2, ho, .inl rfl⟩
  · have gn := not_both g
    have hr : doesR st 2 i at_ x y = (0, 10, st) := by simp [doesR, g]
    rw [hr]
    clear hr
    go_enter Try.func29, Try.ntmps29
    go_wp2_with fail
    refine (rcas_no mb st i at_ y x _ hm1 gn).mono ?_
    rintro e w2 ⟨rfl, rfl⟩
    clear hx
    go_wp2
    go_ret2
    exact ⟨rfl, hk1, mb.c, hm1, ho, .inl rfl⟩

set_option maxHeartbeats 1000000 in
theorem plain_add (mb : MB) (st : MS) (i at_ x y : Int) (w : World) (hm : MachR w mb st) (ho : mb.ord) :
    Calls Try.prog 29 #[.pointer (some ⟨mb.p, 0, none⟩), .agg #[.int .i64 3, .int .i64 i, .int .i64 at_, .int .i64 x, .int .i64 y]] w (PlainEnd w mb (doesR st 3 i at_ x y)) := by
  have hx := boxed5 w 3 i at_ x y
  have hm1 := hm.alloc (.cells #[.int .i64 3, .int .i64 i, .int .i64 at_, .int .i64 x, .int .i64 y] 47)
  have hk1 := (Kept.refl mb.has w).alloc (.cells #[.int .i64 3, .int .i64 i, .int .i64 at_, .int .i64 x, .int .i64 y] 47)
  by_cases g : st.isCaller i = true ∧ st.isGiven at_ = true
  · obtain ⟨g1, g2⟩ := g
    have hr : doesR st 3 i at_ x y = (st.cellOf at_, 0, (st.did i).putAt at_ (wrap64 (st.cellOf at_ + x))) := by simp [doesR, g1, g2]
    rw [hr]
    clear hr
    go_enter Try.func29, Try.ntmps29
    go_wp2_with fail
    refine (radd_ok mb st i at_ x _ hm1 g1 g2).mono ?_
    rintro e w2 ⟨rfl, hm2, hk2⟩
    clear hx
    go_wp2
    go_ret2
    exact ⟨rfl, hk1.trans hk2 (fun _ _ h => h), mb.c, hm2, ho, .inl rfl⟩
  · have gn := not_both g
    have hr : doesR st 3 i at_ x y = (0, 10, st) := by simp [doesR, g]
    rw [hr]
    clear hr
    go_enter Try.func29, Try.ntmps29
    go_wp2_with fail
    refine (radd_no mb st i at_ x _ hm1 gn).mono ?_
    rintro e w2 ⟨rfl, rfl⟩
    clear hx
    go_wp2
    go_ret2
    exact ⟨rfl, hk1, mb.c, hm1, ho, .inl rfl⟩

set_option maxHeartbeats 1000000 in
theorem plain_alloc (mb : MB) (st : MS) (kind i at_ x y : Int) (w : World) (hm : MachR w mb st) (ho : mb.ord) (k0 : ¬ kind = 0) (k1 : ¬ kind = 1) (k2 : ¬ kind = 2) (k3 : ¬ kind = 3) (z0 : 0 ≤ st.size) (z1 : st.size ≤ 1048576) :
    Calls Try.prog 29 #[.pointer (some ⟨mb.p, 0, none⟩), .agg #[.int .i64 kind, .int .i64 i, .int .i64 at_, .int .i64 x, .int .i64 y]] w (PlainEnd w mb (doesR st kind i at_ x y)) := by
  have hx := boxed5 w kind i at_ x y
  have hm1 := hm.alloc (.cells #[.int .i64 kind, .int .i64 i, .int .i64 at_, .int .i64 x, .int .i64 y] 47)
  have hk1 := (Kept.refl mb.has w).alloc (.cells #[.int .i64 kind, .int .i64 i, .int .i64 at_, .int .i64 x, .int .i64 y] 47)
  by_cases g : st.isCaller i = true ∧ 1 ≤ at_
  · obtain ⟨g1, g2⟩ := g
    by_cases g3 : (st.cells.length : Int) + at_ ≤ st.size
    · have G3 := Lib.hid g3
      have hr : doesR st kind i at_ x y = ((st.cells.length : Int), 0, (st.did i).more at_.toNat) := by simp [doesR, k0, k1, k2, k3, g1, g2, G3.out]
      clear g3
      rw [hr]
      clear hr
      go_enter Try.func29, Try.ntmps29
      go_wp2_with fail
      refine (ralloc_okI mb st i at_ _ hm1 ho g1 g2 G3.out z1).mono ?_
      rintro e w2 ⟨rfl, c, hm2, ho2, hk2, hc⟩
      clear hx
      go_wp2
      go_ret2
      exact ⟨rfl, hk1.trans hk2 (fun _ _ h => h), c, hm2, ho2, hc.imp id (fun h => by simp at h; omega)⟩
    · have G3 := Lib.hid g3
      have hr : doesR st kind i at_ x y = (0, 21, st) := by simp [doesR, k0, k1, k2, k3, g1, g2, G3.out]
      clear g3
      rw [hr]
      clear hr
      go_enter Try.func29, Try.ntmps29
      go_wp2_with fail
      refine (ralloc_full mb st i at_ _ hm1 g1 g2 (by have := G3.out; omega) z0 z1).mono ?_
      rintro e w2 ⟨rfl, kq, rfl⟩
      clear hx
      go_wp2
      go_ret2
      exact ⟨rfl, hk1.drewN kq, mb.c, hm1.drewN kq, ho, .inl rfl⟩
  · have gn : st.isCaller i = false ∨ at_ < 1 := by
      cases h : st.isCaller i with
      | false => exact .inl rfl
      | true => exact .inr (by simp [h] at g; omega)
    have GN := Lib.hid gn
    have G := Lib.hid g
    clear gn g
    have hr : doesR st kind i at_ x y = (0, 10, st) := by simp [doesR, k0, k1, k2, k3, G.out]
    rw [hr]
    clear hr
    go_enter Try.func29, Try.ntmps29
    go_wp2_with fail
    refine (ralloc_no mb st i at_ _ hm1 GN.out).mono ?_
    rintro e w2 ⟨rfl, rfl⟩
    clear hx
    go_wp2
    go_ret2
    exact ⟨rfl, hk1, mb.c, hm1, ho, .inl rfl⟩

theorem plain_any (mb : MB) (st : MS) (kind i at_ x y : Int) (w : World) (hm : MachR w mb st) (ho : mb.ord) (z0 : 0 ≤ st.size) (z1 : st.size ≤ 1048576) :
    Calls Try.prog 29 #[.pointer (some ⟨mb.p, 0, none⟩), .agg #[.int .i64 kind, .int .i64 i, .int .i64 at_, .int .i64 x, .int .i64 y]] w (PlainEnd w mb (doesR st kind i at_ x y)) := by
  by_cases k0 : kind = 0
  · subst k0; exact plain_load mb st i at_ x y w hm ho
  · by_cases k1 : kind = 1
    · subst k1; exact plain_store mb st i at_ x y w hm ho
    · by_cases k2 : kind = 2
      · subst k2; exact plain_cas mb st i at_ x y w hm ho
      · by_cases k3 : kind = 3
        · subst k3; exact plain_add mb st i at_ x y w hm ho
        · exact plain_alloc mb st kind i at_ x y w hm ho k0 k1 k2 k3 z0 z1
end Go.Proofs.Ytelphbfdibfmoaa
