/-
  WHAT IS PROVED HERE: appends to a list of one's own ('Ls'), in a walk, in a fenced walk and in a region that draws; contracts of slices.Clone and slices.Reverse, of kin's Kids and Path. Conditions: as in the contracts.
-/
import Derived.Test.YtogobpnbkmdnfaaKinB
import Derived.Maps.OwnIn
namespace Go.Proofs.Ytogobpnbkmdnfaa
open Go.RowKit

/-- An append of m numbers to a list of one's own, run. -/
theorem run_append_ls (w : World) (ty : TypeId) {B : Nat} {A : Option Addr} {cap : Nat} {xs : List Int} (h : Ls w B A cap xs) (hB : B ≤ w.heap.size) (ad : Addr) (m c : Nat) (ys : List Int) (hm : m = ys.length) (h0 : 0 < m)
    (hc : ∀ (j : Nat) (y : Int), ys[j]? = some y → w.cell? (ad.add j) = some (.int .i64 y)) (few : xs.length + m ≤ 1000000) :
    ∃ g' cap' w', (Builtin.append_ #[22, 22] ty #[.slice A xs.length cap, .slice (some ad) m c]).run Try.prog w = .ok (.slice (some ⟨g', 0, none⟩) (xs.length + m) cap') w' ∧
      Ls w' B (some ⟨g', 0, none⟩) cap' (xs ++ ys) ∧ Kept (fun k => A = some ⟨k, 0, none⟩) w w' ∧ (A = some ⟨g', 0, none⟩ ∨ g' = w.heap.size) ∧ g' < w'.heap.size := by
  obtain ⟨i0, hi, hz0, hz1, hz2⟩ := info_int
  subst hm
  have hnews : ∀ (j : Nat) (u : Value), (ints ys)[j]? = some u → w.cell? (ad.add j) = some u := fun j u hu => by
    rw [get_ints] at hu
    obtain ⟨y, hy, rfl⟩ := Option.map_eq_some_iff.1 hu
    exact hc j y hy
  obtain ⟨v', w', hr, h2, h3, h4, h5⟩ := run_append_own_at (P := Try.prog) w 0 22 ty 3 i0 (.int .i64 0) 1 8 Try.underlying22 hi hz0 hz1 hz2 rfl (by omega) (.slice A xs.length cap) xs.length (ints xs) h.own ad ys.length c (ints ys) (by rw [length_ints]; omega) hnews
    (fun u hu => by obtain ⟨y, _, rfl⟩ := List.mem_map.1 hu; rfl) (by unfold maxLen; omega) (by omega) (Nat.zero_le _)
  obtain ⟨g', cap', rfl⟩ := ownsRow_form h2 (by omega)
  obtain ⟨hr2, _⟩ := Rw.ofOwn h2
  have e : ints xs ++ ints ys = ints (xs ++ ys) := by simp [ints]
  have hwhere : A = some ⟨g', 0, none⟩ ∨ g' = w.heap.size := by
    rcases h5 with e5 | e5
    · left
      rcases h with ⟨rfl, _, _⟩ | ⟨g, rfl, _, _⟩
      · simp [Value.ownBlock] at e5
      · simp [Value.ownBlock] at e5; rw [e5]
    · right; simpa [Value.ownBlock] using e5
  refine ⟨g', cap', w', hr, .inr ⟨g', rfl, e ▸ hr2, ?_⟩, (Kept.refl _ w).grown h3 (fun k ek => .inl ?_), hwhere, hr2.lt⟩
  · rcases hwhere with hw | hw
    · rcases h with ⟨rfl, _, _⟩ | ⟨g, rfl, _, hg⟩
      · cases hw
      · obtain rfl : g = g' := by simpa using hw
        exact hg
    · omega
  · rcases h with ⟨rfl, _, _⟩ | ⟨g, rfl, _, hg⟩
    · simp [Value.ownBlock] at ek
    · simp [Value.ownBlock] at ek; rw [ek]
section
variable (w : World) {ops : Array Oper} {rest : List Oper} {o : Oper} {a : Act} {Q : Exit → Act → World → Prop}
theorem wpList_append_ls (hgd : o.guard = none) (s x : Operand) (ho : o.op = .call { callee := .builtin .append, args := #[s, x], argTypes := #[22, 22] })
    {B : Nat} {A : Option Addr} {cap : Nat} (xs : List Int) (h : Ls w B A cap xs) (n : Nat) (hn : n = xs.length) (hs : a.eval s = .slice A n cap) (hB : B ≤ w.heap.size)
    (ad : Addr) (m c : Nat) (ys : List Int) (hx : a.eval x = .slice (some ad) m c) (hm : m = ys.length) (h0 : 0 < m) (hc : ∀ (j : Nat) (y : Int), ys[j]? = some y → w.cell? (ad.add j) = some (.int .i64 y)) (few : n + m ≤ 1000000)
    (hK : ∀ g' cap' w', Ls w' B (some ⟨g', 0, none⟩) cap' (xs ++ ys) → Kept (fun k => A = some ⟨k, 0, none⟩) w w' → (A = some ⟨g', 0, none⟩ ∨ g' = w.heap.size) → g' < w'.heap.size → wpList Try.prog ops Q rest (a.put o.dst (.slice (some ⟨g', 0, none⟩) (n + m) cap')) w') : wpList Try.prog ops Q (o :: rest) a w := by
  subst hn
  refine wpList_plain hgd fun K hK' => ?_
  obtain ⟨g', cap', w', hr, h1, h2, h3, h4⟩ := run_append_ls w o.type h hB ad m c ys hm h0 hc few
  unfold Oper.wp execOp
  simp only [ho, resolve, invoke, builtin, Sem.run_bind, Sem.run_pure, Result.andThen_ok, List.map_toArray, List.map_cons, List.map_nil, hs, hx, hr]
  exact hK' _ _ (hK g' cap' w' h1 h2 h3 h4)
theorem wpListIn_append_ls {F : Fence} {nF : Nat} (hgd : o.guard = none) (s x : Operand) (ho : o.op = .call { callee := .builtin .append, args := #[s, x], argTypes := #[22, 22] })
    {B : Nat} {A : Option Addr} {cap : Nat} (xs : List Int) (h : Ls w B A cap xs) (n : Nat) (hn : n = xs.length) (hs : a.eval s = .slice A n cap) (hB : B ≤ w.heap.size)
    (ad : Addr) (m c : Nat) (ys : List Int) (hx : a.eval x = .slice (some ad) m c) (hm : m = ys.length) (h0 : 0 < m) (hc : ∀ (j : Nat) (y : Int), ys[j]? = some y → w.cell? (ad.add j) = some (.int .i64 y)) (few : n + m ≤ 1000000)
    (hK : ∀ g' cap' w', Ls w' B (some ⟨g', 0, none⟩) cap' (xs ++ ys) → Kept (fun k => A = some ⟨k, 0, none⟩) w w' → (A = some ⟨g', 0, none⟩ ∨ g' = w.heap.size) → g' < w'.heap.size → wpListIn F nF Try.prog ops Q rest (a.put o.dst (.slice (some ⟨g', 0, none⟩) (n + m) cap')) w') : wpListIn F nF Try.prog ops Q (o :: rest) a w := by
  subst hn
  refine wpListIn_plain hgd fun K hK' => ?_
  obtain ⟨g', cap', w', hr, h1, h2, h3, h4⟩ := run_append_ls w o.type h hB ad m c ys hm h0 hc few
  unfold Oper.wpIn
  refine ⟨by simp [Oper.about, ho, resolve, Target.leads, Sem.run_pure], ?_⟩
  rw [Oper.semAt_plain F _ _ (by rw [ho]; intro c hc'; cases hc')]
  simp [execOp, ho, resolve, invoke, builtin, hs, hx, hr, Result.andThen]
  exact hK' _ _ (hK g' cap' w' h1 h2 h3 h4)
end
/-- The cells of a box of one number, as an append reads them. -/
theorem one_cell {w : World} {b : Nat} {x : Int} (h : w.cell? ⟨b, 0, none⟩ = some (.int .i64 x)) : ∀ (j : Nat) (y : Int), [x][j]? = some y → w.cell? ((⟨b, 0, none⟩ : Addr).add j) = some (.int .i64 y) := fun j y hj => by
  have h1 : j = 0 := by have := (List.getElem?_eq_some_iff.1 hj).1; simpa using this
  subst h1
  simp at hj
  subst hj
  simpa [Addr.add] using h
theorem kadd_plain {b off q : Nat} : (⟨b, off, none⟩ : Addr).add q = ⟨b, off + q, none⟩ := by
  unfold Addr.add
  split <;> simp_all
/-- The cells of a list, as an append reads them. -/
theorem ls_cells {w : World} {B g cap : Nat} {xs : List Int} (h : Ls w B (some ⟨g, 0, none⟩) cap xs) : ∀ (j : Nat) (y : Int), xs[j]? = some y → w.cell? ((⟨g, 0, none⟩ : Addr).add j) = some (.int .i64 y) := fun j y hj => by
  obtain ⟨g', e, hc⟩ := h.get hj
  obtain rfl : g = g' := by simpa using e
  rw [kadd_plain, Nat.zero_add]; exact hc

theorem clone_ok (w : World) (A : Option Addr) (cap : Nat) (xs : List Int) (h : Ls w 0 A cap xs) (hne : xs = [] → A = none) (few : xs.length ≤ 1000) :
    Calls Try.prog 36 #[.slice A xs.length cap] w fun e w' => ∃ A' cap', e = .returned (.slice A' xs.length cap') ∧ Ls w' w.heap.size A' cap' xs ∧ Below w.heap.size w w' := by
  by_cases h0 : xs = []
  · subst h0
    obtain rfl := hne rfl
    have hcap : cap = 0 := by
      rcases h with ⟨_, e, _⟩ | ⟨g, e, _⟩
      · exact e
      · cases e
    subst hcap
    simp only [List.length_nil]
    have hE : ∀ W : World, Sem.run Try.prog (binOp .eql 22 (.slice none 0 0) (.slice none 0 0)) W = .ok (.bool true) W := fun _ => by first | rfl | kernel_rfl
    go_enter Try.func36, Try.ntmps36
    go_wp2_with fail
    go_ret
    exact ⟨none, 0, rfl, Ls.nil w _, Below.refl _ w⟩
  · have hl : 0 < xs.length := List.length_pos_iff.2 h0
    rcases h with ⟨_, _, e⟩ | ⟨g, rfl, hr, _⟩
    · exact absurd e h0
    have hr2 := hr.alloc (.cells #[] 3)
    have he : Ls (w.alloc (.cells #[] 3)) w.heap.size (some ⟨w.heap.size, 0, none⟩) 0 [] := .inr ⟨w.heap.size, rfl, Rw.of (Blk.new w 3 []) (Nat.zero_le _), Nat.le_refl _⟩
    have hc : Ls (w.alloc (.cells #[] 3)) 0 (some ⟨g, 0, none⟩) cap xs := .inr ⟨g, rfl, hr2, Nat.zero_le _⟩
    have HE := Lib.hid he
    have HC := Lib.hid (ls_cells hc)
    have HH0 := Lib.hid h0
    clear he hc hr2 hr hne h0
    have hE : ∀ W : World, Sem.run Try.prog (binOp .eql 22 (.slice (some ⟨g, 0, none⟩) xs.length cap) (.slice none 0 0)) W = .ok (.bool false) W := fun _ => by first | rfl | kernel_rfl
    go_enter Try.func36, Try.ntmps36
    go_wp2_with (at_builtin; go_loud (refine wpList_append_ls _ rfl (.tmp 5) (.tmp 6) rfl [] HE.out 0 rfl rfl (by simp) ⟨g, 0, none⟩ xs.length cap xs rfl rfl hl HC.out (by omega) ?_); intro g' cap' w1 h1 hk1 hw1 hl1)
    go_ret
    have hb : Below w.heap.size w w1 := ((Below.refl _ w).alloc (Nat.le_refl _) _).trans (hk1.below (by simp) (fun k e => by simp at e; omega))
    exact ⟨_, cap', rfl, by simpa using h1, hb⟩

section
variable {w : World} {p : Nat} {own : Nat → Prop} {l : List Int}
/-- The kids of any number. -/
def kidI (l : List Int) (x : Int) : List Int := if inK l.length x then nI (kN l x) else []
theorem kkids_ok (hT : KT w p own l) (few : l.length ≤ 1000) (x : Int) :
    Calls Try.prog 25 #[.pointer (some ⟨p, 0, none⟩), .int .i64 x] w fun e w' => ∃ A cap, e = .returned (.slice A (kidI l x).length cap) ∧ Ls w' w.heap.size A cap (kidI l x) ∧ Below w.heap.size w w' := by
  have b1 := kbox1 w 3 x
  have bb : Below w.heap.size w (w.alloc (.cells #[.int .i64 x] 3)) := (Below.refl _ w).alloc (Nat.le_refl _) _
  have hT1 := hT.below bb (Nat.le_refl _)
  cases hs : inK l.length x with
  | false =>
    have hk : kidI l x = [] := by unfold kidI; rw [hs]; rfl
    rw [hk]
    go_enter Try.func25, Try.ntmps25
    go_wp2_with (go_at_call 32; refine (khas1 hT1 b1 hs).mono ?_; rintro e w' ⟨rfl, rfl⟩)
    go_ret
    exact ⟨none, 0, rfl, Ls.nil _ _, bb⟩
  | true =>
    have hk : kidI l x = nI (kN l x) := by unfold kidI; rw [hs]; rfl
    rw [hk]
    obtain ⟨k, rfl, hkl⟩ := inK_get hs
    obtain ⟨g, gc, c0, hcap, hm, hog, hnd⟩ := hT1.open (by omega)
    obtain ⟨A, cap, ck, hls, hn, _⟩ := (hnd k hkl).kids
    have hkl2 := kN_length l k
    have hki : (k : Int) < (l.length : Int) := by omega
    have HC := Lib.hid (clone_ok _ A cap (nI (kN l k)) hls (fun e => hn (by simpa [nI] using e)) (by rw [length_nI]; omega))
    rw [length_nI] at HC ⊢
    clear hnd hls hn hk
    go_enter Try.func25, Try.ntmps25
    go_wp2_with (first | (go_at_call 32; refine (khas1 hT1 b1 hs).mono ?_; rintro e w' ⟨rfl, rfl⟩) | (go_at_call 36; refine HC.out.mono ?_; rintro e w' ⟨A', cap', rfl, hA, hb⟩))
    go_ret
    exact ⟨A', cap', rfl, hA.mono bb.size, bb.trans (hb.mono bb.size)⟩
theorem kkids_nil (x : Int) (w : World) :
    Calls Try.prog 25 #[.pointer none, .int .i64 x] w fun e w' => e = .returned (.slice none 0 0) ∧ Below w.heap.size w w' := by
  have b1 := kbox1 w 3 x
  have bb : Below w.heap.size w (w.alloc (.cells #[.int .i64 x] 3)) := (Below.refl _ w).alloc (Nat.le_refl _) _
  go_enter Try.func25, Try.ntmps25
  go_wp2_with (go_at_call 32; refine (khas_nil [x] _ _ _ b1 (by simp)).mono ?_; rintro e w' ⟨rfl, rfl⟩)
  go_ret
  exact ⟨rfl, bb⟩
end
end Go.Proofs.Ytogobpnbkmdnfaa
