/-
  WHAT IS PROVED HERE: plain laws of memory: 'MachC': a block is a machine of cells, whose steps' array may have room beyond its numbers. No program in sight. Conditions: none.
-/
import Derived.Test.YtelphbfdibfmoaaMach
namespace Go.Proofs.Ytelphbfdibfmoaa
open Go.RowKit

/-- tM: the struct's type; tX: int64's; tI: int's. -/
structure MachC (tM tX tI : TypeId) (w : World) (mb : MB) (st : MS) : Prop where
  ps : mb.p ≠ mb.s
  steps : ∃ srest, Blk w mb.s tI (ints st.steps ++ srest)
  cells : (∃ n sc, st.cells = [] ∧ Blk w mb.p tM [.slice none 0 0, .int .i64 st.size, .slice (some ⟨mb.s, 0, none⟩) n sc] ∧ n = st.steps.length ∧ mb.c = mb.p) ∨
    ∃ cap rest n sc, mb.p ≠ mb.c ∧ mb.s ≠ mb.c ∧ Blk w mb.p tM [.slice (some ⟨mb.c, 0, none⟩) st.cells.length cap, .int .i64 st.size, .slice (some ⟨mb.s, 0, none⟩) n sc] ∧ Blk w mb.c tX (ints st.cells ++ rest) ∧
      st.cells.length + rest.length = cap ∧ cap ≤ maxLen ∧ n = st.steps.length

section
variable {tM tX tI : TypeId} {w w' : World} {mb : MB} {st : MS}
theorem MachC.kept {S : Nat → Prop} (h : MachC tM tX tI w mb st) (hk : Kept S w w') (hn : ∀ k, mb.has k → ¬ S k) : MachC tM tX tI w' mb st := by
  obtain ⟨sr, hsr⟩ := h.steps
  refine ⟨h.ps, ⟨sr, hsr.kept hk (hn _ (.inr (.inr rfl)))⟩, ?_⟩
  rcases h.cells with ⟨n, sc, h0, hp, hn', hc⟩ | ⟨cap, cur, n, sc, h1, h2, hp, hc, r⟩
  · exact .inl ⟨n, sc, h0, hp.kept hk (hn _ (.inl rfl)), hn', hc⟩
  · exact .inr ⟨cap, cur, n, sc, h1, h2, hp.kept hk (hn _ (.inl rfl)), hc.kept hk (hn _ (.inr (.inl rfl))), r⟩
theorem MachC.lt (h : MachC tM tX tI w mb st) : ∀ k, mb.has k → k < w.heap.size := by
  rintro k (rfl | rfl | rfl)
  · rcases h.cells with ⟨n, sc, h0, hp, hn', hc⟩ | ⟨cap, cur, n, sc, h1, h2, hp, hc, r⟩
    · exact hp.lt
    · exact hp.lt
  · rcases h.cells with ⟨n, sc, h0, hp, hn', hc⟩ | ⟨cap, cur, n, sc, h1, h2, hp, hc, r⟩
    · rw [hc]; exact hp.lt
    · exact hc.lt
  · obtain ⟨sr, hsr⟩ := h.steps
    exact hsr.lt
theorem MachC.drew (h : MachC tM tX tI w mb st) : MachC tM tX tI w.drew mb st := h.kept (Kept.refl (fun _ => False) w).drew (fun _ _ f => f)
theorem MachC.drewN (h : MachC tM tX tI w mb st) (n : Nat) : MachC tM tX tI (w.drewN n) mb st := h.kept ((Kept.refl (fun _ => False) w).drewN n) (fun _ _ f => f)
theorem MachC.alloc (h : MachC tM tX tI w mb st) (o : Obj) : MachC tM tX tI (w.alloc o) mb st := h.kept ((Kept.refl (fun _ => False) w).alloc o) (fun _ _ f => f)
theorem MachC.setOther (h : MachC tM tX tI w mb st) {p : Addr} (hp : ¬ mb.has p.block) (u : Value) : MachC tM tX tI (w.setCell p u) mb st :=
  h.kept ((Kept.refl (fun k => k = p.block) w).setCell (.inl rfl) u) (fun _ hk e => hp (e ▸ hk))

/-- A step of caller i. -/
theorem MachC.step (h : MachC tM tX tI w mb st) (i : Nat) (hi : i < st.steps.length) (x : Int) : MachC tM tX tI (w.setCell ⟨mb.s, i, none⟩ (.int .i64 x)) mb { st with steps := st.steps.set i x } := by
  obtain ⟨sr, hsr⟩ := h.steps
  refine ⟨h.ps, ⟨sr, ?_⟩, ?_⟩
  · have := hsr.set i (.int .i64 x)
    rwa [List.set_append_left _ _ (by rw [length_ints]; exact hi), set_ints] at this
  · rcases h.cells with ⟨n, sc, h0, hp, hn', hc⟩ | ⟨cap, rest, n, sc, cp, cs, hp, hc, h1, h2, h5⟩
    · exact .inl ⟨n, sc, h0, hp.setOther h.ps _, by simpa using hn', hc⟩
    · exact .inr ⟨cap, rest, n, sc, cp, cs, hp.setOther h.ps _, hc.setOther (Ne.symm cs) _, h1, h2, by simpa using h5⟩
/-- A number is put into cell i. -/
theorem MachC.put (h : MachC tM tX tI w mb st) (i : Nat) (hi : i < st.cells.length) (x : Int) : MachC tM tX tI (w.setCell ⟨mb.c, i, none⟩ (.int .i64 x)) mb { st with cells := st.cells.set i x } := by
  rcases h.cells with ⟨n, sc, h0, hp, hn', hc⟩ | ⟨cap, rest, n, sc, cp, cs, hp, hc, h1, h2, h5⟩
  · rw [h0] at hi; simp at hi
  · obtain ⟨sr, hsr⟩ := h.steps
    refine ⟨h.ps, ⟨sr, hsr.setOther cs _⟩, .inr ⟨cap, rest, n, sc, cp, cs, ?_, ?_, by simpa using h1, h2, h5⟩⟩
    · have := hp.setOther (p := ⟨mb.c, i, none⟩) cp (.int .i64 x)
      simpa using this
    · have := hc.set i (.int .i64 x)
      rwa [List.set_append_left _ _ (by rw [length_ints]; exact hi), set_ints] at this
end
end Go.Proofs.Ytelphbfdibfmoaa
