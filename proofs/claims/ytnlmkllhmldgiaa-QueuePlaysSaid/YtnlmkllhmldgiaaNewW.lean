/- DERIVED. Sets of blocks behind a call: what may be written, what words lie in. No statement is proved here. -/
import Derived.Test.YtnlmkllhmldgiaaK3
namespace Go.Proofs.Ytnlmkllhmldgiaa.K
set_option linter.unusedVariables false
set_option linter.unusedSimpArgs false
open Go.RowKit
/-- W behind a call that lays words of its own, apart from what may be written, M'. -/
def newW (W M' : Nat → Prop) (w w' : World) : Nat → Prop := fun b => W b ∨ (w.heap.size ≤ b ∧ b < w'.heap.size ∧ ¬ M' b)
theorem IntsAt.and {ok1 ok2 : Nat → Prop} {w : World} {v : Value} {xs : List Int} (h1 : IntsAt ok1 w v xs) (h2 : IntsAt ok2 w v xs) : IntsAt (fun b => ok1 b ∧ ok2 b) w v xs := by
  obtain ⟨ao, cap, rfl, hl, hx⟩ := h1
  obtain ⟨ao2, cap2, e, hl2, hx2⟩ := h2
  simp only [Value.slice.injEq] at e
  obtain ⟨rfl, -, rfl⟩ := e
  refine ⟨ao, cap, rfl, hl, ?_⟩
  rcases hx with hx | ⟨g, o, h3, h4, h5, h6⟩
  · exact .inl hx
  · rcases hx2 with hx2 | ⟨g2, o2, k3, k4, k5, k6⟩
    · exact .inl hx2
    · rw [h3] at k3
      simp only [Option.some.injEq, Addr.mk.injEq] at k3
      exact .inr ⟨g, o, h3, ⟨h4, k3.1 ▸ k4⟩, h5, h6⟩
theorem Wd.turn {base : Nat} {w0 w w' : World} {M M' : Nat → Prop} (h : Wd base w0 w M) (hc : Chg M w w') (hM : ∀ b, M' b → M b ∨ w.heap.size ≤ b) (hl : ∀ b, M' b → b < w'.heap.size) : Wd base w0 w' M' :=
  ⟨(h.chg hc).below, fun b hb => by rcases hM b hb with hx | hx; exact h.ge b hx; exact Nat.le_trans h.le hx, hl, Nat.le_trans h.le hc.size⟩
end Go.Proofs.Ytnlmkllhmldgiaa.K
