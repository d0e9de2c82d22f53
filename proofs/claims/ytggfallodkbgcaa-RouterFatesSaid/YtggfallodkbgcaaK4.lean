/- DERIVED. Helper words: a slice of structs (a script of steps) that reads as a list, whatever the struct. No statement is proved here. -/
import Derived.Test.YtggfallodkbgcaaK3
namespace Go.Proofs.Ytggfallodkbgcaa.K
set_option linter.unusedVariables false
set_option linter.unusedSimpArgs false
open Go.RowKit
section
variable {α : Type} {enc : α → List Value} {k : Nat} {good : World → α → Prop} {w w' : World} {v : Value} {qs : List α}
def RecsAt (enc : α → List Value) (k : Nat) (good : World → α → Prop) (w : World) (v : Value) (qs : List α) : Prop :=
  ∃ ao cap, v = .slice ao qs.length cap ∧ (qs.length ≤ cap ∧ cap ≤ maxLen) ∧ (∀ q ∈ qs, good w q) ∧ (qs = [] ∨ ∃ g o, ao = some ⟨g, o, none⟩ ∧ g < w.heap.size ∧ ∀ i (h : i < qs.length) j, j < k → w.cell? ⟨g, o + (i * k + j), none⟩ = (enc qs[i])[j]?)
theorem RecsAt.shape (h : RecsAt enc k good w v qs) : ∃ ao cap, v = .slice ao qs.length cap := let ⟨ao, cap, hv, _⟩ := h; ⟨ao, cap, hv⟩
theorem RecsAt.below (hg : ∀ w w' q, good w q → Below w.heap.size w w' → good w' q) (h : RecsAt enc k good w v qs) (hb : Below w.heap.size w w') : RecsAt enc k good w' v qs := by
  obtain ⟨ao, cap, hv, hl, hw, hx⟩ := h
  refine ⟨ao, cap, hv, hl, fun q hq => hg _ _ _ (hw q hq) hb, ?_⟩
  rcases hx with hx | ⟨g, o, h1, h2, h3⟩
  · exact .inl hx
  · exact .inr ⟨g, o, h1, Nat.lt_of_lt_of_le h2 hb.size, fun i hi j hj => (hb.cell (p := ⟨g, o + (i * k + j), none⟩) h2).trans (h3 i hi j hj)⟩
theorem RecsAt.take (h : RecsAt enc k good w v qs) (n : Nat) : ∃ ao cap, v = .slice ao qs.length cap ∧ RecsAt enc k good w (.slice ao (qs.take n).length cap) (qs.take n) := by
  obtain ⟨ao, cap, hv, hl, hw, hx⟩ := h
  refine ⟨ao, cap, hv, ao, cap, rfl, ⟨by simp; omega, hl.2⟩, fun q hq => hw q (List.mem_of_mem_take hq), ?_⟩
  rcases hx with rfl | ⟨g, o, h1, h2, h3⟩
  · exact .inl (by simp)
  · exact .inr ⟨g, o, h1, h2, fun i hi j hj => by have := h3 i (by simp at hi; omega) j hj; simpa using this⟩
theorem RecsAt.get {ao : Option Addr} {n cap : Nat} (h : RecsAt enc k good w (.slice ao n cap) qs) : n = qs.length ∧ n ≤ cap ∧ cap ≤ 9223372036854775807 ∧ ∀ i (hi : i < qs.length), ∃ g o, ao = some ⟨g, o, none⟩ ∧ g < w.heap.size ∧ good w qs[i] ∧ ∀ j, j < k → w.cell? ⟨g, o + i * k + j, none⟩ = (enc qs[i])[j]? := by
  obtain ⟨ao', cap', hv, ⟨h1, h2⟩, hw, hx⟩ := h
  simp only [Value.slice.injEq] at hv
  obtain ⟨rfl, rfl, rfl⟩ := hv
  refine ⟨rfl, h1, by simpa [maxLen] using h2, fun i hi => ?_⟩
  rcases hx with rfl | ⟨g, o, h3, h5, h6⟩
  · simp at hi
  · exact ⟨g, o, h3, h5, hw _ (List.getElem_mem hi), fun j hj => by rw [Nat.add_assoc]; exact h6 i hi j hj⟩
end
/-- A message of at most 8 words. -/
def cut8 (m : Msg) : Msg := { m with words := m.words.take 8 }
theorem IntsAt.cut {ok : Nat → Prop} {w : World} {ao : Option Addr} {cap : Nat} {xs : List Int} (h : IntsAt ok w (.slice ao xs.length cap) xs) (k : Nat) : IntsAt ok w (.slice ao (xs.take k).length cap) (xs.take k) := by
  obtain ⟨ao', cap', hv, ⟨h1, h2, h3⟩, hx⟩ := h
  simp only [Value.slice.injEq] at hv
  obtain ⟨rfl, -, rfl⟩ := hv
  refine ⟨ao, cap, rfl, ⟨by simp; omega, h2, h3⟩, ?_⟩
  rcases hx with rfl | ⟨g, o, e, h4, h5, h6⟩
  · exact .inl (by simp)
  · exact .inr ⟨g, o, e, h4, h5, fun i hi => by rw [h6 i (by simp at hi; omega)]; simp⟩
theorem cut8_len (m : Msg) : (cut8 m).words.length ≤ 8 := by unfold cut8; simp; omega
end Go.Proofs.Ytggfallodkbgcaa.K
