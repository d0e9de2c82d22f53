/- DERIVED. Helper words: a row that is copied into memory of its own; messages in memory. No statement is proved here. -/
import Derived.Test.YtnlmkllhmldgiaaK0
import Derived.Deep.AppendSrc
import Derived.Deep.Upon
namespace Go.Proofs.Ytnlmkllhmldgiaa.K
set_option linter.unusedVariables false
set_option linter.unusedSimpArgs false
open Go.RowKit

/-- 'append(s[:0:0], x...)': nothing, or a row of its own. -/
theorem run_clone {P : Program} {w : World} {t tx ty e : TypeId} {size bytes : Nat} (hE : ElemOk P t e size bytes) (ao : Option Addr) {x : Value} {n : Nat} {news : List Value} (hs : Src P size tx x n news w) (hn : n ≤ maxLen) (hb : n * bytes ≤ 140737488355328) :
    ∃ v' w', (Builtin.append_ #[t, tx] ty #[.slice ao 0 0, x]).run P w = .ok v' w' ∧ Below w.heap.size w w' ∧ (n = 0 → v' = .slice ao 0 0 ∧ w' = w) ∧ (0 < n → w'.ownsRow w.heap.size e size v' n news) := by
  obtain ⟨i, z, hi, hz0, hz1, hz2, hz3⟩ := hE.i
  subst hz1
  by_cases h0 : n = 0
  · subst h0
    have hnil : news = [] := by have := hs.newsLen; simpa using this
    subst hnil
    exact ⟨_, _, run_append_nothing w t tx ty e i hE.u hi ao 0 0 (Nat.le_refl _) x hs, Below.refl _ _, fun _ => ⟨rfl, rfl⟩, fun h => by omega⟩
  · have hr := run_append_grow_src w t tx ty e i z hE.u hi hz0 ao 0 0 [] (by cases ao with | none => simp [Builtin.firstCells] | some a => exact run_firstCells_some w.drew i.size 0 a 0 0 [] (by simp) (by intro j u hu; simp at hu)) x n news hs (by omega) (by unfold maxLen at hn; omega) (growslice_fits (by omega) (by rw [hz2, Nat.zero_add]; exact hb))
    simp only [Nat.zero_add, List.nil_append] at hr
    refine ⟨_, _, hr, (Below.refl _ _).drew.alloc (Nat.le_refl _) _, fun h => absurd h h0, fun _ => ?_⟩
    have hg := grownCap_ge w n 0 e
    have hm := grownCap_le_maxLen w n 0 e hn
    generalize grownCap w n 0 e = cap at hg hm hr
    refine ⟨hs.newsLen, .inr ⟨w.heap.size, cap, _, rfl, Nat.le_refl _, heap_alloc_new w.drew _, hg, hm, ?_, ?_⟩⟩
    · have hl := hs.newsLen
      simp only [Array.size_append, List.size_toArray, hl]
      rw [size_zeroCells, hz3, ← Nat.add_mul]; congr 1; omega
    · have hl := hs.newsLen
      simp only [Array.toList_append, List.toList_toArray]
      rw [← hl, List.take_left']; rfl

/-- The ints of a slice as a source. -/
theorem IntsAt.src {P : Program} {tx e' : TypeId} (hk : P.underlying tx = some (.slice e')) {ok : Nat → Prop} {w : World} {ao : Option Addr} {n cap : Nat} {xs : List Int} (h : IntsAt ok w (.slice ao n cap) xs) : Src P 1 tx (.slice ao n cap) n (xs.map (Value.int .i64)) w := by
  obtain ⟨ao', cap', hv, ⟨h1, h2, h3⟩, hx⟩ := h
  simp only [Value.slice.injEq] at hv
  obtain ⟨rfl, rfl, rfl⟩ := hv
  have some_case : ∀ a, ao = some a → (∀ j u, (xs.map (Value.int .i64))[j]? = some u → w.cell? (a.add j) = some u) → Src P 1 tx (.slice ao xs.length cap) xs.length (xs.map (Value.int .i64)) w := by
    rintro a rfl hn
    exact Src.ofSlice w hk a _ _ _ (by simp) hn (by simp [Value.oneCell'])
  rcases hx with rfl | ⟨g, o, rfl, h4, h5, h6⟩
  · cases ao with
    | none => exact Src.ofNil w hk cap
    | some a => exact some_case a rfl (fun j u hu => by simp at hu)
  · refine some_case _ rfl (fun j u hu => ?_)
    have e1 : (⟨g, o, none⟩ : Addr).add j = ⟨g, o + j, none⟩ := by unfold Addr.add; split <;> simp_all
    rw [List.getElem?_map] at hu
    cases hj : xs[j]? with
    | none => rw [hj] at hu; cases hu
    | some y =>
      rw [hj] at hu
      obtain ⟨hj1, rfl⟩ := List.getElem?_eq_some_iff.1 hj
      simp at hu; subst hu
      rw [e1, h6 j hj1]
/-- A copy of ints in memory of its own (or nothing). -/
theorem run_cloneInts {P : Program} {w : World} {t ty e : TypeId} (hE : ElemOk P t e 1 8) {ok : Nat → Prop} (bo : Option Addr) {ao : Option Addr} {n cap : Nat} {xs : List Int} (h : IntsAt ok w (.slice ao n cap) xs) (hn : n ≤ 17592186044416) :
    ∃ v' w', (Builtin.append_ #[t, t] ty #[.slice bo 0 0, .slice ao n cap]).run P w = .ok v' w' ∧ Below w.heap.size w w' ∧ IntsAt (fun b => w.heap.size ≤ b) w' v' xs := by
  have hl : n = xs.length := h.get.1
  obtain ⟨v', w', hr, hb, h0, h1⟩ := run_clone (ty := ty) hE bo (h.src hE.u) (by unfold maxLen; omega) (by omega)
  refine ⟨v', w', hr, hb, ?_⟩
  by_cases hz : n = 0
  · obtain ⟨rfl, rfl⟩ := h0 hz
    have : xs = [] := List.eq_nil_of_length_eq_zero (by omega)
    subst this
    exact ⟨bo, 0, rfl, ⟨by simp, by simp, fun _ => rfl⟩, .inl rfl⟩
  · exact IntsAt.of_own (h1 (by omega))
end Go.Proofs.Ytnlmkllhmldgiaa.K
