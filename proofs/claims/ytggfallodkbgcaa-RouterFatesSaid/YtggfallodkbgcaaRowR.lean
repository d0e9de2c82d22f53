/- DERIVED. Arguments of the statements opened: slices of structs, whatever the struct; a message's cells. No statement is proved here. -/
import Derived.Test.YtggfallodkbgcaaRowW
import Derived.Test.YtggfallodkbgcaaK4
namespace Go.Proofs.Ytggfallodkbgcaa.K
set_option linter.unusedVariables false
set_option linter.unusedSimpArgs false
open Go.RowKit Go.ChangeShapes
theorem fieldAt {fs : Array Field} {i : Nat} {f : Field} {rest : List Field} (h : fs.toList.drop i = f :: rest) : fs[i]? = some f := by
  have : (fs.toList.drop i)[0]? = some f := by rw [h]; rfl
  rw [List.getElem?_drop] at this
  simpa using this
section
variable {H : Type} {enc : TypeId × Value → H} {W : World}
theorem ints_cell {fuel : Nat} {v : Value} {x : DataW H × List MemPlace} (h : DataW.trod enc Try.prog W 0 (fun _ => true) true fuel 35 [v] = some x) : ∃ xs, IntsAt (fun b => b < W.heap.size) W v xs := by
  have hsh : ∃ ao n cap, v = .slice ao n cap := by
    rcases open_ints Try.underlying35 Try.underlying3 (by kernel_rfl) h with ⟨hcs, _⟩ | ⟨a, l, c, zs, hcs, _⟩
    · exact ⟨_, _, _, by simpa using hcs⟩
    · exact ⟨_, _, _, by simpa using hcs⟩
  obtain ⟨ao, n, cap, rfl⟩ := hsh
  obtain ⟨xs, h⟩ := ints_open (d := x.1) (ps := x.2) Try.underlying35 Try.underlying3 (by kernel_rfl) ⟨fuel, h⟩
  exact ⟨xs, h.mono (fun b _ hb => hb)⟩
theorem recsR_open {α : Type} {encR : α → List Value} {k : Nat} {good : World → α → Prop} {tS tR : TypeId} (ht : Try.prog.underlying tS = some (.slice tR)) (hc : Try.prog.cellsOf tR = k) (hk0 : 0 < k)
    (hone : ∀ (fuel : Nat) (cs : List Value) (x : DataW H × List MemPlace), DataW.trod enc Try.prog W 0 (fun _ => true) true fuel tR cs = some x → ∃ q, cs = encR q ∧ good W q) (hl0 : ∀ q, (encR q).length = k)
    {ao : Option Addr} {n cap : Nat} {d : DataW H} {ps : List MemPlace} (h : DataW.Trod enc Try.prog W 0 (fun _ => true) true tS (.slice ao n cap) d ps) : ∃ qs, RecsAt encR k good W (.slice ao n cap) qs := by
  obtain ⟨fuel, hf⟩ := h
  rcases Go.Deep.open_slice ht hf with ⟨hcs, _⟩ | ⟨x, l, c, m, n', D, Pl, hcs, _, hl, hm, hmm, _, hall⟩
  · simp [Value.cells] at hcs
    obtain ⟨rfl, rfl, rfl⟩ := hcs
    exact ⟨[], none, 0, rfl, ⟨by simp, by simp⟩, fun q hq => (by cases hq), .inl rfl⟩
  · simp [Value.cells] at hcs
    obtain ⟨rfl, rfl, rfl⟩ := hcs
    simp only [if_true] at hmm
    rw [hmm] at hall; clear hmm
    have key : ∀ i, i < n → ∃ q : α, (∀ j, j < k → W.cell? (x.add (i * k + j)) = (encR q)[j]?) ∧ good W q := by
      intro i hi
      obtain ⟨cs', hcc, hr⟩ := hall i (by omega)
      rw [hc] at hcc
      obtain ⟨_, hlen, hget⟩ := World.cells?_some hcc
      obtain ⟨q, rfl, hq⟩ := hone _ _ _ hr
      refine ⟨q, fun j hj => ?_, hq⟩
      have e2 : (x.add (i * k)).add j = x.add (i * k + j) := by
        unfold Addr.add; split <;> split <;> simp_all <;> omega
      rw [← e2]; exact hget j hj
    by_cases hn : n = 0
    · subst hn
      exact ⟨[], some x, cap, rfl, ⟨by simp, hm⟩, fun q hq => (by cases hq), .inl rfl⟩
    · have hinh : Inhabited α := ⟨(key 0 (by omega)).choose⟩
      obtain ⟨f, hF⟩ := Go.Deep.choose_lt (fun i hi => key i hi)
      have h0 := (hF 0 (by omega)).1 0 hk0
      have h1 := cell_lt (h0.trans (List.getElem?_eq_getElem (by rw [hl0]; exact hk0)))
      simp only [Nat.zero_mul, Nat.add_zero] at h1
      have hs : x.spot = none := by simpa [Addr.add] using h1.2
      refine ⟨(List.range n).map f, some x, cap, by simp, by simpa using ⟨hl, hm⟩, fun q hq => ?_, .inr ⟨x.block, x.off, by cases x; simp only at hs; subst hs; rfl, by simpa [Addr.add] using h1.1, fun i hi j hj => ?_⟩⟩
      · obtain ⟨i, hi, rfl⟩ := List.mem_map.1 hq
        exact (hF i (List.mem_range.1 hi)).2
      · have hi' : i < n := by simpa using hi
        have := (hF i hi').1 j hj
        rw [add_spot hs] at this
        simpa using this
end
end Go.Proofs.Ytggfallodkbgcaa.K
