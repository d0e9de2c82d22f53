/- DERIVED. A script of steps on a port opened, with the bounds of its processes. No statement is proved here. -/
import Derived.Test.YtnlmkllhmldgiaaRowQ
import Derived.Test.YtnlmkllhmldgiaaWheelKs
namespace Go.Proofs.Ytnlmkllhmldgiaa.Qu
set_option linter.unusedVariables false
set_option linter.unusedSimpArgs false
open Go.RowKit Go.ChangeShapes Go.Proofs.Ytnlmkllhmldgiaa.K Go.Proofs.Ytnlmkllhmldgiaa.Wh
section
variable {H : Type} {enc : TypeId × Value → H} {W : World}
set_option maxRecDepth 100000 in
theorem stepI_open {fuel : Nat} {cs : List Value} {x : DataW H × List MemPlace} (h : DataW.trod enc Try.prog W 0 (fun _ => true) true fuel 41 cs = some x) : ∃ q : Value × St, cs = encS q ∧ IntsAt (fun _ => True) W q.1 q.2.m.words ∧ isInt q.2.p := by
  have ci : Try.prog.cellsOf 3 = 1 := by kernel_rfl
  have cl : Try.prog.cellsOf 22 = 1 := by kernel_rfl
  have cm : Try.prog.cellsOf 27 = 5 := by kernel_rfl
  have cst : Try.prog.cellsOf 41 = 9 := by kernel_rfl
  obtain ⟨ys, n2, _, _, hlen, hyl, hfs⟩ := DataW.trod_struct Try.underlying41 h
  rw [cst] at hlen
  have hyl5 : ys.length = 5 := hyl
  match cs, hlen with
  | [v0, v1, v2, v3, v4, v5, v6, v7, v8], _ =>
    have f0 := hfs 0 _ (fieldAt rfl)
    have f1 := hfs 1 _ (fieldAt rfl)
    have f2 := hfs 2 _ (fieldAt rfl)
    have f3 := hfs 3 _ (fieldAt rfl)
    have f4 := hfs 4 _ (fieldAt rfl)
    rw [List.getElem?_eq_getElem (by omega)] at f0 f1 f2 f3 f4
    simp only [ci, cm, List.drop_zero, List.drop_succ_cons, List.take_succ_cons, List.take_zero, List.take_nil] at f0 f1 f2 f3 f4
    obtain ⟨z0, e0, _⟩ := DataW.trod_int Try.underlying3 f0
    obtain ⟨z1, e1, _, hz1⟩ := DataW.trod_int Try.underlying3 f1
    obtain ⟨z2, e2, _⟩ := DataW.trod_int Try.underlying3 f2
    obtain ⟨z3, e3, _⟩ := DataW.trod_int Try.underlying3 f3
    obtain ⟨ys4, n4, _, _, _, hyl4, hfs4⟩ := DataW.trod_struct Try.underlying27 f4
    have hyl45 : ys4.length = 5 := hyl4
    have g0 := hfs4 0 _ (fieldAt rfl)
    have g1 := hfs4 1 _ (fieldAt rfl)
    have g2 := hfs4 2 _ (fieldAt rfl)
    have g3 := hfs4 3 _ (fieldAt rfl)
    have g4 := hfs4 4 _ (fieldAt rfl)
    rw [List.getElem?_eq_getElem (by omega)] at g0 g1 g2 g3 g4
    simp only [ci, cl, List.drop_zero, List.drop_succ_cons, List.take_succ_cons, List.take_zero, List.take_nil] at g0 g1 g2 g3 g4
    obtain ⟨xs, hx⟩ := ints_cell g0
    obtain ⟨z5, e5, _⟩ := DataW.trod_int Try.underlying3 g1
    obtain ⟨z6, e6, _⟩ := DataW.trod_int Try.underlying3 g2
    obtain ⟨z7, e7, _⟩ := DataW.trod_int Try.underlying3 g3
    obtain ⟨z8, e8, _⟩ := DataW.trod_int Try.underlying3 g4
    simp only [List.cons.injEq, and_true] at e0 e1 e2 e3 e5 e6 e7 e8
    subst e0 e1 e2 e3 e5 e6 e7 e8
    exact ⟨(v4, ⟨z0, z1, z2, z3, ⟨xs, z5, z6, z7, z8⟩⟩), rfl, hx, isInt_of_wf hz1⟩
theorem stepsI_open {ao : Option Addr} {n cap : Nat} {d : DataW H} {ps : List MemPlace} (h : DataW.Trod enc Try.prog W 0 (fun _ => true) true 38 (.slice ao n cap) d ps) : ∃ qs, StepsAt W (.slice ao n cap) qs ∧ ∀ q ∈ qs, isInt q.2.p := by
  obtain ⟨fuel, hf⟩ := h
  have cst : Try.prog.cellsOf 41 = 9 := by kernel_rfl
  rcases Go.Deep.open_slice Try.underlying38 hf with ⟨hcs, _⟩ | ⟨x, l, c, m, n', D, Pl, hcs, _, hl, hm, hmm, _, hall⟩
  · simp [Value.cells] at hcs
    obtain ⟨rfl, rfl, rfl⟩ := hcs
    exact ⟨[], ⟨none, 0, rfl, ⟨by simp, by simp⟩, fun q hq => (by cases hq), .inl rfl⟩, fun q hq => (by cases hq)⟩
  · simp [Value.cells] at hcs
    obtain ⟨rfl, rfl, rfl⟩ := hcs
    simp only [if_true] at hmm
    rw [hmm] at hall; clear hmm
    have key : ∀ i, i < n → ∃ q : Value × St, (∀ j, j < 9 → W.cell? (x.add (i * 9 + j)) = (encS q)[j]?) ∧ IntsAt (fun _ => True) W q.1 q.2.m.words ∧ isInt q.2.p := by
      intro i hi
      obtain ⟨cs', hc, hr⟩ := hall i (by omega)
      rw [cst] at hc
      obtain ⟨_, hlen, hget⟩ := World.cells?_some hc
      obtain ⟨q, rfl, hq⟩ := stepI_open hr
      refine ⟨q, fun j hj => ?_, hq⟩
      have e2 : (x.add (i * 9)).add j = x.add (i * 9 + j) := by
        unfold Addr.add; split <;> split <;> simp_all <;> omega
      rw [← e2]; exact hget j hj
    by_cases hn : n = 0
    · subst hn
      exact ⟨[], ⟨some x, cap, rfl, ⟨by simp, hm⟩, fun q hq => (by cases hq), .inl rfl⟩, fun q hq => (by cases hq)⟩
    · have hinh : Inhabited (Value × St) := ⟨(.slice none 0 0, ⟨0, 0, 0, 0, ⟨[], 0, 0, 0, 0⟩⟩)⟩
      obtain ⟨f, hF⟩ := Go.Deep.choose_lt (fun i hi => key i hi)
      have h0 := (hF 0 (by omega)).1 0 (by omega)
      have h1 := cell_lt (h0.trans rfl)
      simp only [Nat.zero_mul, Nat.add_zero] at h1
      have hs : x.spot = none := by simpa [Addr.add] using h1.2
      refine ⟨(List.range n).map f, ⟨some x, cap, by simp, by simpa using ⟨hl, hm⟩, fun q hq => ?_, .inr ⟨x.block, x.off, by cases x; simp only at hs; subst hs; rfl, by simpa [Addr.add] using h1.1, fun i hi j hj => ?_⟩⟩, fun q hq => ?_⟩
      · obtain ⟨i, hi, rfl⟩ := List.mem_map.1 hq
        exact (hF i (List.mem_range.1 hi)).2.1
      · have hi' : i < n := by simpa using hi
        have := (hF i hi').1 j hj
        rw [add_spot hs] at this
        simpa using this
      · obtain ⟨i, hi, rfl⟩ := List.mem_map.1 hq
        exact (hF i (List.mem_range.1 hi)).2.2
end
end Go.Proofs.Ytnlmkllhmldgiaa.Qu
