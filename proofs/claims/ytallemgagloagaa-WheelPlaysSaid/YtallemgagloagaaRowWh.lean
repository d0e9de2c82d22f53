/- DERIVED. Arguments of the statements on wheels opened: a script of steps, keys. No statement is proved here. -/
import Derived.Test.YtallemgagloagaaRowR
import Derived.Test.YtallemgagloagaaWheelH
namespace Go.Proofs.Ytallemgagloagaa.Wh
set_option linter.unusedVariables false
set_option linter.unusedSimpArgs false
open Go.RowKit Go.ChangeShapes Go.Proofs.Ytallemgagloagaa.K
section
variable {H : Type} {enc : TypeId × Value → H} {W : World}
set_option maxRecDepth 100000 in
theorem wstep_open (fuel : Nat) (cs : List Value) (x : DataW H × List MemPlace) (h : DataW.trod enc Try.prog W 0 (fun _ => true) true fuel 40 cs = some x) : ∃ q : WSt, cs = encS q ∧ goodS W q := by
  have ci : Try.prog.cellsOf 3 = 1 := by kernel_rfl
  have cst : Try.prog.cellsOf 40 = 3 := by kernel_rfl
  obtain ⟨ys, n2, _, _, hlen, hyl, hfs⟩ := DataW.trod_struct Try.underlying40 h
  rw [cst] at hlen
  have hyl5 : ys.length = 3 := hyl
  match cs, hlen with
  | [v0, v1, v2], _ =>
    have g0 := hfs 0 _ (fieldAt rfl)
    have g1 := hfs 1 _ (fieldAt rfl)
    have g2 := hfs 2 _ (fieldAt rfl)
    rw [List.getElem?_eq_getElem (by omega)] at g0 g1 g2
    simp only [ci, List.drop_zero, List.drop_succ_cons, List.take_succ_cons, List.take_zero, List.take_nil] at g0 g1 g2
    obtain ⟨z0, e0, _⟩ := DataW.trod_int Try.underlying3 g0
    obtain ⟨z1, e1, _, h1⟩ := DataW.trod_int Try.underlying3 g1
    obtain ⟨z2, e2, _⟩ := DataW.trod_int Try.underlying3 g2
    simp only [List.cons.injEq, and_true] at e0 e1 e2
    subst e0 e1 e2
    exact ⟨⟨z0, z1, z2⟩, rfl, isInt_of_wf h1⟩
theorem wsteps_open {ao : Option Addr} {n cap : Nat} {d : DataW H} {ps : List MemPlace} (h : DataW.Trod enc Try.prog W 0 (fun _ => true) true 37 (.slice ao n cap) d ps) : ∃ qs, WStepsAt W (.slice ao n cap) qs :=
  recsR_open Try.underlying37 (by kernel_rfl) (by omega) wstep_open (fun _ => rfl) h
/-- A slice of keys. -/
theorem keys_open {ao : Option Addr} {n cap : Nat} {d : DataW H} {ps : List MemPlace} (h : DataW.Trod enc Try.prog W 0 (fun _ => true) true 22 (.slice ao n cap) d ps) : ∃ xs : List Int, IntsAt (fun _ => True) W (.slice ao n cap) xs ∧ ∀ x ∈ xs, isInt x := by
  obtain ⟨fuel, hf⟩ := h
  rcases open_ints Try.underlying22 Try.underlying3 (by kernel_rfl) hf with ⟨hcs, _⟩ | ⟨x, l, c, zs, hcs, _, hl, hm, hz, _, hcell, hwf⟩
  · simp [Value.cells] at hcs
    obtain ⟨rfl, rfl, rfl⟩ := hcs
    exact ⟨[], IntsAt.nil _ _, fun _ h => (by cases h)⟩
  · simp [Value.cells] at hcs
    obtain ⟨rfl, rfl, rfl⟩ := hcs
    simp only [if_true] at hz
    have hle : (zs.take n).length = n := by rw [List.length_take]; omega
    refine ⟨zs.take n, ⟨some x, cap, by rw [hle], ⟨by omega, hm, fun h => by cases h⟩, ?_⟩, fun y hy => isInt_of_wf (hwf y (List.mem_of_mem_take hy))⟩
    by_cases h0 : n = 0
    · exact .inl (by simp [h0])
    · have h1 := cell_lt (hcell 0 (by omega))
      have hs : x.spot = none := by simpa [Addr.add] using h1.2
      refine .inr ⟨x.block, x.off, by cases x; simp only at hs; subst hs; rfl, trivial, by simpa [Addr.add] using h1.1, fun i hi => ?_⟩
      rw [hle] at hi
      have h2 := hcell i (by omega)
      rw [add_spot hs] at h2
      rw [h2]
      simp [List.getD_eq_getElem?_getD, List.getElem?_eq_getElem (show i < zs.length by omega)]
end
end Go.Proofs.Ytallemgagloagaa.Wh
