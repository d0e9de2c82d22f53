/- DERIVED. A script of the statements on the router opened. No statement is proved here. -/
import Derived.Test.YtggfallodkbgcaaRowR
import Derived.Test.YtggfallodkbgcaaRoutL
namespace Go.Proofs.Ytggfallodkbgcaa.Ro
set_option linter.unusedVariables false
set_option linter.unusedSimpArgs false
open Go.RowKit Go.ChangeShapes Go.Proofs.Ytggfallodkbgcaa.K
section
variable {H : Type} {enc : TypeId × Value → H} {W : World}
set_option maxRecDepth 100000 in
theorem rstep_open (fuel : Nat) (cs : List Value) (x : DataW H × List MemPlace) (h : DataW.trod enc Try.prog W 0 (fun _ => true) true fuel 33 cs = some x) : ∃ q : RSt, cs = encR q ∧ True := by
  have ci : Try.prog.cellsOf 3 = 1 := by kernel_rfl
  have cst : Try.prog.cellsOf 33 = 4 := by kernel_rfl
  obtain ⟨ys, n2, _, _, hlen, hyl, hfs⟩ := DataW.trod_struct Try.underlying33 h
  rw [cst] at hlen
  have hyl5 : ys.length = 4 := hyl
  match cs, hlen with
  | [v0, v1, v2, v3], _ =>
    have g0 := hfs 0 _ (fieldAt rfl)
    have g1 := hfs 1 _ (fieldAt rfl)
    have g2 := hfs 2 _ (fieldAt rfl)
    have g3 := hfs 3 _ (fieldAt rfl)
    rw [List.getElem?_eq_getElem (by omega)] at g0 g1 g2 g3
    simp only [ci, List.drop_zero, List.drop_succ_cons, List.take_succ_cons, List.take_zero, List.take_nil] at g0 g1 g2 g3
    obtain ⟨z0, e0, _⟩ := DataW.trod_int Try.underlying3 g0
    obtain ⟨z1, e1, _⟩ := DataW.trod_int Try.underlying3 g1
    obtain ⟨z2, e2, _⟩ := DataW.trod_int Try.underlying3 g2
    obtain ⟨z3, e3, _⟩ := DataW.trod_int Try.underlying3 g3
    simp only [List.cons.injEq, and_true] at e0 e1 e2 e3
    subst e0 e1 e2 e3
    exact ⟨⟨z0, z1, z2, z3⟩, rfl, trivial⟩
theorem rsteps_open {ao : Option Addr} {n cap : Nat} {d : DataW H} {ps : List MemPlace} (h : DataW.Trod enc Try.prog W 0 (fun _ => true) true 24 (.slice ao n cap) d ps) : ∃ qs, RStepsAt W (.slice ao n cap) qs :=
  recsR_open (k := 4) (encR := encR) (good := fun _ _ => True) Try.underlying24 (by kernel_rfl) (by decide) rstep_open (fun _ => rfl) h
end
end Go.Proofs.Ytggfallodkbgcaa.Ro
