/- DERIVED. A script of steps opened. -/
import Derived.Test.YtfnhjendplgidaaRowW
import Derived.Test.YtfnhjendplgidaaModeH
namespace Go.Proofs.Ytfnhjendplgidaa.Lw
open Go.RowKit Go.Proofs.Ytfnhjendplgidaa.K
theorem recs2 {P : Program} {e i : TypeId} {f0 f1 : Field} (hu : P.underlying i = some (.int .i64)) (hc : P.cellsOf i = 1) (h0 : f0.type = i ∧ f0.offset = 0) (h1 : f1.type = i ∧ f1.offset = 1) :
    ∀ (j : Nat) (f : Field), #[f0, f1][j]? = some f → P.underlying f.type = some (.int .i64) ∧ f.offset = j ∧ P.cellsOf f.type = 1 := by
  intro j f h
  match j, h with
  | 0, h => simp at h; subst h; rw [h0.1]; exact ⟨hu, h0.2, hc⟩
  | 1, h => simp at h; subst h; rw [h1.1]; exact ⟨hu, h1.2, hc⟩
  | j + 2, h => simp at h
theorem steps_open {H : Type} {enc : TypeId × Value → H} {W : World} {ao : Option Addr} {n cap : Nat} {d : DataW H} {ps : List MemPlace} (h : DataW.Trod enc Try.prog W 0 (fun _ => true) true 34 (.slice ao n cap) d ps) : ∃ xs, StepsAt W (.slice ao n cap) xs := by
  obtain ⟨Z, h1, h2, h3⟩ := recs_open Try.underlying34 Try.underlying41 (by kernel_rfl) (recs2 (i := 3) (e := 41) Try.underlying3 (by kernel_rfl) ⟨rfl, rfl⟩ ⟨rfl, rfl⟩) (by decide) h
  refine ⟨(List.range n).map (fun i => ⟨Z i 0, Z i 1⟩), ao, cap, by simp, by simpa using ⟨h1, h2⟩, ?_⟩
  rcases h3 with rfl | ⟨g, o, h4, h5, h6⟩
  · exact .inl (by simp)
  · refine .inr ⟨g, o, h4, h5, fun i hi => ?_⟩
    have hi' : i < n := by simpa using hi
    have e0 := h6 i hi' 0 (by decide)
    have e1 := h6 i hi' 1 (by decide)
    simp only [List.getElem_map, List.getElem_range]
    exact ⟨e0, e1⟩
end Go.Proofs.Ytfnhjendplgidaa.Lw
