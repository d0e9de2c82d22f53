/- DERIVED. A channel opened. No statement is proved here. -/
import Derived.Test.YtggfallodkbgcaaRowR
import Derived.Test.YtggfallodkbgcaaCfgP
namespace Go.Proofs.Ytggfallodkbgcaa.Cf
set_option linter.unusedVariables false
set_option linter.unusedSimpArgs false
open Go.RowKit Go.ChangeShapes Go.Proofs.Ytggfallodkbgcaa.K
section
variable {H : Type} {enc : TypeId × Value → H} {W : World}
set_option maxRecDepth 100000 in
theorem chan_open (fuel : Nat) (cs : List Value) (x : DataW H × List MemPlace) (h : DataW.trod enc Try.prog W 0 (fun _ => true) true fuel 23 cs = some x) : ∃ k : Chan, cs = encC k := by
  have ci : Try.prog.cellsOf 3 = 1 := by kernel_rfl
  have cst : Try.prog.cellsOf 23 = 11 := by kernel_rfl
  obtain ⟨ys, n2, _, _, hlen, hyl, hfs⟩ := DataW.trod_struct Try.underlying23 h
  rw [cst] at hlen
  have hyl5 : ys.length = 11 := hyl
  match cs, hlen with
  | [v0, v1, v2, v3, v4, v5, v6, v7, v8, v9, v10], _ =>
    have g0 := hfs 0 _ (fieldAt rfl)
    have g1 := hfs 1 _ (fieldAt rfl)
    have g2 := hfs 2 _ (fieldAt rfl)
    have g3 := hfs 3 _ (fieldAt rfl)
    have g4 := hfs 4 _ (fieldAt rfl)
    have g5 := hfs 5 _ (fieldAt rfl)
    have g6 := hfs 6 _ (fieldAt rfl)
    have g7 := hfs 7 _ (fieldAt rfl)
    have g8 := hfs 8 _ (fieldAt rfl)
    have g9 := hfs 9 _ (fieldAt rfl)
    have g10 := hfs 10 _ (fieldAt rfl)
    rw [List.getElem?_eq_getElem (by omega)] at g0 g1 g2 g3 g4 g5 g6 g7 g8 g9 g10
    simp only [ci, List.drop_zero, List.drop_succ_cons, List.take_succ_cons, List.take_zero, List.take_nil] at g0 g1 g2 g3 g4 g5 g6 g7 g8 g9 g10
    obtain ⟨z0, e0, _⟩ := DataW.trod_int Try.underlying3 g0
    obtain ⟨z1, e1, _⟩ := DataW.trod_int Try.underlying3 g1
    obtain ⟨z2, e2, _⟩ := DataW.trod_int Try.underlying3 g2
    obtain ⟨z3, e3, _⟩ := DataW.trod_int Try.underlying3 g3
    obtain ⟨z4, e4, _⟩ := DataW.trod_int Try.underlying3 g4
    obtain ⟨z5, e5, _⟩ := DataW.trod_int Try.underlying3 g5
    obtain ⟨z6, e6, _⟩ := DataW.trod_int Try.underlying3 g6
    obtain ⟨z7, e7, _⟩ := DataW.trod_int Try.underlying3 g7
    obtain ⟨z8, e8, _⟩ := DataW.trod_int Try.underlying3 g8
    obtain ⟨z9, e9, _⟩ := DataW.trod_int Try.underlying3 g9
    obtain ⟨z10, e10, _⟩ := DataW.trod_int Try.underlying3 g10
    simp only [List.cons.injEq, and_true] at e0 e1 e2 e3 e4 e5 e6 e7 e8 e9 e10
    subst e0 e1 e2 e3 e4 e5 e6 e7 e8 e9 e10
    exact ⟨⟨z0, z1, z2, z3, z4, z5, z6, z7, z8, z9, z10⟩, rfl⟩
theorem chanArg_open {cs : Array Value} {d : DataW H} {ps : List MemPlace} (h : DataW.Trod enc Try.prog W 0 (fun _ => true) true 23 (.agg cs) d ps) : ∃ k : Chan, cs = #[.int .i64 k.kind, .int .i64 k.frm, .int .i64 k.to, .int .i64 k.words, .int .i64 k.refresh, .int .i64 k.lanes, .int .i64 k.depth, .int .i64 k.hold, .int .i64 k.life, .int .i64 k.rate, .int .i64 k.cap] := by
  obtain ⟨fuel, hf⟩ := h
  obtain ⟨k, e⟩ := chan_open fuel _ (d, ps) hf
  have e2 : cs.toList = encC k := e
  exact ⟨k, Array.toList_inj.1 e2⟩
end
end Go.Proofs.Ytggfallodkbgcaa.Cf
