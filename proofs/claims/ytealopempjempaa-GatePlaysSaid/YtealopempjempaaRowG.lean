/- DERIVED. A script of steps on gates opened. No statement is proved here. -/
import Derived.Test.YtealopempjempaaRowR
import Derived.Test.YtealopempjempaaGateS
namespace Go.Proofs.Ytealopempjempaa.Gt
set_option linter.unusedVariables false
set_option linter.unusedSimpArgs false
open Go.RowKit Go.ChangeShapes Go.Proofs.Ytealopempjempaa.K Go.Proofs.Ytealopempjempaa.La
section
variable {H : Type} {enc : TypeId × Value → H} {W : World}
set_option maxRecDepth 100000 in
theorem gstep_open (fuel : Nat) (cs : List Value) (x : DataW H × List MemPlace) (h : DataW.trod enc Try.prog W 0 (fun _ => true) true fuel 26 cs = some x) : ∃ q : Value × GSt, cs = encG q ∧ goodG W q := by
  have ci : Try.prog.cellsOf 3 = 1 := by kernel_rfl
  have cl : Try.prog.cellsOf 24 = 1 := by kernel_rfl
  have cst : Try.prog.cellsOf 26 = 6 := by kernel_rfl
  obtain ⟨ys, n2, _, _, hlen, hyl, hfs⟩ := DataW.trod_struct Try.underlying26 h
  rw [cst] at hlen
  have hyl5 : ys.length = 6 := hyl
  match cs, hlen with
  | [v0, v1, v2, v3, v4, v5], _ =>
    have g0 := hfs 0 _ (fieldAt rfl)
    have g1 := hfs 1 _ (fieldAt rfl)
    have g2 := hfs 2 _ (fieldAt rfl)
    have g3 := hfs 3 _ (fieldAt rfl)
    have g4 := hfs 4 _ (fieldAt rfl)
    have g5 := hfs 5 _ (fieldAt rfl)
    rw [List.getElem?_eq_getElem (by omega)] at g0 g1 g2 g3 g4 g5
    simp only [ci, cl, List.drop_zero, List.drop_succ_cons, List.take_succ_cons, List.take_zero, List.take_nil] at g0 g1 g2 g3 g4 g5
    obtain ⟨z0, e0, _⟩ := DataW.trod_int Try.underlying3 g0
    obtain ⟨z1, e1, _⟩ := DataW.trod_int Try.underlying3 g1
    obtain ⟨z2, e2, _⟩ := DataW.trod_int Try.underlying3 g2
    obtain ⟨z3, e3, _⟩ := DataW.trod_int Try.underlying3 g3
    obtain ⟨z4, e4, _⟩ := DataW.trod_int Try.underlying3 g4
    obtain ⟨xs, hx⟩ := ints_cell g5
    simp only [List.cons.injEq, and_true] at e0 e1 e2 e3 e4
    subst e0 e1 e2 e3 e4
    exact ⟨(v5, ⟨z0, z1, z2, z3, z4, xs⟩), rfl, hx⟩
theorem gsteps_open {ao : Option Addr} {n cap : Nat} {d : DataW H} {ps : List MemPlace} (h : DataW.Trod enc Try.prog W 0 (fun _ => true) true 45 (.slice ao n cap) d ps) : ∃ qs, GStepsAt W (.slice ao n cap) qs :=
  recsR_open Try.underlying45 (by kernel_rfl) (by omega) gstep_open (fun _ => rfl) h
theorem gstepArg_open {cs : Array Value} {d : DataW H} {ps : List MemPlace} (h : DataW.Trod enc Try.prog W 0 (fun _ => true) true 26 (.agg cs) d ps) : ∃ (a : Option Addr) (c : Nat) (q : GSt), cs = #[.int .i64 q.k, .int .i64 q.mode, .int .i64 q.lane, .int .i64 q.n, .int .i64 q.round, .slice a q.ws.length c] ∧ IntsAt (fun b => b < W.heap.size) W (.slice a q.ws.length c) q.ws := by
  obtain ⟨fuel, hf⟩ := h
  obtain ⟨⟨v, q⟩, e, hx⟩ := gstep_open fuel _ (d, ps) hf
  have hx : IntsAt (fun b => b < W.heap.size) W v q.ws := hx
  obtain ⟨a, c, hs⟩ := hx.shape
  refine ⟨a, c, q, ?_, by rw [← hs]; exact hx⟩
  have e2 : cs.toList = [.int .i64 q.k, .int .i64 q.mode, .int .i64 q.lane, .int .i64 q.n, .int .i64 q.round, v] := e
  rw [hs] at e2
  exact Array.toList_inj.1 e2
end
end Go.Proofs.Ytealopempjempaa.Gt
