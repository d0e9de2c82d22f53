/- DERIVED. A script of steps on lanes opened. No statement is proved here. -/
import Derived.Test.YtbbhhjoohfkanaaRowR
import Derived.Test.YtbbhhjoohfkanaaLaneI
namespace Go.Proofs.Ytbbhhjoohfkanaa.La
set_option linter.unusedVariables false
set_option linter.unusedSimpArgs false
open Go.RowKit Go.ChangeShapes Go.Proofs.Ytbbhhjoohfkanaa.K
section
variable {H : Type} {enc : TypeId × Value → H} {W : World}
set_option maxRecDepth 100000 in
theorem msg_open {fuel : Nat} {cs : List Value} {x : DataW H × List MemPlace} (h : DataW.trod enc Try.prog W 0 (fun _ => true) true fuel 30 cs = some x) : ∃ (v : Value) (m : Msg), cs = [v, .int .i64 m.lane, .int .i64 m.stamp, .int .i64 m.late, .int .i64 m.seq] ∧ IntsAt (fun b => b < W.heap.size) W v m.words := by
  have ci : Try.prog.cellsOf 3 = 1 := by kernel_rfl
  have cl : Try.prog.cellsOf 28 = 1 := by kernel_rfl
  have cm : Try.prog.cellsOf 30 = 5 := by kernel_rfl
  obtain ⟨ys4, n4, _, _, hlen, hyl4, hfs4⟩ := DataW.trod_struct Try.underlying30 h
  rw [cm] at hlen
  have hyl45 : ys4.length = 5 := hyl4
  match cs, hlen with
  | [v4, v5, v6, v7, v8], _ =>
    have g0 := hfs4 0 _ (fieldAt rfl)
    have g1 := hfs4 1 _ (fieldAt rfl)
    have g2 := hfs4 2 _ (fieldAt rfl)
    have g3 := hfs4 3 _ (fieldAt rfl)
    have g4 := hfs4 4 _ (fieldAt rfl)
    rw [List.getElem?_eq_getElem (by omega)] at g0 g1 g2 g3 g4
    simp only [ci, cl, List.drop_zero, List.drop_succ_cons, List.take_succ_cons, List.take_zero, List.take_nil] at g0 g1 g2 g3 g4
    obtain ⟨xs, hx⟩ := ints_cell g0
    obtain ⟨z5, e5, _⟩ := DataW.trod_int Try.underlying3 g1
    obtain ⟨z6, e6, _⟩ := DataW.trod_int Try.underlying3 g2
    obtain ⟨z7, e7, _⟩ := DataW.trod_int Try.underlying3 g3
    obtain ⟨z8, e8, _⟩ := DataW.trod_int Try.underlying3 g4
    simp only [List.cons.injEq, and_true] at e5 e6 e7 e8
    subst e5 e6 e7 e8
    exact ⟨v4, ⟨xs, z5, z6, z7, z8⟩, rfl, hx⟩
set_option maxRecDepth 100000 in
theorem step_open (fuel : Nat) (cs : List Value) (x : DataW H × List MemPlace) (h : DataW.trod enc Try.prog W 0 (fun _ => true) true fuel 32 cs = some x) : ∃ q : Value × St, cs = encS q ∧ goodS W q := by
  have ci : Try.prog.cellsOf 3 = 1 := by kernel_rfl
  have cm : Try.prog.cellsOf 30 = 5 := by kernel_rfl
  have cst : Try.prog.cellsOf 32 = 7 := by kernel_rfl
  obtain ⟨ys, n2, _, _, hlen, hyl, hfs⟩ := DataW.trod_struct Try.underlying32 h
  rw [cst] at hlen
  have hyl5 : ys.length = 3 := hyl
  match cs, hlen with
  | [v0, v1, v4, v5, v6, v7, v8], _ =>
    have f0 := hfs 0 _ (fieldAt rfl)
    have f1 := hfs 1 _ (fieldAt rfl)
    have f2 := hfs 2 _ (fieldAt rfl)
    rw [List.getElem?_eq_getElem (by omega)] at f0 f1 f2
    simp only [ci, cm, List.drop_zero, List.drop_succ_cons, List.take_succ_cons, List.take_zero, List.take_nil] at f0 f1 f2
    obtain ⟨z0, e0, _⟩ := DataW.trod_int Try.underlying3 f0
    obtain ⟨z1, e1, _⟩ := DataW.trod_int Try.underlying3 f1
    obtain ⟨v, m, e2, hx⟩ := msg_open f2
    simp only [List.cons.injEq, and_true] at e0 e1 e2
    obtain ⟨rfl, rfl, rfl, rfl, rfl⟩ := e2
    subst e0 e1
    exact ⟨(v4, ⟨z0, z1, m⟩), rfl, hx⟩
theorem steps_open {ao : Option Addr} {n cap : Nat} {d : DataW H} {ps : List MemPlace} (h : DataW.Trod enc Try.prog W 0 (fun _ => true) true 22 (.slice ao n cap) d ps) : ∃ qs, StepsAt W (.slice ao n cap) qs :=
  recsR_open Try.underlying22 (by kernel_rfl) (by omega) step_open (fun _ => rfl) h
theorem msgArg_open {cs : Array Value} {d : DataW H} {ps : List MemPlace} (h : DataW.Trod enc Try.prog W 0 (fun _ => true) true 30 (.agg cs) d ps) : ∃ (a : Option Addr) (c : Nat) (m : Msg), cs = #[.slice a m.words.length c, .int .i64 m.lane, .int .i64 m.stamp, .int .i64 m.late, .int .i64 m.seq] ∧ IntsAt (fun b => b < W.heap.size) W (.slice a m.words.length c) m.words := by
  obtain ⟨fuel, hf⟩ := h
  obtain ⟨v, m, e, hx⟩ := msg_open (x := (d, ps)) hf
  obtain ⟨a, c, hs⟩ := hx.shape
  refine ⟨a, c, m, ?_, by rw [← hs]; exact hx⟩
  have e2 : cs.toList = [v, .int .i64 m.lane, .int .i64 m.stamp, .int .i64 m.late, .int .i64 m.seq] := e
  rw [hs] at e2
  exact Array.toList_inj.1 e2
end
end Go.Proofs.Ytbbhhjoohfkanaa.La
