/- DERIVED. A script of steps on lanes; early, kind, message. No statement is proved here. -/
import Derived.Test.YtggfallodkbgcaaLaneH
import Derived.Test.YtggfallodkbgcaaK4
namespace Go.Proofs.Ytggfallodkbgcaa.La
set_option linter.unusedVariables false
set_option linter.unusedSimpArgs false
open Go.RowKit Go.Proofs.Ytggfallodkbgcaa.K Go.Proofs.Ytggfallodkbgcaa.Sp Go.Proofs.Ytggfallodkbgcaa.Lb Go.Proofs.Ytggfallodkbgcaa.So
/-- A step: what it is, its number; its message (the words stand in the value beside it). -/
structure St where
  k : Int
  n : Int
  m : Msg
def encS (q : Value × St) : List Value := [.int .i64 q.2.k, .int .i64 q.2.n, q.1, .int .i64 q.2.m.lane, .int .i64 q.2.m.stamp, .int .i64 q.2.m.late, .int .i64 q.2.m.seq]
def goodS (w : World) (q : Value × St) : Prop := IntsAt (fun b => b < w.heap.size) w q.1 q.2.m.words
theorem goodS_below (w w' : World) (q : Value × St) (h : goodS w q) (hb : Below w.heap.size w w') : goodS w' q := (IntsAt.below h hb).mono (fun b h _ => Nat.lt_of_lt_of_le h hb.size)
abbrev StepsAt := RecsAt encS 7 goodS
theorem StepsAt.at_ {w : World} {ao : Option Addr} {n cap : Nat} {qs : List (Value × St)} (h : StepsAt w (.slice ao n cap) qs) {i : Nat} (hi : i < qs.length) : ∃ g o a c, ao = some ⟨g, o, none⟩ ∧ g < w.heap.size ∧ IntsAt (fun b => b < w.heap.size) w (.slice a qs[i].2.m.words.length c) qs[i].2.m.words ∧
    w.cell? ⟨g, o + i * 7, none⟩ = some (.int .i64 qs[i].2.k) ∧ w.cell? ⟨g, o + i * 7 + 1, none⟩ = some (.int .i64 qs[i].2.n) ∧ w.cell? ⟨g, o + i * 7 + 2, none⟩ = some (.slice a qs[i].2.m.words.length c) ∧ w.cell? ⟨g, o + i * 7 + 3, none⟩ = some (.int .i64 qs[i].2.m.lane) ∧ w.cell? ⟨g, o + i * 7 + 4, none⟩ = some (.int .i64 qs[i].2.m.stamp) ∧ w.cell? ⟨g, o + i * 7 + 5, none⟩ = some (.int .i64 qs[i].2.m.late) ∧ w.cell? ⟨g, o + i * 7 + 6, none⟩ = some (.int .i64 qs[i].2.m.seq) := by
  obtain ⟨-, -, -, hget⟩ := h.get
  obtain ⟨g, o, e, hg, hw, hc⟩ := hget i hi
  have hw : IntsAt (fun b => b < w.heap.size) w qs[i].1 qs[i].2.m.words := hw
  obtain ⟨a, c, hs⟩ := hw.shape
  exact ⟨g, o, a, c, e, hg, by rw [← hs]; exact hw, hc 0 (by omega), hc 1 (by omega), by rw [← hs]; exact hc 2 (by omega), hc 3 (by omega), hc 4 (by omega), hc 5 (by omega), hc 6 (by omega)⟩
def kindT (k : Int) : Int := (k % 18446744073709551616) % 8
theorem kindT_lt (k : Int) : 0 ≤ kindT k ∧ kindT k < 8 := by unfold kindT; omega
end Go.Proofs.Ytggfallodkbgcaa.La
