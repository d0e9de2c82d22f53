/- DERIVED. Plain words for the statement GateDoors: who is let in. No program is in sight; no statement is proved here. -/
import Derived.Test.YtealopempjempaaGateLate
namespace Go.Proofs.Ytealopempjempaa.Gt
set_option linter.unusedVariables false
set_option linter.unusedSimpArgs false
open Go.RowKit Go.Proofs.Ytealopempjempaa.K Go.Proofs.Ytealopempjempaa.Lb Go.Proofs.Ytealopempjempaa.La Go.Proofs.Ytealopempjempaa.Cf
/-- Coming to the same round again gives nothing. -/
theorem comeB_idem {b : Bk} (h : b.Ok) (r : Int) : comeB (comeB b r) r = comeB b r := by
  obtain ⟨br, bc, bt, bd⟩ := b
  obtain ⟨h1, h2, h3, h4⟩ := h
  simp only at h1 h2 h3 h4
  have hr : subT r (addT bd (subT r bd)) = 0 := by unfold subT addT cutT; omega
  have hm : mulT br 0 = 0 := by unfold mulT; rw [show cutT 0 = 0 by decide, Int.mul_zero]; decide
  unfold comeB
  simp only [hr, hm]
  have ht := addT_in bt (mulT br (subT r bd))
  generalize addT bt (mulT br (subT r bd)) = t at ht
  have hd := addT_in bd (subT r bd)
  generalize addT bd (subT r bd) = e at hd
  congr 1
  · unfold addT cutT; omega
  · unfold addT cutT; omega
/-- A message that is judged right, in a lane that is there. -/
theorem door_offer {g : Gte} (h : GoodK g.k) {lane : Int} (h0 : 0 ≤ lane) (h1 : lane < g.k.lanes) (x now round : Int) (hx : 0 ≤ x ∧ x ≤ 2147483647) :
    offerT g 0 lane [x] now round =
      if g.k.depth - ((ofM lane g.ms).length : Int) = 0 then (g, zeroMsg, 2)
      else if (comeB g.b round).tokens = 0 then ({ g with b := comeB g.b round }, zeroMsg, 2)
      else ({ g with ms := g.ms ++ [⟨[x], lane, cutT now, addT now g.k.life, g.seq + 1⟩], b := useB (comeB g.b round), seq := g.seq + 1 }, ⟨[x], lane, cutT now, addT now g.k.life, g.seq + 1⟩, 0) := by
  have hl := h.lanes
  have hd := h.depth
  have hw := h.words
  have hb : badWord x = false := by unfold badWord; simp; omega
  have hj : judgeT g.k 0 lane [x] = 0 := by
    rw [judge_words h.kind h0 h1 (by simp) (by simp; omega)]
    simp [hb]
  have hrm : roomT (lnT g.k.lanes) (plT g.k.depth) g.ms lane = g.k.depth - ((ofM lane g.ms).length : Int) := by
    have e1 : lnT g.k.lanes = g.k.lanes := by unfold lnT; omega
    have e2 : plT g.k.depth = g.k.depth := by unfold plT; omega
    rw [e1, e2]
    unfold roomT isT
    rw [if_pos (by simp; omega)]
  unfold offerT
  rw [if_neg (by simp [hj]), hrm]
/-- The cells of a step. -/
theorem GStepsAt.at_ {w : World} {ao : Option Addr} {n cap : Nat} {qs : List (Value × GSt)} (h : GStepsAt w (.slice ao n cap) qs) {i : Nat} (hi : i < qs.length) : ∃ g o a c, ao = some ⟨g, o, none⟩ ∧ g < w.heap.size ∧ IntsAt (fun b => b < w.heap.size) w (.slice a qs[i].2.ws.length c) qs[i].2.ws ∧
    w.cell? ⟨g, o + i * 6, none⟩ = some (.int .i64 qs[i].2.k) ∧ w.cell? ⟨g, o + i * 6 + 1, none⟩ = some (.int .i64 qs[i].2.mode) ∧ w.cell? ⟨g, o + i * 6 + 2, none⟩ = some (.int .i64 qs[i].2.lane) ∧ w.cell? ⟨g, o + i * 6 + 3, none⟩ = some (.int .i64 qs[i].2.n) ∧ w.cell? ⟨g, o + i * 6 + 4, none⟩ = some (.int .i64 qs[i].2.round) ∧ w.cell? ⟨g, o + i * 6 + 5, none⟩ = some (.slice a qs[i].2.ws.length c) := by
  obtain ⟨-, -, -, hget⟩ := h.get
  obtain ⟨g, o, e, hg, hw, hc⟩ := hget i hi
  have hw : IntsAt (fun b => b < w.heap.size) w qs[i].1 qs[i].2.ws := hw
  obtain ⟨a, c, hs⟩ := hw.shape
  exact ⟨g, o, a, c, e, hg, by rw [← hs]; exact hw, hc 0 (by omega), hc 1 (by omega), hc 2 (by omega), hc 3 (by omega), hc 4 (by omega), by rw [← hs]; exact hc 5 (by omega)⟩
/-- The same at a later world. -/
theorem GStepsAt.atC {w0 w : World} {ao : Option Addr} {n cap : Nat} {qs : List (Value × GSt)} (h : GStepsAt w0 (.slice ao n cap) qs) (hb : Below w0.heap.size w0 w) {i : Nat} (hi : i < qs.length) : ∃ g o a c, ao = some ⟨g, o, none⟩ ∧ g < w.heap.size ∧ IntsAt (fun b => b < w0.heap.size) w (.slice a qs[i].2.ws.length c) qs[i].2.ws ∧
    w.cell? ⟨g, o + i * 6, none⟩ = some (.int .i64 qs[i].2.k) ∧ w.cell? ⟨g, o + i * 6 + 1, none⟩ = some (.int .i64 qs[i].2.mode) ∧ w.cell? ⟨g, o + i * 6 + 2, none⟩ = some (.int .i64 qs[i].2.lane) ∧ w.cell? ⟨g, o + i * 6 + 3, none⟩ = some (.int .i64 qs[i].2.n) ∧ w.cell? ⟨g, o + i * 6 + 4, none⟩ = some (.int .i64 qs[i].2.round) ∧ w.cell? ⟨g, o + i * 6 + 5, none⟩ = some (.slice a qs[i].2.ws.length c) := by
  obtain ⟨g, o, a, c, e, hg, hw, c0, c1, c2, c3, c4, c5⟩ := h.at_ hi
  have hc : ∀ j, w.cell? ⟨g, j, none⟩ = w0.cell? ⟨g, j, none⟩ := fun j => hb.cell (p := ⟨g, j, none⟩) hg
  exact ⟨g, o, a, c, e, Nat.lt_of_lt_of_le hg hb.size, hw.below hb, by rw [hc]; exact c0, by rw [hc]; exact c1, by rw [hc]; exact c2, by rw [hc]; exact c3, by rw [hc]; exact c4, by rw [hc]; exact c5⟩
theorem cut2d {x r : Int} (h : 0 ≤ r ∧ r ≤ 1000) : ∃ d, (d = 0 ∨ d = 1) ∧ wrap64 (r + wrap64 ((IntKind.u64.wrap x).tmod 2)) = r + d := by
  refine ⟨(x % 18446744073709551616) % 2, by omega, ?_⟩
  rw [IntKind.wrap_u64, Int.tmod_eq_emod_of_nonneg (by omega)]; unfold wrap64; omega
theorem lane_of {x l : Int} (h : 1 ≤ l ∧ l ≤ 3) : ∃ y, 0 ≤ y ∧ y < l ∧ wrap64 ((IntKind.u64.wrap x).tmod (IntKind.u64.wrap l)) = y := by
  have e : IntKind.u64.wrap l = l := by rw [IntKind.wrap_u64]; omega
  refine ⟨(x % 18446744073709551616) % l, Int.emod_nonneg _ (by omega), Int.emod_lt_of_pos _ (by omega), ?_⟩
  have h1 := Int.emod_nonneg (x % 18446744073709551616) (show l ≠ 0 by omega)
  have h2 := Int.emod_lt_of_pos (x % 18446744073709551616) (show 0 < l by omega)
  rw [e, IntKind.wrap_u64, Int.tmod_eq_emod_of_nonneg (by omega)]
  unfold wrap64; omega
end Go.Proofs.Ytealopempjempaa.Gt
