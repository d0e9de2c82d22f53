/- DERIVED. Plain words for the statement GateRefuses: what is refused, what is let in; what Offer leaves in a region. No program is in sight; no statement is proved here. -/
import Derived.Test.YtealopempjempaaGateDoorsP
import Derived.Test.YtealopempjempaaRegR
namespace Go.Proofs.Ytealopempjempaa.Gt
set_option linter.unusedVariables false
set_option linter.unusedSimpArgs false
open Go.RowKit Go.Proofs.Ytealopempjempaa.K Go.Proofs.Ytealopempjempaa.Lb Go.Proofs.Ytealopempjempaa.La Go.Proofs.Ytealopempjempaa.Cf
theorem cut3d {x r : Int} (h : 0 ≤ r ∧ r ≤ 1000) : ∃ d, (0 ≤ d ∧ d ≤ 2) ∧ wrap64 (r + wrap64 ((IntKind.u64.wrap x).tmod 3)) = r + d := by
  refine ⟨(x % 18446744073709551616) % 3, by omega, ?_⟩
  rw [IntKind.wrap_u64, Int.tmod_eq_emod_of_nonneg (by omega)]; unfold wrap64; omega
theorem sortM_len (ms : List Msg) : (sortM ms).length = ms.length := Sp.sortL_len (key := lane1) ms
/-- A token taken, and come to the same round again. -/
theorem comeB_use {b : Bk} (h : b.Ok) (r : Int) (h0 : (comeB b r).tokens ≠ 0) : comeB (useB (comeB b r)) r = useB (comeB b r) := by
  obtain ⟨br, bc, bt, bd⟩ := b
  obtain ⟨h1, h2, h3, h4⟩ := h
  simp only at h1 h2 h3 h4
  have hr : subT r (addT bd (subT r bd)) = 0 := by unfold subT addT cutT; omega
  have hm : mulT br 0 = 0 := by unfold mulT; rw [show cutT 0 = 0 by decide, Int.mul_zero]; decide
  unfold comeB useB at *
  simp only [hr, hm] at *
  have ht := addT_in bt (mulT br (subT r bd))
  generalize addT bt (mulT br (subT r bd)) = t at ht h0
  have hd := addT_in bd (subT r bd)
  generalize addT bd (subT r bd) = e at hd
  congr 1
  · unfold addT cutT; omega
  · unfold addT cutT; omega
/-- What is offered at a round that the bucket has come to: it is refused, and nothing turns; or it is let in, by a token. -/
theorem offer_two (g : Gte) (r : Int) (hb : comeB g.b r = g.b) (mode lane now : Int) (ws : List Int) :
    (∃ j, j ≠ 0 ∧ offerT g mode lane ws now r = (g, zeroMsg, j)) ∨
    (g.b.tokens ≠ 0 ∧ offerT g mode lane ws now r = ({ g with ms := g.ms ++ [⟨ws, lane, cutT now, addT now g.k.life, g.seq + 1⟩], b := useB g.b, seq := g.seq + 1 }, ⟨ws, lane, cutT now, addT now g.k.life, g.seq + 1⟩, 0)) := by
  unfold offerT
  rw [hb]
  by_cases h1 : judgeT g.k mode lane ws ≠ 0
  · rw [if_pos h1]; exact .inl ⟨_, h1, rfl⟩
  · rw [if_neg h1]
    by_cases h2 : roomT (lnT g.k.lanes) (plT g.k.depth) g.ms lane = 0
    · rw [if_pos h2]; exact .inl ⟨2, by decide, rfl⟩
    · rw [if_neg h2]
      by_cases h3 : g.b.tokens = 0
      · rw [if_pos h3]; exact .inl ⟨2, by decide, rfl⟩
      · rw [if_neg h3]; exact .inr ⟨h3, rfl⟩
/-- The cells of a step at a later world; its words stand where they stood. -/
theorem GStepsAt.atD {w0 w : World} {ao : Option Addr} {n cap : Nat} {qs : List (Value × GSt)} (h : GStepsAt w0 (.slice ao n cap) qs) (hb : Below w0.heap.size w0 w) {i : Nat} (hi : i < qs.length) : ∃ g o a c, ao = some ⟨g, o, none⟩ ∧ g < w.heap.size ∧ IntsAt (fun b => b < w0.heap.size) w0 (.slice a qs[i].2.ws.length c) qs[i].2.ws ∧
    w.cell? ⟨g, o + i * 6, none⟩ = some (.int .i64 qs[i].2.k) ∧ w.cell? ⟨g, o + i * 6 + 1, none⟩ = some (.int .i64 qs[i].2.mode) ∧ w.cell? ⟨g, o + i * 6 + 2, none⟩ = some (.int .i64 qs[i].2.lane) ∧ w.cell? ⟨g, o + i * 6 + 3, none⟩ = some (.int .i64 qs[i].2.n) ∧ w.cell? ⟨g, o + i * 6 + 4, none⟩ = some (.int .i64 qs[i].2.round) ∧ w.cell? ⟨g, o + i * 6 + 5, none⟩ = some (.slice a qs[i].2.ws.length c) := by
  obtain ⟨g, o, a, c, e, hg, hw, c0, c1, c2, c3, c4, c5⟩ := h.at_ hi
  have hc : ∀ j, w.cell? ⟨g, j, none⟩ = w0.cell? ⟨g, j, none⟩ := fun j => hb.cell (p := ⟨g, j, none⟩) hg
  exact ⟨g, o, a, c, e, Nat.lt_of_lt_of_le hg hb.size, hw, by rw [hc]; exact c0, by rw [hc]; exact c1, by rw [hc]; exact c2, by rw [hc]; exact c3, by rw [hc]; exact c4, by rw [hc]; exact c5⟩
/-- A struct of five cells stored into a box that the region has made. -/
def set5 (u : World) (b : Nat) (v0 v1 v2 v3 v4 : Value) : World := ((((u.setCell ⟨b, 0, none⟩ v0).setCell ⟨b, 1, none⟩ v1).setCell ⟨b, 2, none⟩ v2).setCell ⟨b, 3, none⟩ v3).setCell ⟨b, 4, none⟩ v4
theorem set5_chg {M : Nat → Prop} {w u : World} (h : Chg M w u) {b : Nat} (hb : w.heap.size ≤ b) (v0 v1 v2 v3 v4 : Value) : Chg M w (set5 u b v0 v1 v2 v3 v4) := ((((h.setN hb).setN hb).setN hb).setN hb).setN hb
theorem set5_own (u : World) (b : Nat) (v0 v1 v2 v3 v4 : Value) : Chg (fun x => x = b) u (set5 u b v0 v1 v2 v3 v4) := (((((Chg.refl (fun x => x = b) u).setB (b := b) rfl).setB (b := b) rfl).setB (b := b) rfl).setB (b := b) rfl).setB (b := b) rfl
theorem set5_pts {u : World} {b : Nat} {T : TypeId} {c0 c1 c2 c3 c4 : Value} (h : pts u b [c0, c1, c2, c3, c4] T) (v0 v1 v2 v3 v4 : Value) : pts (set5 u b v0 v1 v2 v3 v4) b [v0, v1, v2, v3, v4] T := ((((h.set 0 v0).set 1 v1).set 2 v2).set 3 v3).set 4 v4
/-- What Offer tells in a region. -/
def TOut (n0 : Nat) (r : Gte × Msg × Int) (gs : List Nat) (u : World) (v : Value) : Prop :=
  ∃ a c, v = .tuple #[.agg #[.slice a r.2.1.words.length c, .int .i64 r.2.1.lane, .int .i64 r.2.1.stamp, .int .i64 r.2.1.late, .int .i64 r.2.1.seq], .int .i64 r.2.2] ∧ IntsAt (fun b => n0 ≤ b ∧ b ∉ gs) u (.slice a r.2.1.words.length c) r.2.1.words
/-- What Offer leaves in a region: what is told, the gate as it is now, apart from the region's boxes. -/
def OOut (n0 : Nat) (M : Nat → Prop) (gb : Nat) (r : Gte × Msg × Int) (gs : List Nat) (u : World) (v : Value) : Prop :=
  TOut n0 r gs u v ∧ ∃ M', GateM u M' gb r.1 ∧ ∀ b, M' b → M b ∨ (n0 ≤ b ∧ b ∉ gs)
def BOut (n0 : Nat) (T : TypeId) (cs : List Value) (gs : List Nat) (u : World) (v : Value) : Prop := ∃ b, v = .pointer (some ⟨b, 0, none⟩) ∧ b ∈ gs ∧ n0 ≤ b ∧ pts u b cs T
section
variable {n0 gb : Nat} {M : Nat → Prop} {r : Gte × Msg × Int} {m : Msg} {gs gs' : List Nat} {u u' : World} {v : Value} {T : TypeId} {cs : List Value}
theorem TOut.st (h : TOut n0 r gs u v) (hs : StepG gs u gs' u') : TOut n0 r gs' u' v := let ⟨a, c, h1, h2⟩ := h; ⟨a, c, h1, IntsAt.stG h2 hs⟩
theorem OOut.st (h : OOut n0 M gb r gs u v) (hs : StepG gs u gs' u') : OOut n0 M gb r gs' u' v := by
  obtain ⟨h1, M', h2, h3⟩ := h
  refine ⟨h1.st hs, M', h2.below hs.b, fun b hb => (h3 b hb).imp id (fun hh => ⟨hh.1, fun hm => (hs.n b hm).elim hh.2 (fun hle => ?_)⟩)⟩
  have := h2.lt b hb; omega
theorem BOut.st (h : BOut n0 T cs gs u v) (hs : StepG gs u gs' u') : BOut n0 T cs gs' u' v := let ⟨b, h1, h2, h3, h4⟩ := h; ⟨b, h1, hs.o b h2, h3, h4.below hs.b⟩
theorem TOut.chg (h : TOut n0 r gs u v) (hc : Chg M u u') (hM : ∀ b, M b → b < n0) : TOut n0 r gs u' v := let ⟨a, c, h1, h2⟩ := h; ⟨a, c, h1, h2.chg hc (fun b hb _ hm => by have := hM b hm; have := hb.1; omega)⟩
theorem MOut.chg (h : MOut n0 m gs u v) (hc : Chg M u u') (hM : ∀ b, M b → b < n0) : MOut n0 m gs u' v := let ⟨a, c, h1, h2⟩ := h; ⟨a, c, h1, h2.chg hc (fun b hb _ hm => by have := hM b hm; have := hb.1; omega)⟩
theorem BOut.chg (h : BOut n0 T cs gs u v) (hc : Chg M u u') (hM : ∀ b, M b → b < n0) : BOut n0 T cs gs u' v := let ⟨b, h1, h2, h3, h4⟩ := h; ⟨b, h1, h2, h3, h4.chg hc (fun hm => by have := hM b hm; omega)⟩
theorem TOut.msg (h : TOut n0 r gs u v) : ∃ x, v = .tuple #[x, .int .i64 r.2.2] ∧ MOut n0 r.2.1 gs u x := let ⟨a, c, h1, h2⟩ := h; ⟨_, h1, a, c, rfl, h2⟩
theorem GateM.set5 {g : Gte} {b : Nat} (h : GateM u M gb g) (hb : ¬ M b) (v0 v1 v2 v3 v4 : Value) : GateM (set5 u b v0 v1 v2 v3 v4) M gb g :=
  h.kept (set5_own u b v0 v1 v2 v3 v4).size (fun c hc hlt => (set5_own u b v0 v1 v2 v3 v4).block c hlt (fun e => hb (e ▸ hc)))
theorem gtokens2_c {g : Gte} (h : GateM u M gb g) {rd : Int} {b' : Bk} (hb : comeB g.b rd = b') : Calls Try.prog 22 #[.pointer (some ⟨gb, 0, none⟩), .int .i64 rd] u fun e w' => e = .returned (.int .i64 b'.tokens) ∧ GateM w' (grow M u w') gb { g with b := b' } ∧ Chg M u w' := by
  subst hb; exact gtokens_c h rd
theorem OOut.of {w0 : World} {e : Ending} (hb : Chg M w0 u) (hg : Boxes w0 gs u) (h : OfferPost u M gb r e u') : ∃ v, e = .returned v ∧ OOut w0.heap.size M gb r gs u' v ∧ Chg M u u' := by
  obtain ⟨a, c, rfl, h2, h3, h4⟩ := h
  have hap : ∀ b, u.heap.size ≤ b → w0.heap.size ≤ b ∧ b ∉ gs := fun b hb' => ⟨Nat.le_trans hb.size hb', fun hm => by have := (hg b hm).2; omega⟩
  refine ⟨_, rfl, ⟨⟨a, c, rfl, h2.mono (fun b h1 _ => hap b h1)⟩, _, h3, fun b hb' => ?_⟩, h4⟩
  rcases hb' with hb' | hb'
  · exact .inl hb'
  · exact .inr (hap b hb'.1)
end
end Go.Proofs.Ytealopempjempaa.Gt
