/- DERIVED. The walk over the program's Gate.Offer. No statement is proved here. -/
import Derived.Test.YtggfallodkbgcaaGateW
namespace Go.Proofs.Ytggfallodkbgcaa.Gt
set_option linter.unusedVariables false
set_option linter.unusedSimpArgs false
open Go.RowKit Go.Proofs.Ytggfallodkbgcaa.K Go.Proofs.Ytggfallodkbgcaa.Lb Go.Proofs.Ytggfallodkbgcaa.La Go.Proofs.Ytggfallodkbgcaa.Cf
def OfferPost (w : World) (M : Nat → Prop) (gb : Nat) (r : Gte × Msg × Int) (e : Ending) (w' : World) : Prop :=
  ∃ a c, e = .returned (.tuple #[.agg #[.slice a r.2.1.words.length c, .int .i64 r.2.1.lane, .int .i64 r.2.1.stamp, .int .i64 r.2.1.late, .int .i64 r.2.1.seq], .int .i64 r.2.2]) ∧ IntsAt (fun b => w.heap.size ≤ b) w' (.slice a r.2.1.words.length c) r.2.1.words ∧ GateM w' (grow M w w') gb r.1 ∧ Chg M w w'
/-- The same; the words told lie apart from what the gate may turn. -/
def OfferPostS (w : World) (M : Nat → Prop) (gb : Nat) (r : Gte × Msg × Int) (e : Ending) (w' : World) : Prop :=
  ∃ a c, ∃ M' : Nat → Prop, e = .returned (.tuple #[.agg #[.slice a r.2.1.words.length c, .int .i64 r.2.1.lane, .int .i64 r.2.1.stamp, .int .i64 r.2.1.late, .int .i64 r.2.1.seq], .int .i64 r.2.2]) ∧ IntsAt (fun b => w.heap.size ≤ b ∧ ¬ M' b) w' (.slice a r.2.1.words.length c) r.2.1.words ∧ GateM w' M' gb r.1 ∧ (∀ b, M' b → grow M w w' b) ∧ Chg M w w'
section
variable {w w' : World} {M : Nat → Prop} {gb : Nat} {g : Gte}
theorem zeroBox (w : World) : pts (w.alloc (.cells #[.slice none 0 0, .int .i64 0, .int .i64 0, .int .i64 0, .int .i64 0] 37)) w.heap.size [.slice none 0 0, .int .i64 0, .int .i64 0, .int .i64 0, .int .i64 0] 37 := pts.newA w _ _
theorem offer_no (h : GateM w M gb g) (j : Int) (hb : Below w.heap.size w w') : OfferPost w M gb (g, zeroMsg, j) (.returned (.tuple #[.agg #[.slice none 0 0, .int .i64 0, .int .i64 0, .int .i64 0, .int .i64 0], .int .i64 j])) w' :=
  ⟨none, 0, rfl, IntsAt.nil _ _, h.grown hb, Chg.of_below hb⟩
set_option maxHeartbeats 1000000 in
set_option maxRecDepth 100000 in
theorem offer_bad (h : GateM w M gb g) {ok : Nat → Prop} {a : Option Addr} {c : Nat} {ws : List Int} (hw : IntsAt ok w (.slice a ws.length c) ws) (mode lane now round : Int) (hj : judgeT g.k mode lane ws ≠ 0) :
    Calls Try.prog 13 #[.pointer (some ⟨gb, 0, none⟩), .int .i64 mode, .int .i64 lane, .slice a ws.length c, .int .i64 now, .int .i64 round] w (OfferPost w M gb (g, zeroMsg, judgeT g.k mode lane ws)) := by
  have hb0 := (Below.refl w.heap.size w).alloc (Nat.le_refl _) (.cells #[.slice none 0 0, .int .i64 0, .int .i64 0, .int .i64 0, .int .i64 0] 37)
  have hz := zeroBox w
  have hG0 := h.below hb0
  have hjc := judge_c g.k mode lane (hw.below hb0)
  unfold aggC JudgePost at hjc
  have hno := hid (fun w' hb => offer_no (w' := w') h (judgeT g.k mode lane ws) hb)
  obtain ⟨lb, bb, ML, hA, -, -⟩ := hG0
  clear h hw
  generalize judgeT g.k mode lane ws = j at hj hjc hno ⊢
  have hj1 : (j != 0) = true := by simpa using hj
  have hp := hA.p
  have g0 := (hp).cell 0
  have g1 := (hp).cell 1
  have g2 := (hp).cell 2
  have g3 := (hp).cell 3
  have g4 := (hp).cell 4
  have g5 := (hp).cell 5
  have g6 := (hp).cell 6
  have g7 := (hp).cell 7
  have g8 := (hp).cell 8
  have g9 := (hp).cell 9
  have g10 := (hp).cell 10
  have g11 := (hp).cell 11
  have g12 := (hp).cell 12
  have g13 := (hp).cell 13
  have gl := (hp).lt
  simp only [List.getElem?_cons_zero, List.getElem?_cons_succ] at g0 g1 g2 g3 g4 g5 g6 g7 g8 g9 g10 g11 g12 g13
  replace hp := hid hp
  replace hA := hid hA
  replace hb0 := hid hb0
  replace hz := hid hz
  replace hjc := hid hjc
  replace hj := hid hj
  go_enter Try.func13, Try.ntmps13
  go_wp2_with (first | (go_at_call 27; (with_reducible refine (hjc.out).mono ?_); rintro e w1 ⟨rfl, hb1⟩; have hz1 := hz.out.below hb1; have y0 := hz1.cell 0; have y1 := hz1.cell 1; have y2 := hz1.cell 2; have y3 := hz1.cell 3; have y4 := hz1.cell 4; have yl := hz1.lt; have yf := fun o => hz1.frozen o; simp only [List.getElem?_cons_zero, List.getElem?_cons_succ] at y0 y1 y2 y3 y4; have hb2 := hid (Below.next hb0.out hb1 hb0.out.size); clear hb1 hz1))
  refine bodyPost_ret (v := .tuple #[.agg #[.slice none 0 0, .int .i64 0, .int .i64 0, .int .i64 0, .int .i64 0], .int .i64 j]) (by simp [results, Try.results13, go_sem, y0, y1, y2, y3, y4, yl]) rfl (hno.out _ ?_)
  exact (((((hb2.out.setCell (by simp) _).setCell (by simp) _).setCell (by simp) _).setCell (by simp) _).setCell (by simp) _)
theorem GateAt.setB {lb bb : Nat} {ML : Nat → Prop} (h : GateAt w gb lb bb ML g) {b' : Bk} (hB : BucketAt w' bb b') (hok : b'.Ok) (hC : Chg (fun x => x = bb) w w') : GateAt w' gb lb bb ML { g with b := b' } :=
  ⟨h.p.chg hC (fun e => h.n3 e), h.L.kept hC.size (fun b hb hlt => hC.block b hlt (fun e => h.n2 (e ▸ hb))), hB, hok, h.n1, h.n2, h.n3, h.s⟩
theorem GateAt.setS {lb bb : Nat} {ML : Nat → Prop} (h : GateAt w gb lb bb ML g) (hs : g.seq < 1000000) : GateAt (w.setCell ⟨gb, 13, none⟩ (.int .i64 (g.seq + 1))) gb lb bb ML { g with seq := g.seq + 1 } := by
  have hk : ∀ b, b ≠ gb → (w.setCell ⟨gb, 13, none⟩ (.int .i64 (g.seq + 1))).heap[b]? = w.heap[b]? := fun b hb => Below.heap_setCell _ _ _ _ hb
  exact ⟨h.p.set 13 _, h.L.kept (by simp) (fun b hb _ => hk b (fun e => h.n1 (e ▸ hb))), pts.of h.B (hk bb (Ne.symm h.n3)), h.ok, h.n1, h.n2, h.n3, by have := h.s; simp only; omega⟩
theorem GateAt.setL {lb bb : Nat} {ML : Nat → Prop} (h : GateAt w gb lb bb ML g) {ms' : List Msg} (hC : Chg ML w w') (hL : LanesM w' (grow ML w w') lb (lnT g.k.lanes) (plT g.k.depth) ms') : GateAt w' gb lb bb (grow ML w w') { g with ms := ms' } :=
  ⟨h.p.chg hC h.n1, hL, pts.chg h.B hC h.n2, h.ok, fun e => by rcases e with e | e; exact h.n1 e; exact (by have := h.p.lt; omega), fun e => by rcases e with e | e; exact h.n2 e; exact (by have := h.B.lt; omega), h.n3, h.s⟩
/-- A copy of words, and a message that has them, apart from a region's boxes. -/
def COut (n0 : Nat) (ws : List Int) (gs : List Nat) (u : World) (v : Value) : Prop := ∃ a c, v = .slice a ws.length c ∧ IntsAt (fun b => n0 ≤ b ∧ b ∉ gs) u (.slice a ws.length c) ws
theorem IntsAt.stG {n0 : Nat} {v : Value} {ws : List Int} {gs gs' : List Nat} {u u' : World} (h : IntsAt (fun b => n0 ≤ b ∧ b ∉ gs) u v ws) (hs : StepG gs u gs' u') : IntsAt (fun b => n0 ≤ b ∧ b ∉ gs') u' v ws :=
  (h.mono (ok' := fun b => n0 ≤ b ∧ b ∉ gs') (fun b hb hlt => ⟨hb.1, fun hm => (hs.n b hm).elim hb.2 (by omega)⟩)).below hs.b
theorem COut.st {n0 : Nat} {ws : List Int} {gs gs' : List Nat} {u u' : World} {v : Value} (h : COut n0 ws gs u v) (hs : StepG gs u gs' u') : COut n0 ws gs' u' v := let ⟨a, c, h1, h2⟩ := h; ⟨a, c, h1, IntsAt.stG h2 hs⟩
theorem COut.of {w0 : World} {ws : List Int} {gs : List Nat} {u u' : World} {v : Value} (hb : Below w0.heap.size w0 u) (hg : Boxes w0 gs u) (h : IntsAt (fun b => u.heap.size ≤ b) u' v ws) : COut w0.heap.size ws gs u' v := by
  obtain ⟨a, c, rfl⟩ := h.shape
  exact ⟨a, c, rfl, h.mono (fun b h1 _ => ⟨Nat.le_trans hb.size h1, fun hm => by have := (hg b hm).2; omega⟩)⟩
def MOut (n0 : Nat) (m : Msg) (gs : List Nat) (u : World) (v : Value) : Prop := ∃ a c, v = .agg #[.slice a m.words.length c, .int .i64 m.lane, .int .i64 m.stamp, .int .i64 m.late, .int .i64 m.seq] ∧ IntsAt (fun b => n0 ≤ b ∧ b ∉ gs) u (.slice a m.words.length c) m.words
theorem MOut.st {n0 : Nat} {m : Msg} {gs gs' : List Nat} {u u' : World} {v : Value} (h : MOut n0 m gs u v) (hs : StepG gs u gs' u') : MOut n0 m gs' u' v := let ⟨a, c, h1, h2⟩ := h; ⟨a, c, h1, IntsAt.stG h2 hs⟩
set_option maxHeartbeats 1000000 in
set_option maxRecDepth 100000 in
theorem offer_full (h : GateM w M gb g) {ok : Nat → Prop} {a : Option Addr} {c : Nat} {ws : List Int} (hw : IntsAt ok w (.slice a ws.length c) ws) (mode lane now round : Int) (hj : judgeT g.k mode lane ws = 0) (hr : roomT (lnT g.k.lanes) (plT g.k.depth) g.ms lane = 0) :
    Calls Try.prog 13 #[.pointer (some ⟨gb, 0, none⟩), .int .i64 mode, .int .i64 lane, .slice a ws.length c, .int .i64 now, .int .i64 round] w (OfferPost w M gb (g, zeroMsg, 2)) := by
  have hb0 := (Below.refl w.heap.size w).alloc (Nat.le_refl _) (.cells #[.slice none 0 0, .int .i64 0, .int .i64 0, .int .i64 0, .int .i64 0] 37)
  have hz := zeroBox w
  have hG0 := h.below hb0
  have hjc := judge_c g.k mode lane (hw.below hb0)
  rw [hj] at hjc
  unfold aggC JudgePost at hjc
  have hno := hid (fun w' hb => offer_no (w' := w') h 2 hb)
  obtain ⟨lb, bb, ML, hA, -, -⟩ := hG0
  clear h hw hj
  have hp := hA.p
  have g0 := (hp).cell 0
  have g1 := (hp).cell 1
  have g2 := (hp).cell 2
  have g3 := (hp).cell 3
  have g4 := (hp).cell 4
  have g5 := (hp).cell 5
  have g6 := (hp).cell 6
  have g7 := (hp).cell 7
  have g8 := (hp).cell 8
  have g9 := (hp).cell 9
  have g10 := (hp).cell 10
  have g11 := (hp).cell 11
  have g12 := (hp).cell 12
  have g13 := (hp).cell 13
  have gl := (hp).lt
  simp only [List.getElem?_cons_zero, List.getElem?_cons_succ] at g0 g1 g2 g3 g4 g5 g6 g7 g8 g9 g10 g11 g12 g13
  replace hp := hid hp
  have hrc := hid (fun (u : World) (hL : LanesM u ML lb (lnT g.k.lanes) (plT g.k.depth) g.ms) => show Calls Try.prog 28 #[.pointer (some ⟨lb, 0, none⟩), .int .i64 lane] u fun e w' => e = .returned (.int .i64 0) ∧ Below u.heap.size u w' from by have := room_c hL lane; rw [hr] at this; exact this)
  replace hA := hid hA
  replace hb0 := hid hb0
  replace hz := hid hz
  replace hjc := hid hjc
  replace hr := hid hr
  go_enter Try.func13, Try.ntmps13
  go_wp2_with (first | (go_at_call 27; (with_reducible refine (hjc.out).mono ?_); rintro e w1 ⟨rfl, hb1⟩; have hp1 := hp.out.below hb1; have k11 := hp1.cell 11; have kl := hp1.lt; simp only [List.getElem?_cons_zero, List.getElem?_cons_succ] at k11; have hL1 := hid (hA.out.L.below hb1); have hb2 := hid (Below.next hb0.out hb1 hb0.out.size); have hz1 := hid (hz.out.below hb1); clear hb1 hp1) | (go_at_call 28; (with_reducible refine (hrc.out _ hL1.out).mono ?_); rintro e w2 ⟨rfl, hb3⟩; have hz2 := hz1.out.below hb3; have y0 := hz2.cell 0; have y1 := hz2.cell 1; have y2 := hz2.cell 2; have y3 := hz2.cell 3; have y4 := hz2.cell 4; have yl := hz2.lt; have yf := fun o => hz2.frozen o; simp only [List.getElem?_cons_zero, List.getElem?_cons_succ] at y0 y1 y2 y3 y4; have hb4 := hid (Below.next hb2.out hb3 hb2.out.size); clear hb3 hz2))
  refine bodyPost_ret (v := .tuple #[.agg #[.slice none 0 0, .int .i64 0, .int .i64 0, .int .i64 0, .int .i64 0], .int .i64 2]) (by simp [results, Try.results13, go_sem, y0, y1, y2, y3, y4, yl]) rfl (hno.out _ ?_)
  exact (((((hb4.out.setCell (by simp) _).setCell (by simp) _).setCell (by simp) _).setCell (by simp) _).setCell (by simp) _)
set_option maxHeartbeats 1000000 in
set_option maxRecDepth 100000 in
theorem offer_dry (h : GateM w M gb g) {ok : Nat → Prop} {a : Option Addr} {c : Nat} {ws : List Int} (hw : IntsAt ok w (.slice a ws.length c) ws) (mode lane now round : Int) (hj : judgeT g.k mode lane ws = 0) (hr : roomT (lnT g.k.lanes) (plT g.k.depth) g.ms lane ≠ 0) (ht : (comeB g.b round).tokens = 0) :
    Calls Try.prog 13 #[.pointer (some ⟨gb, 0, none⟩), .int .i64 mode, .int .i64 lane, .slice a ws.length c, .int .i64 now, .int .i64 round] w (OfferPost w M gb ({ g with b := comeB g.b round }, zeroMsg, 2)) := by
  have hb0 := (Below.refl w.heap.size w).alloc (Nat.le_refl _) (.cells #[.slice none 0 0, .int .i64 0, .int .i64 0, .int .i64 0, .int .i64 0] 37)
  have hz := zeroBox w
  have hG0 := h.below hb0
  have hjc := judge_c g.k mode lane (hw.below hb0)
  rw [hj] at hjc
  unfold aggC JudgePost at hjc
  obtain ⟨lb, bb, ML, hA, hML, hMl⟩ := hG0
  have hMw := hid h.lt
  have hp := hA.p
  have g0 := (hp).cell 0
  have g1 := (hp).cell 1
  have g2 := (hp).cell 2
  have g3 := (hp).cell 3
  have g4 := (hp).cell 4
  have g5 := (hp).cell 5
  have g6 := (hp).cell 6
  have g7 := (hp).cell 7
  have g8 := (hp).cell 8
  have g9 := (hp).cell 9
  have g10 := (hp).cell 10
  have g11 := (hp).cell 11
  have g12 := (hp).cell 12
  have g13 := (hp).cell 13
  have gl := (hp).lt
  simp only [List.getElem?_cons_zero, List.getElem?_cons_succ] at g0 g1 g2 g3 g4 g5 g6 g7 g8 g9 g10 g11 g12 g13
  replace hp := hid hp
  have hr1 : (roomT (lnT g.k.lanes) (plT g.k.depth) g.ms lane == 0) = false := by simpa using hr
  have hrc := hid (fun (u : World) (hL : LanesM u ML lb (lnT g.k.lanes) (plT g.k.depth) g.ms) => show Calls Try.prog 28 #[.pointer (some ⟨lb, 0, none⟩), .int .i64 lane] u fun e w' => e = .returned (.int .i64 (roomT (lnT g.k.lanes) (plT g.k.depth) g.ms lane)) ∧ Below u.heap.size u w' from room_c hL lane)
  replace hr := hid hr
  generalize hR : roomT (lnT g.k.lanes) (plT g.k.depth) g.ms lane = R at hr1 hrc
  replace hR := hid hR
  replace hML := hid hML
  replace hMl := hid hMl
  replace hj := hid hj
  replace hA := hid hA
  replace hb0 := hid hb0
  replace hz := hid hz
  replace hjc := hid hjc
  have htc := hid (fun (u : World) (hB : BucketAt u bb g.b) => show Calls Try.prog 29 #[.pointer (some ⟨bb, 0, none⟩), .int .i64 round] u fun e w' => e = .returned (.bool false) ∧ BucketAt w' bb (comeB g.b round) ∧ Chg (fun x => x = bb) u w' from by have := btake_c hB hA.out.ok round; rw [if_pos ht, show decide ((comeB g.b round).tokens ≠ 0) = false by simp [ht]] at this; exact this)
  have hok := hid (comeB_ok hA.out.ok round)
  replace ht := hid ht
  clear h hw
  have hbbn := hid (show w.heap.size ≠ bb from fun e => by have := hML.out bb (.inr (.inr rfl)); have := hMw.out bb this; omega)
  go_enter Try.func13, Try.ntmps13
  go_wp2_with (first | (go_at_call 27; (with_reducible refine (hjc.out).mono ?_); rintro e w1 ⟨rfl, hb1⟩; have hp1 := hp.out.below hb1; have k11 := hp1.cell 11; have kl := hp1.lt; simp only [List.getElem?_cons_zero, List.getElem?_cons_succ] at k11; have hA1 := hid (hA.out.kept hb1.size (fun b _ hlt => hb1.block b hlt)); have hb2 := hid (Below.next hb0.out hb1 hb0.out.size); have hz1 := hid (hz.out.below hb1); clear hb1 hp1) | (go_at_call 28; (with_reducible refine (hrc.out _ hA1.out.L).mono ?_); rintro e w2 ⟨rfl, hb3⟩; have hA2 := hid (hA1.out.kept hb3.size (fun b _ hlt => hb3.block b hlt)); have m12 := hA2.out.p.cell 12; have ml := hA2.out.p.lt; simp only [List.getElem?_cons_zero, List.getElem?_cons_succ] at m12; have hz2 := hid (hz1.out.below hb3); have hb4 := hid (Below.next hb2.out hb3 hb2.out.size); clear hb3) | (go_at_call 29; (with_reducible refine (htc.out _ hA2.out.B).mono ?_); rintro e w3 ⟨rfl, hB3, hC3⟩; have hz3 := hz2.out.chg hC3 hbbn.out; have y0 := hz3.cell 0; have y1 := hz3.cell 1; have y2 := hz3.cell 2; have y3 := hz3.cell 3; have y4 := hz3.cell 4; have yl := hz3.lt; have yf := fun o => hz3.frozen o; simp only [List.getElem?_cons_zero, List.getElem?_cons_succ] at y0 y1 y2 y3 y4; have hA3 := hid (hA2.out.setB hB3 hok.out hC3); have hC4 := hid ((Chg.of_below (M := M) hb4.out).trans hC3 (fun i hi => .inl (hML.out i (.inr (.inr hi))))); clear hB3 hC3 hz3))
  refine bodyPost_ret (v := .tuple #[.agg #[.slice none 0 0, .int .i64 0, .int .i64 0, .int .i64 0, .int .i64 0], .int .i64 2]) (by simp [results, Try.results13, go_sem, y0, y1, y2, y3, y4, yl]) rfl ⟨none, 0, rfl, IntsAt.nil _ _, ?_, ?_⟩
  · refine ⟨lb, bb, ML, hA3.out.kept (by simp) (fun b hb _ => ?_), fun b hb => .inl (hML.out b hb), fun b hb => ?_⟩
    · have := hMw.out b (hML.out b hb)
      rw [Below.heap_setCell _ _ _ _ (by simp; omega), Below.heap_setCell _ _ _ _ (by simp; omega), Below.heap_setCell _ _ _ _ (by simp; omega), Below.heap_setCell _ _ _ _ (by simp; omega), Below.heap_setCell _ _ _ _ (by simp; omega)]
    · rcases hb with hb | hb
      · have := hMw.out b hb; have := hC4.out.size; simp; omega
      · exact hb.2
  · exact ((((hC4.out.setN (Nat.le_refl _)).setN (Nat.le_refl _)).setN (Nat.le_refl _)).setN (Nat.le_refl _)).setN (Nat.le_refl _)
set_option maxHeartbeats 2000000 in
set_option maxRecDepth 100000 in
theorem offer_yes (h : GateM w M gb g) {a : Option Addr} {c : Nat} {ws : List Int} (hw : IntsAt (fun b => ¬ M b ∧ b < w.heap.size) w (.slice a ws.length c) ws) (hl : ws.length ≤ 17592186044416) (hs : g.seq < 1000000) (mode lane now round : Int) (hj : judgeT g.k mode lane ws = 0) (hr : roomT (lnT g.k.lanes) (plT g.k.depth) g.ms lane ≠ 0) (ht : (comeB g.b round).tokens ≠ 0) :
    Calls Try.prog 13 #[.pointer (some ⟨gb, 0, none⟩), .int .i64 mode, .int .i64 lane, .slice a ws.length c, .int .i64 now, .int .i64 round] w (OfferPostS w M gb ({ g with ms := g.ms ++ [⟨ws, lane, cutT now, addT now g.k.life, g.seq + 1⟩], b := useB (comeB g.b round), seq := g.seq + 1 }, ⟨ws, lane, cutT now, addT now g.k.life, g.seq + 1⟩, 0)) := by
  have hb0 := (Below.refl w.heap.size w).alloc (Nat.le_refl _) (.cells #[.slice none 0 0, .int .i64 0, .int .i64 0, .int .i64 0, .int .i64 0] 37)
  have hz := zeroBox w
  have hG0 := h.below hb0
  have hjc := judge_c g.k mode lane (hw.below hb0)
  rw [hj] at hjc
  unfold aggC JudgePost at hjc
  obtain ⟨lb, bb, ML, hA, hML, hMl⟩ := hG0
  have hMw := hid h.lt
  have hp := hA.p
  have g0 := (hp).cell 0
  have g1 := (hp).cell 1
  have g2 := (hp).cell 2
  have g3 := (hp).cell 3
  have g4 := (hp).cell 4
  have g5 := (hp).cell 5
  have g6 := (hp).cell 6
  have g7 := (hp).cell 7
  have g8 := (hp).cell 8
  have g9 := (hp).cell 9
  have g10 := (hp).cell 10
  have g11 := (hp).cell 11
  have g12 := (hp).cell 12
  have g13 := (hp).cell 13
  have gl := (hp).lt
  simp only [List.getElem?_cons_zero, List.getElem?_cons_succ] at g0 g1 g2 g3 g4 g5 g6 g7 g8 g9 g10 g11 g12 g13
  replace hp := hid hp
  have hr1 : (roomT (lnT g.k.lanes) (plT g.k.depth) g.ms lane == 0) = false := by simpa using hr
  have hrc := hid (fun (u : World) (hL : LanesM u ML lb (lnT g.k.lanes) (plT g.k.depth) g.ms) => show Calls Try.prog 28 #[.pointer (some ⟨lb, 0, none⟩), .int .i64 lane] u fun e w' => e = .returned (.int .i64 (roomT (lnT g.k.lanes) (plT g.k.depth) g.ms lane)) ∧ Below u.heap.size u w' from room_c hL lane)
  generalize hR : roomT (lnT g.k.lanes) (plT g.k.depth) g.ms lane = R at hr1 hrc
  replace hR := hid hR
  replace hML := hid hML
  replace hMl := hid hMl
  replace hj := hid hj
  replace hA := hid hA
  replace hb0 := hid hb0
  replace hz := hid hz
  replace hjc := hid hjc
  have htc := hid (fun (u : World) (hB : BucketAt u bb g.b) => show Calls Try.prog 29 #[.pointer (some ⟨bb, 0, none⟩), .int .i64 round] u fun e w' => e = .returned (.bool true) ∧ BucketAt w' bb (useB (comeB g.b round)) ∧ Chg (fun x => x = bb) u w' from by have := btake_c hB hA.out.ok round; rw [if_neg ht, show decide ((comeB g.b round).tokens ≠ 0) = true by simpa using ht] at this; exact this)
  have hok := hid (useB_ok (comeB_ok hA.out.ok round) ht)
  replace ht := hid ht
  have hw0 := hid (hw.below hb0.out)
  have hseq := hA.out.s
  obtain ⟨hs0, -⟩ := hseq
  have hls := hid hl
  clear h hw hl
  have hbbn := hid (show w.heap.size ≠ bb from fun e => by have := hML.out bb (.inr (.inr rfl)); have := hMw.out bb this; omega)
  go_enter Try.func13, Try.ntmps13
  go_upto_region 9 with (first | (go_at_call 27; (with_reducible refine (hjc.out).mono ?_); rintro e w1 ⟨rfl, hb1⟩; have hp1 := hp.out.below hb1; have k11 := hp1.cell 11; have kl := hp1.lt; simp only [List.getElem?_cons_zero, List.getElem?_cons_succ] at k11; have hA1 := hid (hA.out.kept hb1.size (fun b _ hlt => hb1.block b hlt)); have hb2 := hid (Below.next hb0.out hb1 hb0.out.size); have hz1 := hid (hz.out.below hb1); have hw1 := hid (hw0.out.below hb1); clear hb1 hp1) | (go_at_call 28; (with_reducible refine (hrc.out _ hA1.out.L).mono ?_); rintro e w2 ⟨rfl, hb3⟩; have hA2 := hid (hA1.out.kept hb3.size (fun b _ hlt => hb3.block b hlt)); have m12 := hA2.out.p.cell 12; have ml := hA2.out.p.lt; simp only [List.getElem?_cons_zero, List.getElem?_cons_succ] at m12; have hz2 := hid (hz1.out.below hb3); have hb4 := hid (Below.next hb2.out hb3 hb2.out.size); have hw2 := hid (hw1.out.below hb3); clear hb3) | (go_at_call 29; (with_reducible refine (htc.out _ hA2.out.B).mono ?_); rintro e w3 ⟨rfl, hB3, hC3⟩; have hz3 := hid (hz2.out.chg hC3 hbbn.out); have hA3 := hid (hA2.out.setB hB3 hok.out hC3); have n13 := hA3.out.p.cell 13; have nf := hA3.out.p.frozen 13; have nl := hA3.out.p.lt; simp only [List.getElem?_cons_zero, List.getElem?_cons_succ] at n13; have hC4 := hid ((Chg.of_below (M := M) hb4.out).trans hC3 (fun i hi => .inl (hML.out i (.inr (.inr hi))))); have hw3 := hid (hw2.out.kept hC3.size (fun b hb hlt => hC3.block b hlt (fun e => hb.1 (by subst e; exact hML.out b (.inr (.inr rfl)))))); clear hB3 hC3))
  have hA4 := hA3.out.setS hs
  have hC5 := hid (hC4.out.setB (u := .int .i64 (g.seq + 1)) (o := 13) (hML.out gb (.inr (.inl rfl))))
  have hz4 := hid (hz3.out.set_ne (a := ⟨gb, 13, none⟩) (fun e => by have := hMw.out gb (hML.out gb (.inr (.inl rfl))); simp at e; omega) (.int .i64 (g.seq + 1)))
  have hw4 := hid (hw3.out.kept (w' := w3.setCell ⟨gb, 13, none⟩ (.int .i64 (g.seq + 1))) (by simp) (fun b hb _ => Below.heap_setCell _ _ _ _ (fun e => hb.1 (by simp at e; subst e; exact hML.out b (.inr (.inl rfl))))))
  simp only at hA4
  generalize w3.setCell ⟨gb, 13, none⟩ (.int .i64 (g.seq + 1)) = W4 at hA4 hC5 hz4 hw4 ⊢
  replace hA4 := hid hA4
  clear k11 kl m12 ml n13 nf nl g0 g1 g2 g3 g4 g5 g6 g7 g8 g9 g10 g11 g12 g13 gl
  clear hjc hrc htc hA1 hA2 hA3 hz hz1 hz2 hz3 hw0 hw1 hw2 hw3 hb0 hb2 hb4 hC4 hA hp
  have hl := hls
  -- REG (*empennage/gate.Gate).Offer|9|offer.9
  refine region_tab 18 [Sp.eq (.slice a ws.length c), ⟨fun v gs u => COut W4.heap.size ws gs u v, fun v gs w gs' w' h hs => h.st hs⟩, Sp.eq (.int .i64 lane), Sp.eq (.int .i64 now), Sp.eq (.int .i64 (cutT now)), Sp.eq (.int .i64 now), Sp.eq (.pointer (some ⟨gb, 0, none⟩)), Sp.eq (.pointer (some ⟨gb, 0, none⟩)), Sp.eq (.pointer (some ⟨gb, 0, none⟩)), Sp.eq (.pointer (some ⟨gb, 8, none⟩)), Sp.eq (.int .i64 g.k.life), Sp.eq (.int .i64 (addT now g.k.life)), Sp.eq (.pointer (some ⟨gb, 0, none⟩)), Sp.eq (.pointer (some ⟨gb, 0, none⟩)), Sp.eq (.pointer (some ⟨gb, 13, none⟩)), Sp.eq (.int .i64 (g.seq + 1)), ⟨fun v gs u => MOut W4.heap.size ⟨ws, lane, cutT now, addT now g.k.life, g.seq + 1⟩ gs u v, fun v gs w gs' w' h hs => h.st hs⟩, Sp.box 37 [.slice none 0 0, .int .i64 0, .int .i64 0, .int .i64 0, .int .i64 0]] (fun _ _ _ _ _ h => h) (by kernel_rfl) (by kernel_rfl) ⟨?_, ?_, ?_, ?_, ?_, ?_, ?_, ?_, ?_, ?_, ?_, ?_, ?_, ?_, ?_, ?_, ?_, ?_, trivial⟩ ?_
  · intro ac gs u hb hg h
    have e3 : ac.tmps[3]?.getD undef = .slice a ws.length c := h.inm 3 rfl rfl
    refine opFree rfl ?_
    exact relMoveT _ rfl e3 (okP hg rfl)
  · intro ac gs u hb hg h
    have e55 : ac.tmps[55]?.getD undef = .slice a ws.length c := h.tm 0 55 rfl rfl
    refine opFree rfl ?_
    refine relCall (f := _) (args := #[.slice a ws.length c]) (by simp [go_sem, e55]; rfl) ?_
    refine (clone_c (hw4.out.below hb) hl.out).mono ?_
    rintro e w' ⟨v, rfl, hi, hb'⟩
    exact ⟨_, rfl, okB hg hb' (COut.of hb hg hi)⟩
  · intro ac gs u hb hg h
    have e2 : ac.tmps[2]?.getD undef = .int .i64 lane := h.inm 2 rfl rfl
    refine opFree rfl ?_
    exact relMoveT _ rfl e2 (okP hg rfl)
  · intro ac gs u hb hg h
    have e4 : ac.tmps[4]?.getD undef = .int .i64 now := h.inm 4 rfl rfl
    refine opFree rfl ?_
    exact relMoveT _ rfl e4 (okP hg rfl)
  · intro ac gs u hb hg h
    have e58 : ac.tmps[58]?.getD undef = .int .i64 now := h.tm 3 58 rfl rfl
    refine opFree rfl ?_
    refine relCall (f := _) (args := #[.int .i64 now]) (by simp [go_sem, e58]; rfl) ?_
    refine (cut_c _ _).mono ?_
    rintro e w' ⟨rfl, rfl⟩
    exact ⟨_, rfl, okP hg rfl⟩
  · intro ac gs u hb hg h
    have e4 : ac.tmps[4]?.getD undef = .int .i64 now := h.inm 4 rfl rfl
    refine opFree rfl ?_
    exact relMoveT _ rfl e4 (okP hg rfl)
  · intro ac gs u hb hg h
    have e0 : ac.tmps[0]?.getD undef = .pointer (some ⟨gb, 0, none⟩) := h.inm 0 rfl rfl
    refine opFree rfl ?_
    exact relMoveT _ rfl e0 (okP hg rfl)
  · intro ac gs u hb hg h
    have e61 : ac.tmps[61]?.getD undef = .pointer (some ⟨gb, 0, none⟩) := h.tm 6 61 rfl rfl
    refine opFree rfl ?_
    exact relRun (v := .pointer (some ⟨gb, 0, none⟩)) (w' := u) (by simp [go_sem, e61]) (okP hg rfl)
  · intro ac gs u hb hg h
    have e62 : ac.tmps[62]?.getD undef = .pointer (some ⟨gb, 0, none⟩) := h.tm 7 62 rfl rfl
    refine opFree rfl ?_
    exact relRun (v := .pointer (some ⟨gb, 0, none⟩)) (w' := u) (by simp [go_sem, e62]) (okP hg rfl)
  · intro ac gs u hb hg h
    have e63 : ac.tmps[63]?.getD undef = .pointer (some ⟨gb, 0, none⟩) := h.tm 8 63 rfl rfl
    refine opFree rfl ?_
    exact relRun (v := .pointer (some ⟨gb, 8, none⟩)) (w' := u) (by simp [go_sem, e63]) (okP hg rfl)
  · intro ac gs u hb hg h
    have e64 : ac.tmps[64]?.getD undef = .pointer (some ⟨gb, 8, none⟩) := h.tm 9 64 rfl rfl
    refine opFree rfl ?_
    exact relRun (v := .int .i64 g.k.life) (w' := u) (by simp [go_sem, e64, ((hA4.out.p.below hb).cell 8)]) (okP hg rfl)
  · intro ac gs u hb hg h
    have e60 : ac.tmps[60]?.getD undef = .int .i64 now := h.tm 5 60 rfl rfl
    have e65 : ac.tmps[65]?.getD undef = .int .i64 g.k.life := h.tm 10 65 rfl rfl
    refine opFree rfl ?_
    refine relCall (f := _) (args := #[.int .i64 now, .int .i64 g.k.life]) (by simp [go_sem, e60, e65]; rfl) ?_
    refine (add_c _ _ _).mono ?_
    rintro e w' ⟨rfl, rfl⟩
    exact ⟨_, rfl, okP hg rfl⟩
  · intro ac gs u hb hg h
    have e0 : ac.tmps[0]?.getD undef = .pointer (some ⟨gb, 0, none⟩) := h.inm 0 rfl rfl
    refine opFree rfl ?_
    exact relMoveT _ rfl e0 (okP hg rfl)
  · intro ac gs u hb hg h
    have e67 : ac.tmps[67]?.getD undef = .pointer (some ⟨gb, 0, none⟩) := h.tm 12 67 rfl rfl
    refine opFree rfl ?_
    exact relRun (v := .pointer (some ⟨gb, 0, none⟩)) (w' := u) (by simp [go_sem, e67]) (okP hg rfl)
  · intro ac gs u hb hg h
    have e68 : ac.tmps[68]?.getD undef = .pointer (some ⟨gb, 0, none⟩) := h.tm 13 68 rfl rfl
    refine opFree rfl ?_
    exact relRun (v := .pointer (some ⟨gb, 13, none⟩)) (w' := u) (by simp [go_sem, e68]) (okP hg rfl)
  · intro ac gs u hb hg h
    have e69 : ac.tmps[69]?.getD undef = .pointer (some ⟨gb, 13, none⟩) := h.tm 14 69 rfl rfl
    refine opFree rfl ?_
    exact relRun (v := .int .i64 (g.seq + 1)) (w' := u) (by simp [go_sem, e69, ((hA4.out.p.below hb).cell 13)]) (okP hg rfl)
  · intro ac gs u hb hg h
    have e56 := h.tm 1 56 rfl rfl
    have e57 : ac.tmps[57]?.getD undef = .int .i64 lane := h.tm 2 57 rfl rfl
    have e59 : ac.tmps[59]?.getD undef = .int .i64 (cutT now) := h.tm 4 59 rfl rfl
    have e66 : ac.tmps[66]?.getD undef = .int .i64 (addT now g.k.life) := h.tm 11 66 rfl rfl
    have e70 : ac.tmps[70]?.getD undef = .int .i64 (g.seq + 1) := h.tm 15 70 rfl rfl
    refine opFree rfl ?_
    obtain ⟨a1, c1, h1, h2⟩ := e56
    exact relRun (v := .agg #[.slice a1 ws.length c1, .int .i64 lane, .int .i64 (cutT now), .int .i64 (addT now g.k.life), .int .i64 (g.seq + 1)]) (w' := u) (by simp [go_sem, h1, e57, e59, e66, e70]) (okP hg ⟨a1, c1, rfl, h2⟩)
  · intro ac gs u hb hg h
    refine opFree rfl ?_
    exact relRun (v := .pointer (some ⟨u.heap.size, 0, none⟩)) (w' := u.alloc (.cells #[.slice none 0 0, .int .i64 0, .int .i64 0, .int .i64 0, .int .i64 0] 37)) (by simp [go_sem]) (okA _ hg ⟨_, rfl, List.mem_cons_self, pts.newA u _ _⟩)
  intro vs gs u hb hg hr
  have r0 : vs 0 = .slice a ws.length c := hr 0 (by decide)
  have r1 := hr 1 (by decide)
  have r2 : vs 2 = .int .i64 lane := hr 2 (by decide)
  have r3 : vs 3 = .int .i64 now := hr 3 (by decide)
  have r4 : vs 4 = .int .i64 (cutT now) := hr 4 (by decide)
  have r5 : vs 5 = .int .i64 now := hr 5 (by decide)
  have r6 : vs 6 = .pointer (some ⟨gb, 0, none⟩) := hr 6 (by decide)
  have r7 : vs 7 = .pointer (some ⟨gb, 0, none⟩) := hr 7 (by decide)
  have r8 : vs 8 = .pointer (some ⟨gb, 0, none⟩) := hr 8 (by decide)
  have r9 : vs 9 = .pointer (some ⟨gb, 8, none⟩) := hr 9 (by decide)
  have r10 : vs 10 = .int .i64 g.k.life := hr 10 (by decide)
  have r11 : vs 11 = .int .i64 (addT now g.k.life) := hr 11 (by decide)
  have r12 : vs 12 = .pointer (some ⟨gb, 0, none⟩) := hr 12 (by decide)
  have r13 : vs 13 = .pointer (some ⟨gb, 0, none⟩) := hr 13 (by decide)
  have r14 : vs 14 = .pointer (some ⟨gb, 13, none⟩) := hr 14 (by decide)
  have r15 : vs 15 = .int .i64 (g.seq + 1) := hr 15 (by decide)
  have r16 := hr 16 (by decide)
  have r17 := hr 17 (by decide)
  obtain ⟨nb, e15, hnb, hbx⟩ := r17
  obtain ⟨a1, c1, e71, hi1⟩ := r16
  simp only at e71
  simp only [List.take_succ_cons, List.take_zero, List.drop_succ_cons, List.drop_zero, putOps, r0, r2, r3, r4, r5, r6, r7, r8, r9, r10, r11, r12, r13, r14, r15, e15, e71]
  simp only [Act.put, List.setIfInBounds_toArray, List.set_cons_succ, List.set_cons_zero]
  clear hr r0 r2 r3 r4 r5 r6 r7 r8 r9 r10 r11 r12 r13 r14 r15 e15 e71
  -- GER
  have hnb0 := (hg nb hnb).1
  have bx0 := hbx.cell 0
  have bx1 := hbx.cell 1
  have bx2 := hbx.cell 2
  have bx3 := hbx.cell 3
  have bx4 := hbx.cell 4
  have bxl := hbx.lt
  have bxf := fun o => hbx.frozen o
  simp only [List.getElem?_cons_zero, List.getElem?_cons_succ] at bx0 bx1 bx2 bx3 bx4
  have hset := ((((hbx.set 0 (.slice a1 ws.length c1)).set 1 (.int .i64 lane)).set 2 (.int .i64 (cutT now))).set 3 (.int .i64 (addT now g.k.life))).set 4 (.int .i64 (g.seq + 1))
  have hbW := ((((hb.setCell (p := ⟨nb, 0, none⟩) hnb0 (.slice a1 ws.length c1)).setCell (p := ⟨nb, 1, none⟩) hnb0 (.int .i64 lane)).setCell (p := ⟨nb, 2, none⟩) hnb0 (.int .i64 (cutT now))).setCell (p := ⟨nb, 3, none⟩) hnb0 (.int .i64 (addT now g.k.life))).setCell (p := ⟨nb, 4, none⟩) hnb0 (.int .i64 (g.seq + 1))
  have hiW := ((((hi1.set (b := nb) (o := 0) (u := .slice a1 ws.length c1) (fun d hd e => hd.2 (e ▸ hnb))).set (b := nb) (o := 1) (u := .int .i64 lane) (fun d hd e => hd.2 (e ▸ hnb))).set (b := nb) (o := 2) (u := .int .i64 (cutT now)) (fun d hd e => hd.2 (e ▸ hnb))).set (b := nb) (o := 3) (u := .int .i64 (addT now g.k.life)) (fun d hd e => hd.2 (e ▸ hnb))).set (b := nb) (o := 4) (u := .int .i64 (g.seq + 1)) (fun d hd e => hd.2 (e ▸ hnb))
  simp only [List.set_cons_zero, List.set_cons_succ] at hset
  clear r1 hbx hi1 hb
  replace hset := hid hset
  replace hbW := hid hbW
  replace hiW := hid hiW
  go_upto_region 10 with fail
  generalize ((((u.setCell ⟨nb, 0, none⟩ (.slice a1 ws.length c1)).setCell ⟨nb, 1, none⟩ (.int .i64 lane)).setCell ⟨nb, 2, none⟩ (.int .i64 (cutT now))).setCell ⟨nb, 3, none⟩ (.int .i64 (addT now g.k.life))).setCell ⟨nb, 4, none⟩ (.int .i64 (g.seq + 1)) = W5 at hset hbW hiW ⊢
  clear bx0 bx1 bx2 bx3 bx4 bxl bxf
  have hA5 := hid (hA4.out.kept hbW.out.size (fun b _ hlt => hbW.out.block b hlt))
  have hB5 := hset
  have hW45 := hid (show ∀ b, ML b → b < W4.heap.size from hA4.out.L.lt)
  have hz5 := hid (hz4.out.below hbW.out)
  have hC6 := hid (hC5.out.below hbW.out)
  have hw4s := hid (show w.heap.size < W4.heap.size from hz4.out.lt)
  clear hA4 hz4 hC5 hw4 hset hg
  -- REG (*empennage/gate.Gate).Offer|10|offer.10
  refine region_tab 5 [Sp.eq (.pointer (some ⟨gb, 0, none⟩)), Sp.eq (.pointer (some ⟨gb, 0, none⟩)), Sp.eq (.pointer (some ⟨gb, 11, none⟩)), Sp.eq (.pointer (some ⟨lb, 0, none⟩)), Sp.eq (.agg #[.slice a1 ws.length c1, .int .i64 lane, .int .i64 (cutT now), .int .i64 (addT now g.k.life), .int .i64 (g.seq + 1)])] (fun _ _ _ _ _ h => h) (by kernel_rfl) (by kernel_rfl) ⟨?_, ?_, ?_, ?_, ?_, trivial⟩ ?_
  · intro ac gs u hb hg h
    have e0 : ac.tmps[0]?.getD undef = .pointer (some ⟨gb, 0, none⟩) := h.inm 0 rfl rfl
    refine opFree rfl ?_
    exact relMoveT _ rfl e0 (okP hg rfl)
  · intro ac gs u hb hg h
    have e72 : ac.tmps[72]?.getD undef = .pointer (some ⟨gb, 0, none⟩) := h.tm 0 72 rfl rfl
    refine opFree rfl ?_
    exact relRun (v := .pointer (some ⟨gb, 0, none⟩)) (w' := u) (by simp [go_sem, e72]) (okP hg rfl)
  · intro ac gs u hb hg h
    have e73 : ac.tmps[73]?.getD undef = .pointer (some ⟨gb, 0, none⟩) := h.tm 1 73 rfl rfl
    refine opFree rfl ?_
    exact relRun (v := .pointer (some ⟨gb, 11, none⟩)) (w' := u) (by simp [go_sem, e73]) (okP hg rfl)
  · intro ac gs u hb hg h
    have e74 : ac.tmps[74]?.getD undef = .pointer (some ⟨gb, 11, none⟩) := h.tm 2 74 rfl rfl
    refine opFree rfl ?_
    exact relRun (v := .pointer (some ⟨lb, 0, none⟩)) (w' := u) (by simp [go_sem, e74, ((hA5.out.p.below hb).cell 11)]) (okP hg rfl)
  · intro ac gs u hb hg h
    have e15 : ac.tmps[15]?.getD undef = .pointer (some ⟨nb, 0, none⟩) := h.inm 15 rfl rfl
    refine opFree rfl ?_
    exact relRun (v := .agg #[.slice a1 ws.length c1, .int .i64 lane, .int .i64 (cutT now), .int .i64 (addT now g.k.life), .int .i64 (g.seq + 1)]) (w' := u) (by simp [go_sem, e15, ((hB5.out.below hb).cell 0), ((hB5.out.below hb).cell 1), ((hB5.out.below hb).cell 2), ((hB5.out.below hb).cell 3), ((hB5.out.below hb).cell 4)]) (okP hg rfl)
  intro vs gs u hb hg hr
  have r0 : vs 0 = .pointer (some ⟨gb, 0, none⟩) := hr 0 (by decide)
  have r1 : vs 1 = .pointer (some ⟨gb, 0, none⟩) := hr 1 (by decide)
  have r2 : vs 2 = .pointer (some ⟨gb, 11, none⟩) := hr 2 (by decide)
  have r3 : vs 3 = .pointer (some ⟨lb, 0, none⟩) := hr 3 (by decide)
  have r4 : vs 4 = .agg #[.slice a1 ws.length c1, .int .i64 lane, .int .i64 (cutT now), .int .i64 (addT now g.k.life), .int .i64 (g.seq + 1)] := hr 4 (by decide)
  simp only [List.take_succ_cons, List.take_zero, List.drop_succ_cons, List.drop_zero, putOps, r0, r1, r2, r3, r4]
  simp only [Act.put, List.setIfInBounds_toArray, List.set_cons_succ, List.set_cons_zero]
  clear hr r0 r1 r2 r3 r4
  -- GER
  have hA7 := hid (hA5.out.kept hb.size (fun b _ hlt => hb.block b hlt))
  have hB7 := hid (hB5.out.below hb)
  have hi7 := hid (hiW.out.below hb)
  have hz7 := hid (hz5.out.below hb)
  have hC7 := hid (hC6.out.below hb)
  have hW4u := hid (show W4.heap.size ≤ u.heap.size from Nat.le_trans hbW.out.size hb.size)
  have his : isT (lnT g.k.lanes) lane = true := by
    cases hi : isT (lnT g.k.lanes) lane with
    | true => rfl
    | false => exact absurd (by unfold roomT; rw [hi]; rfl) hr
  have hput := La.put_any (m := ⟨ws, lane, cutT now, addT now g.k.life, g.seq + 1⟩) hA7.out.L hi7.out hls.out
  have hpe : putE (lnT g.k.lanes) (plT g.k.depth) g.ms ⟨ws, lane, cutT now, addT now g.k.life, g.seq + 1⟩ = 0 := by unfold putE; rw [if_pos his, if_neg hr]
  have hpl : putL (lnT g.k.lanes) (plT g.k.depth) g.ms ⟨ws, lane, cutT now, addT now g.k.life, g.seq + 1⟩ = g.ms ++ [⟨ws, lane, cutT now, addT now g.k.life, g.seq + 1⟩] := by unfold putL; rw [if_pos his, if_neg hr]
  unfold PutPost at hput
  simp only at hput
  rw [hpe, hpl] at hput
  replace hput := hid hput
  replace hr := hid hr
  clear hpe hpl his hA5 hB5 hiW hz5 hC6 hb hg
  go_upto_region 11 with (first | (go_at_call 33; (with_reducible refine (hput.out).mono ?_); rintro e w6 ⟨rfl, hL6, hC8⟩))
  have hA8 := hA7.out.setL hC8 hL6
  have hnM : ¬ ML nb := fun hm => by have := hW45.out nb hm; omega
  have hp8 := hB7.out.chg hC8 hnM
  have hz8 := hz7.out.chg hC8 (fun hm => by have := hMw.out _ (hML.out _ (.inl hm)); omega)
  have hi8 := hid (hi7.out.kept hC8.size (fun b hb hlt => hC8.block b hlt (fun hm => by have := hW45.out b hm; omega)))
  have hne : ∀ b, (grow ML u w6 b ∨ b = gb ∨ b = bb) → (M b ∨ (w.heap.size < b ∧ b < w6.heap.size)) := by
    have hwu := hw4s.out
    have huu := hW4u.out
    intro b hb
    rcases hb with (hb | hb) | hb | hb
    · exact .inl (hML.out b (.inl hb))
    · exact .inr ⟨by have := hb.1; omega, hb.2⟩
    · exact .inl (hML.out b (.inr (.inl hb)))
    · exact .inl (hML.out b (.inr (.inr hb)))
  have hwd := hi7.out.mono (ok' := fun b => (W4.heap.size ≤ b ∧ b ≠ w.heap.size) ∧ ¬ (grow ML u w6 b ∨ b = gb ∨ b = bb)) (fun b hb hlt => ⟨⟨hb.1, by have := hw4s.out; have := hb.1; omega⟩, fun hm => by
    have hbb := hb.1
    have h4 := hw4s.out
    rcases hm with (hm | hm) | hm | hm
    · have := hW45.out b hm; omega
    · have := hm.1; omega
    · have := hMw.out b (hML.out b (.inr (.inl hm))); omega
    · have := hMw.out b (hML.out b (.inr (.inr hm))); omega⟩)
  have hi9 := hid (hwd.kept hC8.size (fun b hb hlt => hC8.block b hlt (fun hm => by have := hW45.out b hm; have := hb.1.1; omega)))
  replace hne := hid hne
  clear hwd
  have hC9 := hid (hC7.out.trans hC8 (fun i hi => .inl (hML.out i (.inl hi))))
  have hus := hid (show u.heap.size ≤ w6.heap.size from hC8.size)
  simp only at hA8
  replace hA8 := hid hA8
  have bx0 := hp8.cell 0
  have bx1 := hp8.cell 1
  have bx2 := hp8.cell 2
  have bx3 := hp8.cell 3
  have bx4 := hp8.cell 4
  have bxl := hp8.lt
  have y0 := hz8.cell 0
  have y1 := hz8.cell 1
  have y2 := hz8.cell 2
  have y3 := hz8.cell 3
  have y4 := hz8.cell 4
  have yl := hz8.lt
  have yf := fun o => hz8.frozen o
  simp only [List.getElem?_cons_zero, List.getElem?_cons_succ] at bx0 bx1 bx2 bx3 bx4 y0 y1 y2 y3 y4
  clear hp8 hz8 hC8 hL6 hA7 hB7 hi7 hz7 hC7 hput
  go_wp2
  refine bodyPost_ret (v := .tuple #[.agg #[.slice a1 ws.length c1, .int .i64 lane, .int .i64 (cutT now), .int .i64 (addT now g.k.life), .int .i64 (g.seq + 1)], .int .i64 0]) (by simp [results, Try.results13, go_sem, y0, y1, y2, y3, y4, yl]) rfl ⟨a1, c1, fun b => grow ML u w6 b ∨ b = gb ∨ b = bb, rfl, ?_, ?_, ?_, ?_⟩
  · have hwu := hw4s.out
    exact (((((hi9.out.set (b := w.heap.size) (fun d hd => hd.1.2)).set (b := w.heap.size) (fun d hd => hd.1.2)).set (b := w.heap.size) (fun d hd => hd.1.2)).set (b := w.heap.size) (fun d hd => hd.1.2)).set (b := w.heap.size) (fun d hd => hd.1.2)).mono (fun b hb _ => ⟨by have := hb.1.1; omega, hb.2⟩)
  · have hne := hne.out
    refine ⟨lb, bb, grow ML u w6, hA8.out.kept (by simp) (fun b hb _ => ?_), fun b hb => hb, fun b hb => ?_⟩
    · have hbw : b ≠ w.heap.size := by
        rcases hne b hb with h1 | h1
        · have := hMw.out b h1; omega
        · omega
      rw [Below.heap_setCell _ _ _ _ hbw, Below.heap_setCell _ _ _ _ hbw, Below.heap_setCell _ _ _ _ hbw, Below.heap_setCell _ _ _ _ hbw, Below.heap_setCell _ _ _ _ hbw]
    · have hwu := hw4s.out
      have huu := hW4u.out
      have hu6 := hus.out
      rcases hne b hb with h1 | h1
      · have := hMw.out b h1; simp; omega
      · simp; omega
  · intro b hb
    have hwu := hw4s.out
    have huu := hW4u.out
    rcases hne.out b hb with h1 | h1
    · exact .inl h1
    · exact .inr ⟨by omega, by simp; omega⟩
  · exact ((((hC9.out.setN (Nat.le_refl _)).setN (Nat.le_refl _)).setN (Nat.le_refl _)).setN (Nat.le_refl _)).setN (Nat.le_refl _)
theorem OfferPostS.post {r : Gte × Msg × Int} {e : Ending} (hMl : ∀ b, M b → b < w.heap.size) (h : OfferPostS w M gb r e w') : OfferPost w M gb r e w' := by
  obtain ⟨a, c, M', h1, h2, ⟨lb, bb, ML, k1, k2, k3⟩, h4, h5⟩ := h
  exact ⟨a, c, h1, h2.mono (fun b hb _ => hb.1), ⟨lb, bb, ML, k1, fun b hb => h4 b (k2 b hb), fun b hb => by
    rcases hb with hb | hb
    · exact Nat.lt_of_lt_of_le (hMl b hb) h5.size
    · exact hb.2⟩, h5⟩
theorem OfferPost.strong {r : Gte × Int} {e : Ending} (h : OfferPost w M gb (r.1, zeroMsg, r.2) e w') : OfferPostS w M gb (r.1, zeroMsg, r.2) e w' := by
  obtain ⟨a, c, h1, h2, h3, h4⟩ := h
  obtain ⟨ao, cap, hv, hcap, -⟩ := h2
  exact ⟨a, c, grow M w w', h1, ⟨ao, cap, hv, hcap, .inl rfl⟩, h3, fun b hb => hb, h4⟩
theorem offer_c (h : GateM w M gb g) {v : Value} {ws : List Int} (hw : IntsAt (fun b => ¬ M b ∧ b < w.heap.size) w v ws) (hl : ws.length ≤ 17592186044416) (hs : g.seq < 1000000) (mode lane now round : Int) :
    Calls Try.prog 13 #[.pointer (some ⟨gb, 0, none⟩), .int .i64 mode, .int .i64 lane, v, .int .i64 now, .int .i64 round] w (OfferPost w M gb (offerT g mode lane ws now round)) := by
  obtain ⟨a, c, rfl⟩ := hw.shape
  by_cases hj : judgeT g.k mode lane ws = 0
  · by_cases hr : roomT (lnT g.k.lanes) (plT g.k.depth) g.ms lane = 0
    · have e : offerT g mode lane ws now round = (g, zeroMsg, 2) := by unfold offerT; rw [if_neg (by simp [hj]), if_pos hr]
      rw [e]; exact offer_full h hw mode lane now round hj hr
    · by_cases ht : (comeB g.b round).tokens = 0
      · have e : offerT g mode lane ws now round = ({ g with b := comeB g.b round }, zeroMsg, 2) := by unfold offerT; rw [if_neg (by simp [hj]), if_neg hr, if_pos ht]
        rw [e]; exact offer_dry h hw mode lane now round hj hr ht
      · have e : offerT g mode lane ws now round = ({ g with ms := g.ms ++ [⟨ws, lane, cutT now, addT now g.k.life, g.seq + 1⟩], b := useB (comeB g.b round), seq := g.seq + 1 }, ⟨ws, lane, cutT now, addT now g.k.life, g.seq + 1⟩, 0) := by unfold offerT; rw [if_neg (by simp [hj]), if_neg hr, if_neg ht]
        rw [e]; exact (offer_yes h hw hl hs mode lane now round hj hr ht).mono (fun _ _ hp => hp.post h.lt)
  · have e : offerT g mode lane ws now round = (g, zeroMsg, judgeT g.k mode lane ws) := by unfold offerT; rw [if_pos hj]
    rw [e]; exact offer_bad h hw mode lane now round hj
theorem offerS_c (h : GateM w M gb g) {v : Value} {ws : List Int} (hw : IntsAt (fun b => ¬ M b ∧ b < w.heap.size) w v ws) (hl : ws.length ≤ 17592186044416) (hs : g.seq < 1000000) (mode lane now round : Int) :
    Calls Try.prog 13 #[.pointer (some ⟨gb, 0, none⟩), .int .i64 mode, .int .i64 lane, v, .int .i64 now, .int .i64 round] w (OfferPostS w M gb (offerT g mode lane ws now round)) := by
  obtain ⟨a, c, rfl⟩ := hw.shape
  by_cases hj : judgeT g.k mode lane ws = 0
  · by_cases hr : roomT (lnT g.k.lanes) (plT g.k.depth) g.ms lane = 0
    · have e : offerT g mode lane ws now round = (g, zeroMsg, 2) := by unfold offerT; rw [if_neg (by simp [hj]), if_pos hr]
      rw [e]; exact (offer_full h hw mode lane now round hj hr).mono (fun _ _ hp => OfferPost.strong (r := (_, _)) hp)
    · by_cases ht : (comeB g.b round).tokens = 0
      · have e : offerT g mode lane ws now round = ({ g with b := comeB g.b round }, zeroMsg, 2) := by unfold offerT; rw [if_neg (by simp [hj]), if_neg hr, if_pos ht]
        rw [e]; exact (offer_dry h hw mode lane now round hj hr ht).mono (fun _ _ hp => OfferPost.strong (r := (_, _)) hp)
      · have e : offerT g mode lane ws now round = ({ g with ms := g.ms ++ [⟨ws, lane, cutT now, addT now g.k.life, g.seq + 1⟩], b := useB (comeB g.b round), seq := g.seq + 1 }, ⟨ws, lane, cutT now, addT now g.k.life, g.seq + 1⟩, 0) := by unfold offerT; rw [if_neg (by simp [hj]), if_neg hr, if_neg ht]
        rw [e]; exact offer_yes h hw hl hs mode lane now round hj hr ht
  · have e : offerT g mode lane ws now round = (g, zeroMsg, judgeT g.k mode lane ws) := by unfold offerT; rw [if_pos hj]
    rw [e]; exact (offer_bad h hw mode lane now round hj).mono (fun _ _ hp => OfferPost.strong (r := (_, _)) hp)
end
end Go.Proofs.Ytggfallodkbgcaa.Gt
