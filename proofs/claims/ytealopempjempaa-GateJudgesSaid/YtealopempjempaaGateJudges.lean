/- DERIVED. The walk over the statement GateJudges: messages are judged as the document says. -/
import Derived.Test.YtealopempjempaaGateS
import Derived.Test.YtealopempjempaaCfgG
import Derived.Test.YtealopempjempaaRefGate
import Derived.Test.YtealopempjempaaRegR
namespace Go.Proofs.Ytealopempjempaa.Gt
set_option linter.unusedVariables false
set_option linter.unusedSimpArgs false
open Go.RowKit Go.Proofs.Ytealopempjempaa.K Go.Proofs.Ytealopempjempaa.Lb Go.Proofs.Ytealopempjempaa.La Go.Proofs.Ytealopempjempaa.Cf
set_option maxHeartbeats 4000000 in
set_option maxRecDepth 100000 in
theorem gjudges_c {w : World} (k : Chan) {a : Option Addr} {c : Nat} {q : GSt} (hw0 : IntsAt (fun b => b < w.heap.size) w (.slice a q.ws.length c) q.ws) : Calls Try.prog 3 #[aggC k, .agg #[.int .i64 q.k, .int .i64 q.mode, .int .i64 q.lane, .int .i64 q.n, .int .i64 q.round, .slice a q.ws.length c]] w (LivesPost w) := by
  have hb0 := ((Below.refl w.heap.size w).alloc (Nat.le_refl _) (.cells #[.int .i64 k.kind, .int .i64 k.frm, .int .i64 k.to, .int .i64 k.words, .int .i64 k.refresh, .int .i64 k.lanes, .int .i64 k.depth, .int .i64 k.hold, .int .i64 k.life, .int .i64 k.rate, .int .i64 k.cap] 23)).alloc (by simp) (.cells #[.int .i64 q.k, .int .i64 q.mode, .int .i64 q.lane, .int .i64 q.n, .int .i64 q.round, .slice a q.ws.length c] 26)
  have hK0 := hid ((pts.newA w #[.int .i64 k.kind, .int .i64 k.frm, .int .i64 k.to, .int .i64 k.words, .int .i64 k.refresh, .int .i64 k.lanes, .int .i64 k.depth, .int .i64 k.hold, .int .i64 k.life, .int .i64 k.rate, .int .i64 k.cap] 23).alloc (.cells #[.int .i64 q.k, .int .i64 q.mode, .int .i64 q.lane, .int .i64 q.n, .int .i64 q.round, .slice a q.ws.length c] 26))
  have hS0 := pts.newA (w.alloc (.cells #[.int .i64 k.kind, .int .i64 k.frm, .int .i64 k.to, .int .i64 k.words, .int .i64 k.refresh, .int .i64 k.lanes, .int .i64 k.depth, .int .i64 k.hold, .int .i64 k.life, .int .i64 k.rate, .int .i64 k.cap] 23)) #[.int .i64 q.k, .int .i64 q.mode, .int .i64 q.lane, .int .i64 q.n, .int .i64 q.round, .slice a q.ws.length c] 26
  have hS0 : Hid (pts ((w.alloc (.cells #[.int .i64 k.kind, .int .i64 k.frm, .int .i64 k.to, .int .i64 k.words, .int .i64 k.refresh, .int .i64 k.lanes, .int .i64 k.depth, .int .i64 k.hold, .int .i64 k.life, .int .i64 k.rate, .int .i64 k.cap] 23)).alloc (.cells #[.int .i64 q.k, .int .i64 q.mode, .int .i64 q.lane, .int .i64 q.n, .int .i64 q.round, .slice a q.ws.length c] 26)) (w.heap.size + 1) [.int .i64 q.k, .int .i64 q.mode, .int .i64 q.lane, .int .i64 q.n, .int .i64 q.round, .slice a q.ws.length c] 26) := hid (by simpa using hS0)
  have hw1 := hid (hw0.below hb0)
  replace hb0 := hid hb0
  have hgd := hid (fun w => good_c w k)
  clear hw0
  generalize goodK k = kg at hgd
  unfold aggC at *
  obtain ⟨kb, hkb⟩ : ∃ kb, kb = w.heap.size := ⟨_, rfl⟩
  obtain ⟨sb, hsb⟩ : ∃ sb, sb = w.heap.size + 1 := ⟨_, rfl⟩
  go_enter Try.func3, Try.ntmps3
  go_upto_region 3 with (first | (go_at_call 10; (with_reducible refine (lives_c _).mono ?_); rintro e W1 ⟨rfl, hb⟩; have hK1 := hid (hK0.out.below hb); have hS1 := hid (hS0.out.below hb); have hv1 := hid (hw1.out.below hb); have hB1 := hid (Below.next hb0.out hb (by simp; omega)); clear hb))
  rw [← hsb, ← hkb]
  rw [← hkb] at hK1
  rw [← hsb] at hS1
  replace hsb := hid hsb
  replace hkb := hid hkb
  have hL1 := hid (show w.heap.size ≤ W1.heap.size from by have := hS1.out.lt; have := hsb.out; omega)
  have x0 := hK1.out.cell 0
  have x1 := hK1.out.cell 1
  have x2 := hK1.out.cell 2
  have x3 := hK1.out.cell 3
  have x4 := hK1.out.cell 4
  have x5 := hK1.out.cell 5
  have x6 := hK1.out.cell 6
  have x7 := hK1.out.cell 7
  have x8 := hK1.out.cell 8
  have x9 := hK1.out.cell 9
  have x10 := hK1.out.cell 10
  have xl := hK1.out.lt
  simp only [List.getElem?_cons_zero, List.getElem?_cons_succ] at x0 x1 x2 x3 x4 x5 x6 x7 x8 x9 x10
  go_upto_region 4 with (first | (go_at_call 11; (with_reducible refine (hgd.out _).mono ?_); rintro e W2 ⟨rfl, hb⟩; have hbb := hb.alloc hb.size (.cells #[.int .i64 kg.kind, .int .i64 kg.frm, .int .i64 kg.to, .int .i64 kg.words, .int .i64 kg.refresh, .int .i64 kg.lanes, .int .i64 kg.depth, .int .i64 kg.hold, .int .i64 kg.life, .int .i64 kg.rate, .int .i64 kg.cap] 23); have hK := hid (hK1.out.below hbb); have hS := hid (hS1.out.below hbb); have hw := hid (hv1.out.below hbb); have hN := hid (pts.newA W2 #[.int .i64 kg.kind, .int .i64 kg.frm, .int .i64 kg.to, .int .i64 kg.words, .int .i64 kg.refresh, .int .i64 kg.lanes, .int .i64 kg.depth, .int .i64 kg.hold, .int .i64 kg.life, .int .i64 kg.rate, .int .i64 kg.cap] 23); have hB2 := hid (Below.next hB1.out hbb hL1.out); have hL2 := hid (Nat.le_trans hL1.out hbb.size); clear hb hbb))
  clear x0 x1 x2 x3 x4 x5 x6 x7 x8 x9 x10 xl
  generalize W2.alloc (.cells #[.int .i64 kg.kind, .int .i64 kg.frm, .int .i64 kg.to, .int .i64 kg.words, .int .i64 kg.refresh, .int .i64 kg.lanes, .int .i64 kg.depth, .int .i64 kg.hold, .int .i64 kg.life, .int .i64 kg.rate, .int .i64 kg.cap] 23) = W at hK hS hw hN hB2 hL2 ⊢
  obtain ⟨nb, hnb⟩ : ∃ nb, nb = W2.heap.size := ⟨_, rfl⟩
  rw [← hnb] at hN ⊢
  replace hnb := hid hnb
  clear hK0 hS0 hw1 hb0 hK1 hS1 hv1 hB1 hL1 hgd
  -- REG empennage/empennagelaw12.GateJudges|4|GateJudges.4
  refine region_tab 51 [Sp.eq (.agg #[.int .i64 k.kind, .int .i64 k.frm, .int .i64 k.to, .int .i64 k.words, .int .i64 k.refresh, .int .i64 k.lanes, .int .i64 k.depth, .int .i64 k.hold, .int .i64 k.life, .int .i64 k.rate, .int .i64 k.cap]), Sp.eq (.pointer (some ⟨sb, 1, none⟩)), Sp.eq (.int .i64 q.mode), Sp.eq (.pointer (some ⟨sb, 2, none⟩)), Sp.eq (.int .i64 q.lane), Sp.eq (.agg #[.int .i64 q.k, .int .i64 q.mode, .int .i64 q.lane, .int .i64 q.n, .int .i64 q.round, .slice a q.ws.length c]), Sp.eq (.slice a (cutW q.ws).length c), Sp.eq (.int .i64 (judgeT k q.mode q.lane (cutW q.ws))), Sp.eq (.agg #[.int .i64 k.kind, .int .i64 k.frm, .int .i64 k.to, .int .i64 k.words, .int .i64 k.refresh, .int .i64 k.lanes, .int .i64 k.depth, .int .i64 k.hold, .int .i64 k.life, .int .i64 k.rate, .int .i64 k.cap]), Sp.eq (.pointer (some ⟨sb, 1, none⟩)), Sp.eq (.int .i64 q.mode), Sp.eq (.pointer (some ⟨sb, 2, none⟩)), Sp.eq (.int .i64 q.lane), Sp.eq (.agg #[.int .i64 q.k, .int .i64 q.mode, .int .i64 q.lane, .int .i64 q.n, .int .i64 q.round, .slice a q.ws.length c]), Sp.eq (.slice a (cutW q.ws).length c), Sp.eq (.int .i64 (judgeT k q.mode q.lane (cutW q.ws))), Sp.eq (.bool true), Sp.eq (.bool true), Sp.eq (.agg #[.int .i64 kg.kind, .int .i64 kg.frm, .int .i64 kg.to, .int .i64 kg.words, .int .i64 kg.refresh, .int .i64 kg.lanes, .int .i64 kg.depth, .int .i64 kg.hold, .int .i64 kg.life, .int .i64 kg.rate, .int .i64 kg.cap]), Sp.eq (.pointer (some ⟨sb, 1, none⟩)), Sp.eq (.int .i64 q.mode), Sp.eq (.pointer (some ⟨sb, 2, none⟩)), Sp.eq (.int .i64 q.lane), Sp.eq (.agg #[.int .i64 q.k, .int .i64 q.mode, .int .i64 q.lane, .int .i64 q.n, .int .i64 q.round, .slice a q.ws.length c]), Sp.eq (.slice a (cutW q.ws).length c), Sp.eq (.int .i64 (judgeT kg q.mode q.lane (cutW q.ws))), Sp.eq (.agg #[.int .i64 kg.kind, .int .i64 kg.frm, .int .i64 kg.to, .int .i64 kg.words, .int .i64 kg.refresh, .int .i64 kg.lanes, .int .i64 kg.depth, .int .i64 kg.hold, .int .i64 kg.life, .int .i64 kg.rate, .int .i64 kg.cap]), Sp.eq (.pointer (some ⟨sb, 1, none⟩)), Sp.eq (.int .i64 q.mode), Sp.eq (.pointer (some ⟨sb, 2, none⟩)), Sp.eq (.int .i64 q.lane), Sp.eq (.agg #[.int .i64 q.k, .int .i64 q.mode, .int .i64 q.lane, .int .i64 q.n, .int .i64 q.round, .slice a q.ws.length c]), Sp.eq (.slice a (cutW q.ws).length c), Sp.eq (.int .i64 (judgeT kg q.mode q.lane (cutW q.ws))), Sp.eq (.bool true), Sp.eq (.bool true), Sp.eq (.bool true), Sp.eq (.agg #[.int .i64 kg.kind, .int .i64 kg.frm, .int .i64 kg.to, .int .i64 kg.words, .int .i64 kg.refresh, .int .i64 kg.lanes, .int .i64 kg.depth, .int .i64 kg.hold, .int .i64 kg.life, .int .i64 kg.rate, .int .i64 kg.cap]), Sp.eq (.pointer (some ⟨sb, 2, none⟩)), Sp.eq (.int .i64 q.lane), Sp.eq (.agg #[.int .i64 q.k, .int .i64 q.mode, .int .i64 q.lane, .int .i64 q.n, .int .i64 q.round, .slice a q.ws.length c]), Sp.eq (.slice a (cutW q.ws).length c), Sp.eq (.int .i64 (judgeT kg 0 q.lane (cutW q.ws))), Sp.eq (.agg #[.int .i64 kg.kind, .int .i64 kg.frm, .int .i64 kg.to, .int .i64 kg.words, .int .i64 kg.refresh, .int .i64 kg.lanes, .int .i64 kg.depth, .int .i64 kg.hold, .int .i64 kg.life, .int .i64 kg.rate, .int .i64 kg.cap]), Sp.eq (.pointer (some ⟨sb, 2, none⟩)), Sp.eq (.int .i64 q.lane), Sp.eq (.agg #[.int .i64 q.k, .int .i64 q.mode, .int .i64 q.lane, .int .i64 q.n, .int .i64 q.round, .slice a q.ws.length c]), Sp.eq (.slice a (cutW q.ws).length c), Sp.eq (.int .i64 (judgeT kg 0 q.lane (cutW q.ws))), Sp.eq (.bool true), Sp.eq (.bool true)] (fun _ _ _ _ _ h => h) (by kernel_rfl) (by kernel_rfl) ⟨?_, ?_, ?_, ?_, ?_, ?_, ?_, ?_, ?_, ?_, ?_, ?_, ?_, ?_, ?_, ?_, ?_, ?_, ?_, ?_, ?_, ?_, ?_, ?_, ?_, ?_, ?_, ?_, ?_, ?_, ?_, ?_, ?_, ?_, ?_, ?_, ?_, ?_, ?_, ?_, ?_, ?_, ?_, ?_, ?_, ?_, ?_, ?_, ?_, ?_, ?_, trivial⟩ ?_
  · intro ac gs u hb hg h
    have e2 : ac.tmps[2]?.getD undef = .pointer (some ⟨kb, 0, none⟩) := h.inm 2 rfl rfl
    refine opFree rfl ?_
    exact relRun (v := .agg #[.int .i64 k.kind, .int .i64 k.frm, .int .i64 k.to, .int .i64 k.words, .int .i64 k.refresh, .int .i64 k.lanes, .int .i64 k.depth, .int .i64 k.hold, .int .i64 k.life, .int .i64 k.rate, .int .i64 k.cap]) (w' := u) (by simp [go_sem, e2, ((hK.out.below hb).cell 0), ((hK.out.below hb).cell 1), ((hK.out.below hb).cell 2), ((hK.out.below hb).cell 3), ((hK.out.below hb).cell 4), ((hK.out.below hb).cell 5), ((hK.out.below hb).cell 6), ((hK.out.below hb).cell 7), ((hK.out.below hb).cell 8), ((hK.out.below hb).cell 9), ((hK.out.below hb).cell 10)]) (okP hg rfl)
  · intro ac gs u hb hg h
    have e3 : ac.tmps[3]?.getD undef = .pointer (some ⟨sb, 0, none⟩) := h.inm 3 rfl rfl
    refine opFree rfl ?_
    exact relRun (v := .pointer (some ⟨sb, 1, none⟩)) (w' := u) (by simp [go_sem, e3]) (okP hg rfl)
  · intro ac gs u hb hg h
    have e11 : ac.tmps[11]?.getD undef = .pointer (some ⟨sb, 1, none⟩) := h.tm 1 11 rfl rfl
    refine opFree rfl ?_
    exact relRun (v := .int .i64 q.mode) (w' := u) (by simp [go_sem, e11, ((hS.out.below hb).cell 1)]) (okP hg rfl)
  · intro ac gs u hb hg h
    have e3 : ac.tmps[3]?.getD undef = .pointer (some ⟨sb, 0, none⟩) := h.inm 3 rfl rfl
    refine opFree rfl ?_
    exact relRun (v := .pointer (some ⟨sb, 2, none⟩)) (w' := u) (by simp [go_sem, e3]) (okP hg rfl)
  · intro ac gs u hb hg h
    have e13 : ac.tmps[13]?.getD undef = .pointer (some ⟨sb, 2, none⟩) := h.tm 3 13 rfl rfl
    refine opFree rfl ?_
    exact relRun (v := .int .i64 q.lane) (w' := u) (by simp [go_sem, e13, ((hS.out.below hb).cell 2)]) (okP hg rfl)
  · intro ac gs u hb hg h
    have e3 : ac.tmps[3]?.getD undef = .pointer (some ⟨sb, 0, none⟩) := h.inm 3 rfl rfl
    refine opFree rfl ?_
    exact relRun (v := .agg #[.int .i64 q.k, .int .i64 q.mode, .int .i64 q.lane, .int .i64 q.n, .int .i64 q.round, .slice a q.ws.length c]) (w' := u) (by simp [go_sem, e3, ((hS.out.below hb).cell 0), ((hS.out.below hb).cell 1), ((hS.out.below hb).cell 2), ((hS.out.below hb).cell 3), ((hS.out.below hb).cell 4), ((hS.out.below hb).cell 5)]) (okP hg rfl)
  · intro ac gs u hb hg h
    have e15 : ac.tmps[15]?.getD undef = .agg #[.int .i64 q.k, .int .i64 q.mode, .int .i64 q.lane, .int .i64 q.n, .int .i64 q.round, .slice a q.ws.length c] := h.tm 5 15 rfl rfl
    refine opFree rfl ?_
    refine relCall (f := _) (args := #[.agg #[.int .i64 q.k, .int .i64 q.mode, .int .i64 q.lane, .int .i64 q.n, .int .i64 q.round, .slice a q.ws.length c]]) (by simp [go_sem, e15]; rfl) ?_
    refine (words_c q (hw.out.below hb)).mono ?_
    rintro e w' ⟨rfl, hb'⟩
    exact ⟨_, rfl, okB hg hb' rfl⟩
  · intro ac gs u hb hg h
    have e10 : ac.tmps[10]?.getD undef = .agg #[.int .i64 k.kind, .int .i64 k.frm, .int .i64 k.to, .int .i64 k.words, .int .i64 k.refresh, .int .i64 k.lanes, .int .i64 k.depth, .int .i64 k.hold, .int .i64 k.life, .int .i64 k.rate, .int .i64 k.cap] := h.tm 0 10 rfl rfl
    have e12 : ac.tmps[12]?.getD undef = .int .i64 q.mode := h.tm 2 12 rfl rfl
    have e14 : ac.tmps[14]?.getD undef = .int .i64 q.lane := h.tm 4 14 rfl rfl
    have e16 : ac.tmps[16]?.getD undef = .slice a (cutW q.ws).length c := h.tm 6 16 rfl rfl
    refine opFree rfl ?_
    refine relCall (f := _) (args := #[.agg #[.int .i64 k.kind, .int .i64 k.frm, .int .i64 k.to, .int .i64 k.words, .int .i64 k.refresh, .int .i64 k.lanes, .int .i64 k.depth, .int .i64 k.hold, .int .i64 k.life, .int .i64 k.rate, .int .i64 k.cap], .int .i64 q.mode, .int .i64 q.lane, .slice a (cutW q.ws).length c]) (by simp [go_sem, e10, e12, e14, e16]; rfl) ?_
    refine (judge_c k q.mode q.lane (ws := cutW q.ws) ((hw.out.below hb).cut 8)).mono ?_
    rintro e w' ⟨rfl, hb'⟩
    exact ⟨_, rfl, okB hg hb' rfl⟩
  · intro ac gs u hb hg h
    have e2 : ac.tmps[2]?.getD undef = .pointer (some ⟨kb, 0, none⟩) := h.inm 2 rfl rfl
    refine opFree rfl ?_
    exact relRun (v := .agg #[.int .i64 k.kind, .int .i64 k.frm, .int .i64 k.to, .int .i64 k.words, .int .i64 k.refresh, .int .i64 k.lanes, .int .i64 k.depth, .int .i64 k.hold, .int .i64 k.life, .int .i64 k.rate, .int .i64 k.cap]) (w' := u) (by simp [go_sem, e2, ((hK.out.below hb).cell 0), ((hK.out.below hb).cell 1), ((hK.out.below hb).cell 2), ((hK.out.below hb).cell 3), ((hK.out.below hb).cell 4), ((hK.out.below hb).cell 5), ((hK.out.below hb).cell 6), ((hK.out.below hb).cell 7), ((hK.out.below hb).cell 8), ((hK.out.below hb).cell 9), ((hK.out.below hb).cell 10)]) (okP hg rfl)
  · intro ac gs u hb hg h
    have e3 : ac.tmps[3]?.getD undef = .pointer (some ⟨sb, 0, none⟩) := h.inm 3 rfl rfl
    refine opFree rfl ?_
    exact relRun (v := .pointer (some ⟨sb, 1, none⟩)) (w' := u) (by simp [go_sem, e3]) (okP hg rfl)
  · intro ac gs u hb hg h
    have e19 : ac.tmps[19]?.getD undef = .pointer (some ⟨sb, 1, none⟩) := h.tm 9 19 rfl rfl
    refine opFree rfl ?_
    exact relRun (v := .int .i64 q.mode) (w' := u) (by simp [go_sem, e19, ((hS.out.below hb).cell 1)]) (okP hg rfl)
  · intro ac gs u hb hg h
    have e3 : ac.tmps[3]?.getD undef = .pointer (some ⟨sb, 0, none⟩) := h.inm 3 rfl rfl
    refine opFree rfl ?_
    exact relRun (v := .pointer (some ⟨sb, 2, none⟩)) (w' := u) (by simp [go_sem, e3]) (okP hg rfl)
  · intro ac gs u hb hg h
    have e21 : ac.tmps[21]?.getD undef = .pointer (some ⟨sb, 2, none⟩) := h.tm 11 21 rfl rfl
    refine opFree rfl ?_
    exact relRun (v := .int .i64 q.lane) (w' := u) (by simp [go_sem, e21, ((hS.out.below hb).cell 2)]) (okP hg rfl)
  · intro ac gs u hb hg h
    have e3 : ac.tmps[3]?.getD undef = .pointer (some ⟨sb, 0, none⟩) := h.inm 3 rfl rfl
    refine opFree rfl ?_
    exact relRun (v := .agg #[.int .i64 q.k, .int .i64 q.mode, .int .i64 q.lane, .int .i64 q.n, .int .i64 q.round, .slice a q.ws.length c]) (w' := u) (by simp [go_sem, e3, ((hS.out.below hb).cell 0), ((hS.out.below hb).cell 1), ((hS.out.below hb).cell 2), ((hS.out.below hb).cell 3), ((hS.out.below hb).cell 4), ((hS.out.below hb).cell 5)]) (okP hg rfl)
  · intro ac gs u hb hg h
    have e23 : ac.tmps[23]?.getD undef = .agg #[.int .i64 q.k, .int .i64 q.mode, .int .i64 q.lane, .int .i64 q.n, .int .i64 q.round, .slice a q.ws.length c] := h.tm 13 23 rfl rfl
    refine opFree rfl ?_
    refine relCall (f := _) (args := #[.agg #[.int .i64 q.k, .int .i64 q.mode, .int .i64 q.lane, .int .i64 q.n, .int .i64 q.round, .slice a q.ws.length c]]) (by simp [go_sem, e23]; rfl) ?_
    refine (words_c q (hw.out.below hb)).mono ?_
    rintro e w' ⟨rfl, hb'⟩
    exact ⟨_, rfl, okB hg hb' rfl⟩
  · intro ac gs u hb hg h
    have e18 : ac.tmps[18]?.getD undef = .agg #[.int .i64 k.kind, .int .i64 k.frm, .int .i64 k.to, .int .i64 k.words, .int .i64 k.refresh, .int .i64 k.lanes, .int .i64 k.depth, .int .i64 k.hold, .int .i64 k.life, .int .i64 k.rate, .int .i64 k.cap] := h.tm 8 18 rfl rfl
    have e20 : ac.tmps[20]?.getD undef = .int .i64 q.mode := h.tm 10 20 rfl rfl
    have e22 : ac.tmps[22]?.getD undef = .int .i64 q.lane := h.tm 12 22 rfl rfl
    have e24 : ac.tmps[24]?.getD undef = .slice a (cutW q.ws).length c := h.tm 14 24 rfl rfl
    refine opFree rfl ?_
    refine relCall (f := _) (args := #[.agg #[.int .i64 k.kind, .int .i64 k.frm, .int .i64 k.to, .int .i64 k.words, .int .i64 k.refresh, .int .i64 k.lanes, .int .i64 k.depth, .int .i64 k.hold, .int .i64 k.life, .int .i64 k.rate, .int .i64 k.cap], .int .i64 q.mode, .int .i64 q.lane, .slice a (cutW q.ws).length c]) (by simp [go_sem, e18, e20, e22, e24]; rfl) ?_
    refine (rjudge_c k q.mode q.lane (ws := cutW q.ws) ((hw.out.below hb).cut 8)).mono ?_
    rintro e w' ⟨rfl, hb'⟩
    exact ⟨_, rfl, okB hg hb' rfl⟩
  · intro ac gs u hb hg h
    have e17 : ac.tmps[17]?.getD undef = .int .i64 (judgeT k q.mode q.lane (cutW q.ws)) := h.tm 7 17 rfl rfl
    have e25 : ac.tmps[25]?.getD undef = .int .i64 (judgeT k q.mode q.lane (cutW q.ws)) := h.tm 15 25 rfl rfl
    refine opFree rfl ?_
    exact relRun (v := .bool true) (w' := u) (by simp [go_sem, e17, e25]) (okP hg rfl)
  · intro ac gs u hb hg h
    have e26 : ac.tmps[26]?.getD undef = .bool true := h.tm 16 26 rfl rfl
    refine opFree rfl ?_
    exact relMoveT _ rfl e26 (okP hg rfl)
  · intro ac gs u hb hg h
    have e27 : ac.tmps[27]?.getD undef = .bool true := h.tm 17 27 rfl rfl
    have e5 : ac.tmps[5]?.getD undef = .pointer (some ⟨nb, 0, none⟩) := h.inm 5 rfl rfl
    refine opWant 17 27 rfl rfl e27 ?_
    exact relRun (v := .agg #[.int .i64 kg.kind, .int .i64 kg.frm, .int .i64 kg.to, .int .i64 kg.words, .int .i64 kg.refresh, .int .i64 kg.lanes, .int .i64 kg.depth, .int .i64 kg.hold, .int .i64 kg.life, .int .i64 kg.rate, .int .i64 kg.cap]) (w' := u) (by simp [go_sem, e27, e5, ((hN.out.below hb).cell 0), ((hN.out.below hb).cell 1), ((hN.out.below hb).cell 2), ((hN.out.below hb).cell 3), ((hN.out.below hb).cell 4), ((hN.out.below hb).cell 5), ((hN.out.below hb).cell 6), ((hN.out.below hb).cell 7), ((hN.out.below hb).cell 8), ((hN.out.below hb).cell 9), ((hN.out.below hb).cell 10)]) (okP hg rfl)
  · intro ac gs u hb hg h
    have e27 : ac.tmps[27]?.getD undef = .bool true := h.tm 17 27 rfl rfl
    have e3 : ac.tmps[3]?.getD undef = .pointer (some ⟨sb, 0, none⟩) := h.inm 3 rfl rfl
    refine opWant 17 27 rfl rfl e27 ?_
    exact relRun (v := .pointer (some ⟨sb, 1, none⟩)) (w' := u) (by simp [go_sem, e27, e3]) (okP hg rfl)
  · intro ac gs u hb hg h
    have e27 : ac.tmps[27]?.getD undef = .bool true := h.tm 17 27 rfl rfl
    have e29 : ac.tmps[29]?.getD undef = .pointer (some ⟨sb, 1, none⟩) := h.tm 19 29 rfl rfl
    refine opWant 17 27 rfl rfl e27 ?_
    exact relRun (v := .int .i64 q.mode) (w' := u) (by simp [go_sem, e27, e29, ((hS.out.below hb).cell 1)]) (okP hg rfl)
  · intro ac gs u hb hg h
    have e27 : ac.tmps[27]?.getD undef = .bool true := h.tm 17 27 rfl rfl
    have e3 : ac.tmps[3]?.getD undef = .pointer (some ⟨sb, 0, none⟩) := h.inm 3 rfl rfl
    refine opWant 17 27 rfl rfl e27 ?_
    exact relRun (v := .pointer (some ⟨sb, 2, none⟩)) (w' := u) (by simp [go_sem, e27, e3]) (okP hg rfl)
  · intro ac gs u hb hg h
    have e27 : ac.tmps[27]?.getD undef = .bool true := h.tm 17 27 rfl rfl
    have e31 : ac.tmps[31]?.getD undef = .pointer (some ⟨sb, 2, none⟩) := h.tm 21 31 rfl rfl
    refine opWant 17 27 rfl rfl e27 ?_
    exact relRun (v := .int .i64 q.lane) (w' := u) (by simp [go_sem, e27, e31, ((hS.out.below hb).cell 2)]) (okP hg rfl)
  · intro ac gs u hb hg h
    have e27 : ac.tmps[27]?.getD undef = .bool true := h.tm 17 27 rfl rfl
    have e3 : ac.tmps[3]?.getD undef = .pointer (some ⟨sb, 0, none⟩) := h.inm 3 rfl rfl
    refine opWant 17 27 rfl rfl e27 ?_
    exact relRun (v := .agg #[.int .i64 q.k, .int .i64 q.mode, .int .i64 q.lane, .int .i64 q.n, .int .i64 q.round, .slice a q.ws.length c]) (w' := u) (by simp [go_sem, e27, e3, ((hS.out.below hb).cell 0), ((hS.out.below hb).cell 1), ((hS.out.below hb).cell 2), ((hS.out.below hb).cell 3), ((hS.out.below hb).cell 4), ((hS.out.below hb).cell 5)]) (okP hg rfl)
  · intro ac gs u hb hg h
    have e27 : ac.tmps[27]?.getD undef = .bool true := h.tm 17 27 rfl rfl
    have e33 : ac.tmps[33]?.getD undef = .agg #[.int .i64 q.k, .int .i64 q.mode, .int .i64 q.lane, .int .i64 q.n, .int .i64 q.round, .slice a q.ws.length c] := h.tm 23 33 rfl rfl
    refine opWant 17 27 rfl rfl e27 ?_
    refine relCall (f := _) (args := #[.agg #[.int .i64 q.k, .int .i64 q.mode, .int .i64 q.lane, .int .i64 q.n, .int .i64 q.round, .slice a q.ws.length c]]) (by simp [go_sem, e27, e33]; rfl) ?_
    refine (words_c q (hw.out.below hb)).mono ?_
    rintro e w' ⟨rfl, hb'⟩
    exact ⟨_, rfl, okB hg hb' rfl⟩
  · intro ac gs u hb hg h
    have e27 : ac.tmps[27]?.getD undef = .bool true := h.tm 17 27 rfl rfl
    have e28 : ac.tmps[28]?.getD undef = .agg #[.int .i64 kg.kind, .int .i64 kg.frm, .int .i64 kg.to, .int .i64 kg.words, .int .i64 kg.refresh, .int .i64 kg.lanes, .int .i64 kg.depth, .int .i64 kg.hold, .int .i64 kg.life, .int .i64 kg.rate, .int .i64 kg.cap] := h.tm 18 28 rfl rfl
    have e30 : ac.tmps[30]?.getD undef = .int .i64 q.mode := h.tm 20 30 rfl rfl
    have e32 : ac.tmps[32]?.getD undef = .int .i64 q.lane := h.tm 22 32 rfl rfl
    have e34 : ac.tmps[34]?.getD undef = .slice a (cutW q.ws).length c := h.tm 24 34 rfl rfl
    refine opWant 17 27 rfl rfl e27 ?_
    refine relCall (f := _) (args := #[.agg #[.int .i64 kg.kind, .int .i64 kg.frm, .int .i64 kg.to, .int .i64 kg.words, .int .i64 kg.refresh, .int .i64 kg.lanes, .int .i64 kg.depth, .int .i64 kg.hold, .int .i64 kg.life, .int .i64 kg.rate, .int .i64 kg.cap], .int .i64 q.mode, .int .i64 q.lane, .slice a (cutW q.ws).length c]) (by simp [go_sem, e27, e28, e30, e32, e34]; rfl) ?_
    refine (judge_c kg q.mode q.lane (ws := cutW q.ws) ((hw.out.below hb).cut 8)).mono ?_
    rintro e w' ⟨rfl, hb'⟩
    exact ⟨_, rfl, okB hg hb' rfl⟩
  · intro ac gs u hb hg h
    have e27 : ac.tmps[27]?.getD undef = .bool true := h.tm 17 27 rfl rfl
    have e5 : ac.tmps[5]?.getD undef = .pointer (some ⟨nb, 0, none⟩) := h.inm 5 rfl rfl
    refine opWant 17 27 rfl rfl e27 ?_
    exact relRun (v := .agg #[.int .i64 kg.kind, .int .i64 kg.frm, .int .i64 kg.to, .int .i64 kg.words, .int .i64 kg.refresh, .int .i64 kg.lanes, .int .i64 kg.depth, .int .i64 kg.hold, .int .i64 kg.life, .int .i64 kg.rate, .int .i64 kg.cap]) (w' := u) (by simp [go_sem, e27, e5, ((hN.out.below hb).cell 0), ((hN.out.below hb).cell 1), ((hN.out.below hb).cell 2), ((hN.out.below hb).cell 3), ((hN.out.below hb).cell 4), ((hN.out.below hb).cell 5), ((hN.out.below hb).cell 6), ((hN.out.below hb).cell 7), ((hN.out.below hb).cell 8), ((hN.out.below hb).cell 9), ((hN.out.below hb).cell 10)]) (okP hg rfl)
  · intro ac gs u hb hg h
    have e27 : ac.tmps[27]?.getD undef = .bool true := h.tm 17 27 rfl rfl
    have e3 : ac.tmps[3]?.getD undef = .pointer (some ⟨sb, 0, none⟩) := h.inm 3 rfl rfl
    refine opWant 17 27 rfl rfl e27 ?_
    exact relRun (v := .pointer (some ⟨sb, 1, none⟩)) (w' := u) (by simp [go_sem, e27, e3]) (okP hg rfl)
  · intro ac gs u hb hg h
    have e27 : ac.tmps[27]?.getD undef = .bool true := h.tm 17 27 rfl rfl
    have e37 : ac.tmps[37]?.getD undef = .pointer (some ⟨sb, 1, none⟩) := h.tm 27 37 rfl rfl
    refine opWant 17 27 rfl rfl e27 ?_
    exact relRun (v := .int .i64 q.mode) (w' := u) (by simp [go_sem, e27, e37, ((hS.out.below hb).cell 1)]) (okP hg rfl)
  · intro ac gs u hb hg h
    have e27 : ac.tmps[27]?.getD undef = .bool true := h.tm 17 27 rfl rfl
    have e3 : ac.tmps[3]?.getD undef = .pointer (some ⟨sb, 0, none⟩) := h.inm 3 rfl rfl
    refine opWant 17 27 rfl rfl e27 ?_
    exact relRun (v := .pointer (some ⟨sb, 2, none⟩)) (w' := u) (by simp [go_sem, e27, e3]) (okP hg rfl)
  · intro ac gs u hb hg h
    have e27 : ac.tmps[27]?.getD undef = .bool true := h.tm 17 27 rfl rfl
    have e39 : ac.tmps[39]?.getD undef = .pointer (some ⟨sb, 2, none⟩) := h.tm 29 39 rfl rfl
    refine opWant 17 27 rfl rfl e27 ?_
    exact relRun (v := .int .i64 q.lane) (w' := u) (by simp [go_sem, e27, e39, ((hS.out.below hb).cell 2)]) (okP hg rfl)
  · intro ac gs u hb hg h
    have e27 : ac.tmps[27]?.getD undef = .bool true := h.tm 17 27 rfl rfl
    have e3 : ac.tmps[3]?.getD undef = .pointer (some ⟨sb, 0, none⟩) := h.inm 3 rfl rfl
    refine opWant 17 27 rfl rfl e27 ?_
    exact relRun (v := .agg #[.int .i64 q.k, .int .i64 q.mode, .int .i64 q.lane, .int .i64 q.n, .int .i64 q.round, .slice a q.ws.length c]) (w' := u) (by simp [go_sem, e27, e3, ((hS.out.below hb).cell 0), ((hS.out.below hb).cell 1), ((hS.out.below hb).cell 2), ((hS.out.below hb).cell 3), ((hS.out.below hb).cell 4), ((hS.out.below hb).cell 5)]) (okP hg rfl)
  · intro ac gs u hb hg h
    have e27 : ac.tmps[27]?.getD undef = .bool true := h.tm 17 27 rfl rfl
    have e41 : ac.tmps[41]?.getD undef = .agg #[.int .i64 q.k, .int .i64 q.mode, .int .i64 q.lane, .int .i64 q.n, .int .i64 q.round, .slice a q.ws.length c] := h.tm 31 41 rfl rfl
    refine opWant 17 27 rfl rfl e27 ?_
    refine relCall (f := _) (args := #[.agg #[.int .i64 q.k, .int .i64 q.mode, .int .i64 q.lane, .int .i64 q.n, .int .i64 q.round, .slice a q.ws.length c]]) (by simp [go_sem, e27, e41]; rfl) ?_
    refine (words_c q (hw.out.below hb)).mono ?_
    rintro e w' ⟨rfl, hb'⟩
    exact ⟨_, rfl, okB hg hb' rfl⟩
  · intro ac gs u hb hg h
    have e27 : ac.tmps[27]?.getD undef = .bool true := h.tm 17 27 rfl rfl
    have e36 : ac.tmps[36]?.getD undef = .agg #[.int .i64 kg.kind, .int .i64 kg.frm, .int .i64 kg.to, .int .i64 kg.words, .int .i64 kg.refresh, .int .i64 kg.lanes, .int .i64 kg.depth, .int .i64 kg.hold, .int .i64 kg.life, .int .i64 kg.rate, .int .i64 kg.cap] := h.tm 26 36 rfl rfl
    have e38 : ac.tmps[38]?.getD undef = .int .i64 q.mode := h.tm 28 38 rfl rfl
    have e40 : ac.tmps[40]?.getD undef = .int .i64 q.lane := h.tm 30 40 rfl rfl
    have e42 : ac.tmps[42]?.getD undef = .slice a (cutW q.ws).length c := h.tm 32 42 rfl rfl
    refine opWant 17 27 rfl rfl e27 ?_
    refine relCall (f := _) (args := #[.agg #[.int .i64 kg.kind, .int .i64 kg.frm, .int .i64 kg.to, .int .i64 kg.words, .int .i64 kg.refresh, .int .i64 kg.lanes, .int .i64 kg.depth, .int .i64 kg.hold, .int .i64 kg.life, .int .i64 kg.rate, .int .i64 kg.cap], .int .i64 q.mode, .int .i64 q.lane, .slice a (cutW q.ws).length c]) (by simp [go_sem, e27, e36, e38, e40, e42]; rfl) ?_
    refine (rjudge_c kg q.mode q.lane (ws := cutW q.ws) ((hw.out.below hb).cut 8)).mono ?_
    rintro e w' ⟨rfl, hb'⟩
    exact ⟨_, rfl, okB hg hb' rfl⟩
  · intro ac gs u hb hg h
    have e27 : ac.tmps[27]?.getD undef = .bool true := h.tm 17 27 rfl rfl
    have e35 : ac.tmps[35]?.getD undef = .int .i64 (judgeT kg q.mode q.lane (cutW q.ws)) := h.tm 25 35 rfl rfl
    have e43 : ac.tmps[43]?.getD undef = .int .i64 (judgeT kg q.mode q.lane (cutW q.ws)) := h.tm 33 43 rfl rfl
    refine opWant 17 27 rfl rfl e27 ?_
    exact relRun (v := .bool true) (w' := u) (by simp [go_sem, e27, e35, e43]) (okP hg rfl)
  · intro ac gs u hb hg h
    have e27 : ac.tmps[27]?.getD undef = .bool true := h.tm 17 27 rfl rfl
    have e44 : ac.tmps[44]?.getD undef = .bool true := h.tm 34 44 rfl rfl
    refine opFree rfl ?_
    exact relRun (v := .bool true) (w' := u) (by simp [go_sem, e27, e44]) (okP hg rfl)
  · intro ac gs u hb hg h
    have e45 : ac.tmps[45]?.getD undef = .bool true := h.tm 35 45 rfl rfl
    refine opFree rfl ?_
    exact relMoveT _ rfl e45 (okP hg rfl)
  · intro ac gs u hb hg h
    have e46 : ac.tmps[46]?.getD undef = .bool true := h.tm 36 46 rfl rfl
    have e5 : ac.tmps[5]?.getD undef = .pointer (some ⟨nb, 0, none⟩) := h.inm 5 rfl rfl
    refine opWant 36 46 rfl rfl e46 ?_
    exact relRun (v := .agg #[.int .i64 kg.kind, .int .i64 kg.frm, .int .i64 kg.to, .int .i64 kg.words, .int .i64 kg.refresh, .int .i64 kg.lanes, .int .i64 kg.depth, .int .i64 kg.hold, .int .i64 kg.life, .int .i64 kg.rate, .int .i64 kg.cap]) (w' := u) (by simp [go_sem, e46, e5, ((hN.out.below hb).cell 0), ((hN.out.below hb).cell 1), ((hN.out.below hb).cell 2), ((hN.out.below hb).cell 3), ((hN.out.below hb).cell 4), ((hN.out.below hb).cell 5), ((hN.out.below hb).cell 6), ((hN.out.below hb).cell 7), ((hN.out.below hb).cell 8), ((hN.out.below hb).cell 9), ((hN.out.below hb).cell 10)]) (okP hg rfl)
  · intro ac gs u hb hg h
    have e46 : ac.tmps[46]?.getD undef = .bool true := h.tm 36 46 rfl rfl
    have e3 : ac.tmps[3]?.getD undef = .pointer (some ⟨sb, 0, none⟩) := h.inm 3 rfl rfl
    refine opWant 36 46 rfl rfl e46 ?_
    exact relRun (v := .pointer (some ⟨sb, 2, none⟩)) (w' := u) (by simp [go_sem, e46, e3]) (okP hg rfl)
  · intro ac gs u hb hg h
    have e46 : ac.tmps[46]?.getD undef = .bool true := h.tm 36 46 rfl rfl
    have e48 : ac.tmps[48]?.getD undef = .pointer (some ⟨sb, 2, none⟩) := h.tm 38 48 rfl rfl
    refine opWant 36 46 rfl rfl e46 ?_
    exact relRun (v := .int .i64 q.lane) (w' := u) (by simp [go_sem, e46, e48, ((hS.out.below hb).cell 2)]) (okP hg rfl)
  · intro ac gs u hb hg h
    have e46 : ac.tmps[46]?.getD undef = .bool true := h.tm 36 46 rfl rfl
    have e3 : ac.tmps[3]?.getD undef = .pointer (some ⟨sb, 0, none⟩) := h.inm 3 rfl rfl
    refine opWant 36 46 rfl rfl e46 ?_
    exact relRun (v := .agg #[.int .i64 q.k, .int .i64 q.mode, .int .i64 q.lane, .int .i64 q.n, .int .i64 q.round, .slice a q.ws.length c]) (w' := u) (by simp [go_sem, e46, e3, ((hS.out.below hb).cell 0), ((hS.out.below hb).cell 1), ((hS.out.below hb).cell 2), ((hS.out.below hb).cell 3), ((hS.out.below hb).cell 4), ((hS.out.below hb).cell 5)]) (okP hg rfl)
  · intro ac gs u hb hg h
    have e46 : ac.tmps[46]?.getD undef = .bool true := h.tm 36 46 rfl rfl
    have e50 : ac.tmps[50]?.getD undef = .agg #[.int .i64 q.k, .int .i64 q.mode, .int .i64 q.lane, .int .i64 q.n, .int .i64 q.round, .slice a q.ws.length c] := h.tm 40 50 rfl rfl
    refine opWant 36 46 rfl rfl e46 ?_
    refine relCall (f := _) (args := #[.agg #[.int .i64 q.k, .int .i64 q.mode, .int .i64 q.lane, .int .i64 q.n, .int .i64 q.round, .slice a q.ws.length c]]) (by simp [go_sem, e46, e50]; rfl) ?_
    refine (words_c q (hw.out.below hb)).mono ?_
    rintro e w' ⟨rfl, hb'⟩
    exact ⟨_, rfl, okB hg hb' rfl⟩
  · intro ac gs u hb hg h
    have e46 : ac.tmps[46]?.getD undef = .bool true := h.tm 36 46 rfl rfl
    have e47 : ac.tmps[47]?.getD undef = .agg #[.int .i64 kg.kind, .int .i64 kg.frm, .int .i64 kg.to, .int .i64 kg.words, .int .i64 kg.refresh, .int .i64 kg.lanes, .int .i64 kg.depth, .int .i64 kg.hold, .int .i64 kg.life, .int .i64 kg.rate, .int .i64 kg.cap] := h.tm 37 47 rfl rfl
    have e49 : ac.tmps[49]?.getD undef = .int .i64 q.lane := h.tm 39 49 rfl rfl
    have e51 : ac.tmps[51]?.getD undef = .slice a (cutW q.ws).length c := h.tm 41 51 rfl rfl
    refine opWant 36 46 rfl rfl e46 ?_
    refine relCall (f := _) (args := #[.agg #[.int .i64 kg.kind, .int .i64 kg.frm, .int .i64 kg.to, .int .i64 kg.words, .int .i64 kg.refresh, .int .i64 kg.lanes, .int .i64 kg.depth, .int .i64 kg.hold, .int .i64 kg.life, .int .i64 kg.rate, .int .i64 kg.cap], .int .i64 0, .int .i64 q.lane, .slice a (cutW q.ws).length c]) (by simp [go_sem, e46, e47, e49, e51]; rfl) ?_
    refine (judge_c kg 0 q.lane (ws := cutW q.ws) ((hw.out.below hb).cut 8)).mono ?_
    rintro e w' ⟨rfl, hb'⟩
    exact ⟨_, rfl, okB hg hb' rfl⟩
  · intro ac gs u hb hg h
    have e46 : ac.tmps[46]?.getD undef = .bool true := h.tm 36 46 rfl rfl
    have e5 : ac.tmps[5]?.getD undef = .pointer (some ⟨nb, 0, none⟩) := h.inm 5 rfl rfl
    refine opWant 36 46 rfl rfl e46 ?_
    exact relRun (v := .agg #[.int .i64 kg.kind, .int .i64 kg.frm, .int .i64 kg.to, .int .i64 kg.words, .int .i64 kg.refresh, .int .i64 kg.lanes, .int .i64 kg.depth, .int .i64 kg.hold, .int .i64 kg.life, .int .i64 kg.rate, .int .i64 kg.cap]) (w' := u) (by simp [go_sem, e46, e5, ((hN.out.below hb).cell 0), ((hN.out.below hb).cell 1), ((hN.out.below hb).cell 2), ((hN.out.below hb).cell 3), ((hN.out.below hb).cell 4), ((hN.out.below hb).cell 5), ((hN.out.below hb).cell 6), ((hN.out.below hb).cell 7), ((hN.out.below hb).cell 8), ((hN.out.below hb).cell 9), ((hN.out.below hb).cell 10)]) (okP hg rfl)
  · intro ac gs u hb hg h
    have e46 : ac.tmps[46]?.getD undef = .bool true := h.tm 36 46 rfl rfl
    have e3 : ac.tmps[3]?.getD undef = .pointer (some ⟨sb, 0, none⟩) := h.inm 3 rfl rfl
    refine opWant 36 46 rfl rfl e46 ?_
    exact relRun (v := .pointer (some ⟨sb, 2, none⟩)) (w' := u) (by simp [go_sem, e46, e3]) (okP hg rfl)
  · intro ac gs u hb hg h
    have e46 : ac.tmps[46]?.getD undef = .bool true := h.tm 36 46 rfl rfl
    have e54 : ac.tmps[54]?.getD undef = .pointer (some ⟨sb, 2, none⟩) := h.tm 44 54 rfl rfl
    refine opWant 36 46 rfl rfl e46 ?_
    exact relRun (v := .int .i64 q.lane) (w' := u) (by simp [go_sem, e46, e54, ((hS.out.below hb).cell 2)]) (okP hg rfl)
  · intro ac gs u hb hg h
    have e46 : ac.tmps[46]?.getD undef = .bool true := h.tm 36 46 rfl rfl
    have e3 : ac.tmps[3]?.getD undef = .pointer (some ⟨sb, 0, none⟩) := h.inm 3 rfl rfl
    refine opWant 36 46 rfl rfl e46 ?_
    exact relRun (v := .agg #[.int .i64 q.k, .int .i64 q.mode, .int .i64 q.lane, .int .i64 q.n, .int .i64 q.round, .slice a q.ws.length c]) (w' := u) (by simp [go_sem, e46, e3, ((hS.out.below hb).cell 0), ((hS.out.below hb).cell 1), ((hS.out.below hb).cell 2), ((hS.out.below hb).cell 3), ((hS.out.below hb).cell 4), ((hS.out.below hb).cell 5)]) (okP hg rfl)
  · intro ac gs u hb hg h
    have e46 : ac.tmps[46]?.getD undef = .bool true := h.tm 36 46 rfl rfl
    have e56 : ac.tmps[56]?.getD undef = .agg #[.int .i64 q.k, .int .i64 q.mode, .int .i64 q.lane, .int .i64 q.n, .int .i64 q.round, .slice a q.ws.length c] := h.tm 46 56 rfl rfl
    refine opWant 36 46 rfl rfl e46 ?_
    refine relCall (f := _) (args := #[.agg #[.int .i64 q.k, .int .i64 q.mode, .int .i64 q.lane, .int .i64 q.n, .int .i64 q.round, .slice a q.ws.length c]]) (by simp [go_sem, e46, e56]; rfl) ?_
    refine (words_c q (hw.out.below hb)).mono ?_
    rintro e w' ⟨rfl, hb'⟩
    exact ⟨_, rfl, okB hg hb' rfl⟩
  · intro ac gs u hb hg h
    have e46 : ac.tmps[46]?.getD undef = .bool true := h.tm 36 46 rfl rfl
    have e53 : ac.tmps[53]?.getD undef = .agg #[.int .i64 kg.kind, .int .i64 kg.frm, .int .i64 kg.to, .int .i64 kg.words, .int .i64 kg.refresh, .int .i64 kg.lanes, .int .i64 kg.depth, .int .i64 kg.hold, .int .i64 kg.life, .int .i64 kg.rate, .int .i64 kg.cap] := h.tm 43 53 rfl rfl
    have e55 : ac.tmps[55]?.getD undef = .int .i64 q.lane := h.tm 45 55 rfl rfl
    have e57 : ac.tmps[57]?.getD undef = .slice a (cutW q.ws).length c := h.tm 47 57 rfl rfl
    refine opWant 36 46 rfl rfl e46 ?_
    refine relCall (f := _) (args := #[.agg #[.int .i64 kg.kind, .int .i64 kg.frm, .int .i64 kg.to, .int .i64 kg.words, .int .i64 kg.refresh, .int .i64 kg.lanes, .int .i64 kg.depth, .int .i64 kg.hold, .int .i64 kg.life, .int .i64 kg.rate, .int .i64 kg.cap], .int .i64 0, .int .i64 q.lane, .slice a (cutW q.ws).length c]) (by simp [go_sem, e46, e53, e55, e57]; rfl) ?_
    refine (rjudge_c kg 0 q.lane (ws := cutW q.ws) ((hw.out.below hb).cut 8)).mono ?_
    rintro e w' ⟨rfl, hb'⟩
    exact ⟨_, rfl, okB hg hb' rfl⟩
  · intro ac gs u hb hg h
    have e46 : ac.tmps[46]?.getD undef = .bool true := h.tm 36 46 rfl rfl
    have e52 : ac.tmps[52]?.getD undef = .int .i64 (judgeT kg 0 q.lane (cutW q.ws)) := h.tm 42 52 rfl rfl
    have e58 : ac.tmps[58]?.getD undef = .int .i64 (judgeT kg 0 q.lane (cutW q.ws)) := h.tm 48 58 rfl rfl
    refine opWant 36 46 rfl rfl e46 ?_
    exact relRun (v := .bool true) (w' := u) (by simp [go_sem, e46, e52, e58]) (okP hg rfl)
  · intro ac gs u hb hg h
    have e46 : ac.tmps[46]?.getD undef = .bool true := h.tm 36 46 rfl rfl
    have e59 : ac.tmps[59]?.getD undef = .bool true := h.tm 49 59 rfl rfl
    refine opFree rfl ?_
    exact relRun (v := .bool true) (w' := u) (by simp [go_sem, e46, e59]) (okP hg rfl)
  intro vs gs u hb hg hr
  have r0 : vs 0 = .agg #[.int .i64 k.kind, .int .i64 k.frm, .int .i64 k.to, .int .i64 k.words, .int .i64 k.refresh, .int .i64 k.lanes, .int .i64 k.depth, .int .i64 k.hold, .int .i64 k.life, .int .i64 k.rate, .int .i64 k.cap] := hr 0 (by decide)
  have r1 : vs 1 = .pointer (some ⟨sb, 1, none⟩) := hr 1 (by decide)
  have r2 : vs 2 = .int .i64 q.mode := hr 2 (by decide)
  have r3 : vs 3 = .pointer (some ⟨sb, 2, none⟩) := hr 3 (by decide)
  have r4 : vs 4 = .int .i64 q.lane := hr 4 (by decide)
  have r5 : vs 5 = .agg #[.int .i64 q.k, .int .i64 q.mode, .int .i64 q.lane, .int .i64 q.n, .int .i64 q.round, .slice a q.ws.length c] := hr 5 (by decide)
  have r6 : vs 6 = .slice a (cutW q.ws).length c := hr 6 (by decide)
  have r7 : vs 7 = .int .i64 (judgeT k q.mode q.lane (cutW q.ws)) := hr 7 (by decide)
  have r8 : vs 8 = .agg #[.int .i64 k.kind, .int .i64 k.frm, .int .i64 k.to, .int .i64 k.words, .int .i64 k.refresh, .int .i64 k.lanes, .int .i64 k.depth, .int .i64 k.hold, .int .i64 k.life, .int .i64 k.rate, .int .i64 k.cap] := hr 8 (by decide)
  have r9 : vs 9 = .pointer (some ⟨sb, 1, none⟩) := hr 9 (by decide)
  have r10 : vs 10 = .int .i64 q.mode := hr 10 (by decide)
  have r11 : vs 11 = .pointer (some ⟨sb, 2, none⟩) := hr 11 (by decide)
  have r12 : vs 12 = .int .i64 q.lane := hr 12 (by decide)
  have r13 : vs 13 = .agg #[.int .i64 q.k, .int .i64 q.mode, .int .i64 q.lane, .int .i64 q.n, .int .i64 q.round, .slice a q.ws.length c] := hr 13 (by decide)
  have r14 : vs 14 = .slice a (cutW q.ws).length c := hr 14 (by decide)
  have r15 : vs 15 = .int .i64 (judgeT k q.mode q.lane (cutW q.ws)) := hr 15 (by decide)
  have r16 : vs 16 = .bool true := hr 16 (by decide)
  have r17 : vs 17 = .bool true := hr 17 (by decide)
  have r18 : vs 18 = .agg #[.int .i64 kg.kind, .int .i64 kg.frm, .int .i64 kg.to, .int .i64 kg.words, .int .i64 kg.refresh, .int .i64 kg.lanes, .int .i64 kg.depth, .int .i64 kg.hold, .int .i64 kg.life, .int .i64 kg.rate, .int .i64 kg.cap] := hr 18 (by decide)
  have r19 : vs 19 = .pointer (some ⟨sb, 1, none⟩) := hr 19 (by decide)
  have r20 : vs 20 = .int .i64 q.mode := hr 20 (by decide)
  have r21 : vs 21 = .pointer (some ⟨sb, 2, none⟩) := hr 21 (by decide)
  have r22 : vs 22 = .int .i64 q.lane := hr 22 (by decide)
  have r23 : vs 23 = .agg #[.int .i64 q.k, .int .i64 q.mode, .int .i64 q.lane, .int .i64 q.n, .int .i64 q.round, .slice a q.ws.length c] := hr 23 (by decide)
  have r24 : vs 24 = .slice a (cutW q.ws).length c := hr 24 (by decide)
  have r25 : vs 25 = .int .i64 (judgeT kg q.mode q.lane (cutW q.ws)) := hr 25 (by decide)
  have r26 : vs 26 = .agg #[.int .i64 kg.kind, .int .i64 kg.frm, .int .i64 kg.to, .int .i64 kg.words, .int .i64 kg.refresh, .int .i64 kg.lanes, .int .i64 kg.depth, .int .i64 kg.hold, .int .i64 kg.life, .int .i64 kg.rate, .int .i64 kg.cap] := hr 26 (by decide)
  have r27 : vs 27 = .pointer (some ⟨sb, 1, none⟩) := hr 27 (by decide)
  have r28 : vs 28 = .int .i64 q.mode := hr 28 (by decide)
  have r29 : vs 29 = .pointer (some ⟨sb, 2, none⟩) := hr 29 (by decide)
  have r30 : vs 30 = .int .i64 q.lane := hr 30 (by decide)
  have r31 : vs 31 = .agg #[.int .i64 q.k, .int .i64 q.mode, .int .i64 q.lane, .int .i64 q.n, .int .i64 q.round, .slice a q.ws.length c] := hr 31 (by decide)
  have r32 : vs 32 = .slice a (cutW q.ws).length c := hr 32 (by decide)
  have r33 : vs 33 = .int .i64 (judgeT kg q.mode q.lane (cutW q.ws)) := hr 33 (by decide)
  have r34 : vs 34 = .bool true := hr 34 (by decide)
  have r35 : vs 35 = .bool true := hr 35 (by decide)
  have r36 : vs 36 = .bool true := hr 36 (by decide)
  have r37 : vs 37 = .agg #[.int .i64 kg.kind, .int .i64 kg.frm, .int .i64 kg.to, .int .i64 kg.words, .int .i64 kg.refresh, .int .i64 kg.lanes, .int .i64 kg.depth, .int .i64 kg.hold, .int .i64 kg.life, .int .i64 kg.rate, .int .i64 kg.cap] := hr 37 (by decide)
  have r38 : vs 38 = .pointer (some ⟨sb, 2, none⟩) := hr 38 (by decide)
  have r39 : vs 39 = .int .i64 q.lane := hr 39 (by decide)
  have r40 : vs 40 = .agg #[.int .i64 q.k, .int .i64 q.mode, .int .i64 q.lane, .int .i64 q.n, .int .i64 q.round, .slice a q.ws.length c] := hr 40 (by decide)
  have r41 : vs 41 = .slice a (cutW q.ws).length c := hr 41 (by decide)
  have r42 : vs 42 = .int .i64 (judgeT kg 0 q.lane (cutW q.ws)) := hr 42 (by decide)
  have r43 : vs 43 = .agg #[.int .i64 kg.kind, .int .i64 kg.frm, .int .i64 kg.to, .int .i64 kg.words, .int .i64 kg.refresh, .int .i64 kg.lanes, .int .i64 kg.depth, .int .i64 kg.hold, .int .i64 kg.life, .int .i64 kg.rate, .int .i64 kg.cap] := hr 43 (by decide)
  have r44 : vs 44 = .pointer (some ⟨sb, 2, none⟩) := hr 44 (by decide)
  have r45 : vs 45 = .int .i64 q.lane := hr 45 (by decide)
  have r46 : vs 46 = .agg #[.int .i64 q.k, .int .i64 q.mode, .int .i64 q.lane, .int .i64 q.n, .int .i64 q.round, .slice a q.ws.length c] := hr 46 (by decide)
  have r47 : vs 47 = .slice a (cutW q.ws).length c := hr 47 (by decide)
  have r48 : vs 48 = .int .i64 (judgeT kg 0 q.lane (cutW q.ws)) := hr 48 (by decide)
  have r49 : vs 49 = .bool true := hr 49 (by decide)
  have r50 : vs 50 = .bool true := hr 50 (by decide)
  simp only [List.take_succ_cons, List.take_zero, List.drop_succ_cons, List.drop_zero, putOps, r0, r1, r2, r3, r4, r5, r6, r7, r8, r9, r10, r11, r12, r13, r14, r15, r16, r17, r18, r19, r20, r21, r22, r23, r24, r25, r26, r27, r28, r29, r30, r31, r32, r33, r34, r35, r36, r37, r38, r39, r40, r41, r42, r43, r44, r45, r46, r47, r48, r49, r50]
  simp only [Act.put, List.setIfInBounds_toArray, List.set_cons_succ, List.set_cons_zero]
  clear hr r0 r1 r2 r3 r4 r5 r6 r7 r8 r9 r10 r11 r12 r13 r14 r15 r16 r17 r18 r19 r20 r21 r22 r23 r24 r25 r26 r27 r28 r29 r30 r31 r32 r33 r34 r35 r36 r37 r38 r39 r40 r41 r42 r43 r44 r45 r46 r47 r48 r49 r50
  -- GER
  go_wp2
  go_ret
  exact ⟨rfl, Below.next hB2.out hb hL2.out⟩
end Go.Proofs.Ytealopempjempaa.Gt
