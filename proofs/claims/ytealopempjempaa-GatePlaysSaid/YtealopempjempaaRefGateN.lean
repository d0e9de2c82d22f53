/- DERIVED. The walk over the reference's gate's New. No statement is proved here. -/
import Derived.Test.YtealopempjempaaRefOffer
import Derived.Test.YtealopempjempaaMostW
namespace Go.Proofs.Ytealopempjempaa.Gt
set_option linter.unusedVariables false
set_option linter.unusedSimpArgs false
open Go.RowKit Go.Proofs.Ytealopempjempaa.K Go.Proofs.Ytealopempjempaa.Lb Go.Proofs.Ytealopempjempaa.La Go.Proofs.Ytealopempjempaa.Cf Go.Proofs.Ytealopempjempaa.Rl
theorem rgnew_ret {a : Act} {wf : World} {R : Ending → World → Prop} {nb : Nat} {gc : List Value} (h2 : a.tmps[2]? = some (.pointer (some ⟨nb, 0, none⟩))) (hd : a.defers = []) (hN : pts wf nb gc 60) (hgl : gc.length = 19)
    (hR : R (.returned (.agg gc.toArray)) wf) : bodyPost Try.prog Try.f28 R .ret a wf := by
  have h1 := run_loadVar_mid (P := Try.prog) wf nb 0 60 gc _ (pRange hN) Try.underlying60 rfl (by rw [hgl]; kernel_rfl)
  refine bodyPost_ret (v := .agg gc.toArray) ?_ hd hR
  simp [results, Try.results28, asAddr, h1, h2]
set_option maxHeartbeats 1000000 in
set_option maxRecDepth 100000 in
theorem rgnew_c (w : World) (k : Chan) : Calls Try.prog 28 #[aggC k] w fun e w' => e = .returned (aggG k (.slice none 0 0) (newB k.rate k.cap) 0) ∧ Below w.heap.size w w' := by
  unfold aggC aggG
  go_enter Try.func28, Try.ntmps28
  go_upto_region 1 with fail
  have hK1 := hid ((pts.newA w #[.int .i64 k.kind, .int .i64 k.frm, .int .i64 k.to, .int .i64 k.words, .int .i64 k.refresh, .int .i64 k.lanes, .int .i64 k.depth, .int .i64 k.hold, .int .i64 k.life, .int .i64 k.rate, .int .i64 k.cap] 23).alloc (.cells #[.int .i64 0, .int .i64 0, .int .i64 0, .int .i64 0, .int .i64 0, .int .i64 0, .int .i64 0, .int .i64 0, .int .i64 0, .int .i64 0, .int .i64 0, .int .i64 0, .int .i64 0, .slice none 0 0, .int .i64 0, .int .i64 0, .int .i64 0, .int .i64 0, .int .i64 0] 60))
  have hN1 := hid (show pts ((w.alloc (.cells #[.int .i64 k.kind, .int .i64 k.frm, .int .i64 k.to, .int .i64 k.words, .int .i64 k.refresh, .int .i64 k.lanes, .int .i64 k.depth, .int .i64 k.hold, .int .i64 k.life, .int .i64 k.rate, .int .i64 k.cap] 23)).alloc (.cells #[.int .i64 0, .int .i64 0, .int .i64 0, .int .i64 0, .int .i64 0, .int .i64 0, .int .i64 0, .int .i64 0, .int .i64 0, .int .i64 0, .int .i64 0, .int .i64 0, .int .i64 0, .slice none 0 0, .int .i64 0, .int .i64 0, .int .i64 0, .int .i64 0, .int .i64 0] 60)) (w.heap.size + 1) zeroG 60 from by simpa [zeroG] using pts.newA (w.alloc (.cells #[.int .i64 k.kind, .int .i64 k.frm, .int .i64 k.to, .int .i64 k.words, .int .i64 k.refresh, .int .i64 k.lanes, .int .i64 k.depth, .int .i64 k.hold, .int .i64 k.life, .int .i64 k.rate, .int .i64 k.cap] 23)) zeroG.toArray 60)
  have hB1 := hid (((Below.refl w.heap.size w).alloc (Nat.le_refl _) (.cells #[.int .i64 k.kind, .int .i64 k.frm, .int .i64 k.to, .int .i64 k.words, .int .i64 k.refresh, .int .i64 k.lanes, .int .i64 k.depth, .int .i64 k.hold, .int .i64 k.life, .int .i64 k.rate, .int .i64 k.cap] 23)).alloc (by simp) (.cells #[.int .i64 0, .int .i64 0, .int .i64 0, .int .i64 0, .int .i64 0, .int .i64 0, .int .i64 0, .int .i64 0, .int .i64 0, .int .i64 0, .int .i64 0, .int .i64 0, .int .i64 0, .slice none 0 0, .int .i64 0, .int .i64 0, .int .i64 0, .int .i64 0, .int .i64 0] 60))
  generalize (w.alloc (.cells #[.int .i64 k.kind, .int .i64 k.frm, .int .i64 k.to, .int .i64 k.words, .int .i64 k.refresh, .int .i64 k.lanes, .int .i64 k.depth, .int .i64 k.hold, .int .i64 k.life, .int .i64 k.rate, .int .i64 k.cap] 23)).alloc (.cells #[.int .i64 0, .int .i64 0, .int .i64 0, .int .i64 0, .int .i64 0, .int .i64 0, .int .i64 0, .int .i64 0, .int .i64 0, .int .i64 0, .int .i64 0, .int .i64 0, .int .i64 0, .slice none 0 0, .int .i64 0, .int .i64 0, .int .i64 0, .int .i64 0, .int .i64 0] 60) = W1 at hK1 hN1 hB1 ⊢
  obtain ⟨kb, hkb⟩ : ∃ kb, kb = w.heap.size := ⟨_, rfl⟩
  rw [← hkb] at hK1 hN1 ⊢
  have hk1 : w.heap.size ≤ kb + 1 := by omega
  replace hkb := hid hkb
  -- REG empennage/empennageref12.New|1|rgNew.1
  refine region_tab 12 [Sp.eq (.agg #[.int .i64 k.kind, .int .i64 k.frm, .int .i64 k.to, .int .i64 k.words, .int .i64 k.refresh, .int .i64 k.lanes, .int .i64 k.depth, .int .i64 k.hold, .int .i64 k.life, .int .i64 k.rate, .int .i64 k.cap]), Sp.eq (.pointer (some ⟨kb, 5, none⟩)), Sp.eq (.int .i64 k.lanes), Sp.eq (.pointer (some ⟨kb, 6, none⟩)), Sp.eq (.int .i64 k.depth), Sp.eq (.agg #[.int .i64 (lnT k.lanes), .int .i64 (plT k.depth), .slice none 0 0]), Sp.eq (.pointer (some ⟨kb, 9, none⟩)), Sp.eq (.int .i64 k.rate), Sp.eq (.pointer (some ⟨kb, 10, none⟩)), Sp.eq (.int .i64 k.cap), Sp.eq (.agg #[.int .i64 (newB k.rate k.cap).rate, .int .i64 (newB k.rate k.cap).cap, .int .i64 (newB k.rate k.cap).tokens, .int .i64 (newB k.rate k.cap).round]), Sp.eq (.agg #[.int .i64 k.kind, .int .i64 k.frm, .int .i64 k.to, .int .i64 k.words, .int .i64 k.refresh, .int .i64 k.lanes, .int .i64 k.depth, .int .i64 k.hold, .int .i64 k.life, .int .i64 k.rate, .int .i64 k.cap, .int .i64 (lnT k.lanes), .int .i64 (plT k.depth), .slice none 0 0, .int .i64 (newB k.rate k.cap).rate, .int .i64 (newB k.rate k.cap).cap, .int .i64 (newB k.rate k.cap).tokens, .int .i64 (newB k.rate k.cap).round, .int .i64 0])] (fun _ _ _ _ _ h => h) (by kernel_rfl) (by kernel_rfl) ⟨?_, ?_, ?_, ?_, ?_, ?_, ?_, ?_, ?_, ?_, ?_, ?_, trivial⟩ ?_
  · intro ac gs u hb hg h
    have e1 : ac.tmps[1]?.getD undef = .pointer (some ⟨kb, 0, none⟩) := h.inm 1 rfl rfl
    refine opFree rfl ?_
    exact relRun (v := .agg #[.int .i64 k.kind, .int .i64 k.frm, .int .i64 k.to, .int .i64 k.words, .int .i64 k.refresh, .int .i64 k.lanes, .int .i64 k.depth, .int .i64 k.hold, .int .i64 k.life, .int .i64 k.rate, .int .i64 k.cap]) (w' := u) (by simp [go_sem, e1, ((hK1.out.below hb).cell 0), ((hK1.out.below hb).cell 1), ((hK1.out.below hb).cell 2), ((hK1.out.below hb).cell 3), ((hK1.out.below hb).cell 4), ((hK1.out.below hb).cell 5), ((hK1.out.below hb).cell 6), ((hK1.out.below hb).cell 7), ((hK1.out.below hb).cell 8), ((hK1.out.below hb).cell 9), ((hK1.out.below hb).cell 10)]) (okP hg rfl)
  · intro ac gs u hb hg h
    have e1 : ac.tmps[1]?.getD undef = .pointer (some ⟨kb, 0, none⟩) := h.inm 1 rfl rfl
    refine opFree rfl ?_
    exact relRun (v := .pointer (some ⟨kb, 5, none⟩)) (w' := u) (by simp [go_sem, e1]) (okP hg rfl)
  · intro ac gs u hb hg h
    have e4 : ac.tmps[4]?.getD undef = .pointer (some ⟨kb, 5, none⟩) := h.tm 1 4 rfl rfl
    refine opFree rfl ?_
    exact relRun (v := .int .i64 k.lanes) (w' := u) (by simp [go_sem, e4, ((hK1.out.below hb).cell 5)]) (okP hg rfl)
  · intro ac gs u hb hg h
    have e1 : ac.tmps[1]?.getD undef = .pointer (some ⟨kb, 0, none⟩) := h.inm 1 rfl rfl
    refine opFree rfl ?_
    exact relRun (v := .pointer (some ⟨kb, 6, none⟩)) (w' := u) (by simp [go_sem, e1]) (okP hg rfl)
  · intro ac gs u hb hg h
    have e6 : ac.tmps[6]?.getD undef = .pointer (some ⟨kb, 6, none⟩) := h.tm 3 6 rfl rfl
    refine opFree rfl ?_
    exact relRun (v := .int .i64 k.depth) (w' := u) (by simp [go_sem, e6, ((hK1.out.below hb).cell 6)]) (okP hg rfl)
  · intro ac gs u hb hg h
    have e5 : ac.tmps[5]?.getD undef = .int .i64 k.lanes := h.tm 2 5 rfl rfl
    have e7 : ac.tmps[7]?.getD undef = .int .i64 k.depth := h.tm 4 7 rfl rfl
    refine opFree rfl ?_
    refine relCall (f := _) (args := #[.int .i64 k.lanes, .int .i64 k.depth]) (by simp [go_sem, e5, e7]; rfl) ?_
    refine (Rl.new_c _ _ _).mono ?_
    rintro e w' ⟨rfl, hb'⟩
    exact ⟨_, rfl, okB hg hb' rfl⟩
  · intro ac gs u hb hg h
    have e1 : ac.tmps[1]?.getD undef = .pointer (some ⟨kb, 0, none⟩) := h.inm 1 rfl rfl
    refine opFree rfl ?_
    exact relRun (v := .pointer (some ⟨kb, 9, none⟩)) (w' := u) (by simp [go_sem, e1]) (okP hg rfl)
  · intro ac gs u hb hg h
    have e9 : ac.tmps[9]?.getD undef = .pointer (some ⟨kb, 9, none⟩) := h.tm 6 9 rfl rfl
    refine opFree rfl ?_
    exact relRun (v := .int .i64 k.rate) (w' := u) (by simp [go_sem, e9, ((hK1.out.below hb).cell 9)]) (okP hg rfl)
  · intro ac gs u hb hg h
    have e1 : ac.tmps[1]?.getD undef = .pointer (some ⟨kb, 0, none⟩) := h.inm 1 rfl rfl
    refine opFree rfl ?_
    exact relRun (v := .pointer (some ⟨kb, 10, none⟩)) (w' := u) (by simp [go_sem, e1]) (okP hg rfl)
  · intro ac gs u hb hg h
    have e11 : ac.tmps[11]?.getD undef = .pointer (some ⟨kb, 10, none⟩) := h.tm 8 11 rfl rfl
    refine opFree rfl ?_
    exact relRun (v := .int .i64 k.cap) (w' := u) (by simp [go_sem, e11, ((hK1.out.below hb).cell 10)]) (okP hg rfl)
  · intro ac gs u hb hg h
    have e10 : ac.tmps[10]?.getD undef = .int .i64 k.rate := h.tm 7 10 rfl rfl
    have e12 : ac.tmps[12]?.getD undef = .int .i64 k.cap := h.tm 9 12 rfl rfl
    refine opFree rfl ?_
    refine relCall (f := _) (args := #[.int .i64 k.rate, .int .i64 k.cap]) (by simp [go_sem, e10, e12]; rfl) ?_
    refine (rnew_c _ _ _).mono ?_
    rintro e w' ⟨rfl, hb'⟩
    exact ⟨_, rfl, okB hg hb' rfl⟩
  · intro ac gs u hb hg h
    have e3 : ac.tmps[3]?.getD undef = .agg #[.int .i64 k.kind, .int .i64 k.frm, .int .i64 k.to, .int .i64 k.words, .int .i64 k.refresh, .int .i64 k.lanes, .int .i64 k.depth, .int .i64 k.hold, .int .i64 k.life, .int .i64 k.rate, .int .i64 k.cap] := h.tm 0 3 rfl rfl
    have e8 : ac.tmps[8]?.getD undef = .agg #[.int .i64 (lnT k.lanes), .int .i64 (plT k.depth), .slice none 0 0] := h.tm 5 8 rfl rfl
    have e13 : ac.tmps[13]?.getD undef = .agg #[.int .i64 (newB k.rate k.cap).rate, .int .i64 (newB k.rate k.cap).cap, .int .i64 (newB k.rate k.cap).tokens, .int .i64 (newB k.rate k.cap).round] := h.tm 10 13 rfl rfl
    refine opFree rfl ?_
    exact relRun (v := .agg #[.int .i64 k.kind, .int .i64 k.frm, .int .i64 k.to, .int .i64 k.words, .int .i64 k.refresh, .int .i64 k.lanes, .int .i64 k.depth, .int .i64 k.hold, .int .i64 k.life, .int .i64 k.rate, .int .i64 k.cap, .int .i64 (lnT k.lanes), .int .i64 (plT k.depth), .slice none 0 0, .int .i64 (newB k.rate k.cap).rate, .int .i64 (newB k.rate k.cap).cap, .int .i64 (newB k.rate k.cap).tokens, .int .i64 (newB k.rate k.cap).round, .int .i64 0]) (w' := u) (by simp [go_sem, e3, e8, e13]) (okP hg rfl)
  intro vs gs u hb hg hr
  have r0 : vs 0 = .agg #[.int .i64 k.kind, .int .i64 k.frm, .int .i64 k.to, .int .i64 k.words, .int .i64 k.refresh, .int .i64 k.lanes, .int .i64 k.depth, .int .i64 k.hold, .int .i64 k.life, .int .i64 k.rate, .int .i64 k.cap] := hr 0 (by decide)
  have r1 : vs 1 = .pointer (some ⟨kb, 5, none⟩) := hr 1 (by decide)
  have r2 : vs 2 = .int .i64 k.lanes := hr 2 (by decide)
  have r3 : vs 3 = .pointer (some ⟨kb, 6, none⟩) := hr 3 (by decide)
  have r4 : vs 4 = .int .i64 k.depth := hr 4 (by decide)
  have r5 : vs 5 = .agg #[.int .i64 (lnT k.lanes), .int .i64 (plT k.depth), .slice none 0 0] := hr 5 (by decide)
  have r6 : vs 6 = .pointer (some ⟨kb, 9, none⟩) := hr 6 (by decide)
  have r7 : vs 7 = .int .i64 k.rate := hr 7 (by decide)
  have r8 : vs 8 = .pointer (some ⟨kb, 10, none⟩) := hr 8 (by decide)
  have r9 : vs 9 = .int .i64 k.cap := hr 9 (by decide)
  have r10 : vs 10 = .agg #[.int .i64 (newB k.rate k.cap).rate, .int .i64 (newB k.rate k.cap).cap, .int .i64 (newB k.rate k.cap).tokens, .int .i64 (newB k.rate k.cap).round] := hr 10 (by decide)
  have r11 : vs 11 = .agg #[.int .i64 k.kind, .int .i64 k.frm, .int .i64 k.to, .int .i64 k.words, .int .i64 k.refresh, .int .i64 k.lanes, .int .i64 k.depth, .int .i64 k.hold, .int .i64 k.life, .int .i64 k.rate, .int .i64 k.cap, .int .i64 (lnT k.lanes), .int .i64 (plT k.depth), .slice none 0 0, .int .i64 (newB k.rate k.cap).rate, .int .i64 (newB k.rate k.cap).cap, .int .i64 (newB k.rate k.cap).tokens, .int .i64 (newB k.rate k.cap).round, .int .i64 0] := hr 11 (by decide)
  simp only [List.take_succ_cons, List.take_zero, List.drop_succ_cons, List.drop_zero, putOps, r0, r1, r2, r3, r4, r5, r6, r7, r8, r9, r10, r11]
  simp only [Act.put, List.setIfInBounds_toArray, List.set_cons_succ, List.set_cons_zero]
  clear hr r0 r1 r2 r3 r4 r5 r6 r7 r8 r9 r10 r11
  -- GER
  have hN2 := hN1.out.below hb
  have hBf := hid (setN_below (kb + 1) hk1 [.int .i64 k.kind, .int .i64 k.frm, .int .i64 k.to, .int .i64 k.words, .int .i64 k.refresh, .int .i64 k.lanes, .int .i64 k.depth, .int .i64 k.hold, .int .i64 k.life, .int .i64 k.rate, .int .i64 k.cap, .int .i64 (lnT k.lanes), .int .i64 (plT k.depth), .slice none 0 0, .int .i64 (newB k.rate k.cap).rate, .int .i64 (newB k.rate k.cap).cap, .int .i64 (newB k.rate k.cap).tokens, .int .i64 (newB k.rate k.cap).round, .int .i64 0] 0 _ (Below.next hB1.out hb hB1.out.size))
  have hNf := hid (setN_pts0 hN2 [.int .i64 k.kind, .int .i64 k.frm, .int .i64 k.to, .int .i64 k.words, .int .i64 k.refresh, .int .i64 k.lanes, .int .i64 k.depth, .int .i64 k.hold, .int .i64 k.life, .int .i64 k.rate, .int .i64 k.cap, .int .i64 (lnT k.lanes), .int .i64 (plT k.depth), .slice none 0 0, .int .i64 (newB k.rate k.cap).rate, .int .i64 (newB k.rate k.cap).cap, .int .i64 (newB k.rate k.cap).tokens, .int .i64 (newB k.rate k.cap).round, .int .i64 0] rfl)
  refine lStore (cs := [.int .i64 k.kind, .int .i64 k.frm, .int .i64 k.to, .int .i64 k.words, .int .i64 k.refresh, .int .i64 k.lanes, .int .i64 k.depth, .int .i64 k.hold, .int .i64 k.life, .int .i64 k.rate, .int .i64 k.cap, .int .i64 (lnT k.lanes), .int .i64 (plT k.depth), .slice none 0 0, .int .i64 (newB k.rate k.cap).rate, .int .i64 (newB k.rate k.cap).cap, .int .i64 (newB k.rate k.cap).tokens, .int .i64 (newB k.rate k.cap).round, .int .i64 0]) rfl rfl rfl rfl hN2 rfl (by kernel_rfl) rfl ?_
  go_wp2
  refine rgnew_ret (gc := [.int .i64 k.kind, .int .i64 k.frm, .int .i64 k.to, .int .i64 k.words, .int .i64 k.refresh, .int .i64 k.lanes, .int .i64 k.depth, .int .i64 k.hold, .int .i64 k.life, .int .i64 k.rate, .int .i64 k.cap, .int .i64 (lnT k.lanes), .int .i64 (plT k.depth), .slice none 0 0, .int .i64 (newB k.rate k.cap).rate, .int .i64 (newB k.rate k.cap).cap, .int .i64 (newB k.rate k.cap).tokens, .int .i64 (newB k.rate k.cap).round, .int .i64 0]) rfl rfl hNf.out rfl ⟨rfl, hBf.out⟩
end Go.Proofs.Ytealopempjempaa.Gt
