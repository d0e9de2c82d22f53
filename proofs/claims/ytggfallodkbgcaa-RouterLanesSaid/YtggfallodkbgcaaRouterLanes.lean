/- DERIVED. The walk over the statement RouterLanes: a step takes no message while an earlier one is there. -/
import Derived.Test.YtggfallodkbgcaaRouterLanesP
import Derived.Test.YtggfallodkbgcaaRegR
namespace Go.Proofs.Ytggfallodkbgcaa.Ro
set_option linter.unusedVariables false
set_option linter.unusedSimpArgs false
open Go.RowKit Go.Proofs.Ytggfallodkbgcaa.K Go.Proofs.Ytggfallodkbgcaa.Lb Go.Proofs.Ytggfallodkbgcaa.La Go.Proofs.Ytggfallodkbgcaa.Cf Go.Proofs.Ytggfallodkbgcaa.Gt Go.Proofs.Ytggfallodkbgcaa.Qu Go.Proofs.Ytggfallodkbgcaa.Wh
set_option maxHeartbeats 4000000 in
set_option maxRecDepth 100000 in
theorem rlanes_c {w : World} (k : Chan) {ao : Option Addr} {n0 c0 : Nat} {qs : List RSt} (hs0 : RStepsAt w (.slice ao n0 c0) qs) : Calls Try.prog 3 #[aggC k, .slice ao n0 c0] w (LivesPost w) := by
  replace hs0 := hid hs0
  have hgd := hid (fun w => good_c w k)
  have hok := hid (goodR_ok k)
  have hb0 := hid ((Below.refl w.heap.size w).alloc (Nat.le_refl _) (.cells #[.int .i64 k.kind, .int .i64 k.frm, .int .i64 k.to, .int .i64 k.words, .int .i64 k.refresh, .int .i64 k.lanes, .int .i64 k.depth, .int .i64 k.hold, .int .i64 k.life, .int .i64 k.rate, .int .i64 k.cap] 23))
  have hK0 := hid (pts.newA w #[.int .i64 k.kind, .int .i64 k.frm, .int .i64 k.to, .int .i64 k.words, .int .i64 k.refresh, .int .i64 k.lanes, .int .i64 k.depth, .int .i64 k.hold, .int .i64 k.life, .int .i64 k.rate, .int .i64 k.cap] 23)
  generalize goodK k = kg at hgd hok
  unfold aggC at *
  go_enter Try.func3, Try.ntmps3
  go_upto_region 3 with (first | (go_at_call 7; (with_reducible refine (lives_c _).mono ?_); rintro e W1 ⟨rfl, hb⟩; have hK1 := hid (hK0.out.below hb); have hB1 := hid (Below.next hb0.out hb hb0.out.size); clear hb))
  obtain ⟨kb, hkb⟩ : ∃ kb, kb = w.heap.size := ⟨_, rfl⟩
  rw [← hkb] at hK1 ⊢
  have hkb0 : w.heap.size ≤ kb := by omega
  replace hkb := hid hkb
  clear hb0 hK0
  have y0 := (hK1.out).cell 0
  have y1 := (hK1.out).cell 1
  have y2 := (hK1.out).cell 2
  have y3 := (hK1.out).cell 3
  have y4 := (hK1.out).cell 4
  have y5 := (hK1.out).cell 5
  have y6 := (hK1.out).cell 6
  have y7 := (hK1.out).cell 7
  have y8 := (hK1.out).cell 8
  have y9 := (hK1.out).cell 9
  have y10 := (hK1.out).cell 10
  have yl := (hK1.out).lt
  have yf := fun o => (hK1.out).frozen o
  simp only [List.getElem?_cons_zero, List.getElem?_cons_succ] at y0 y1 y2 y3 y4 y5 y6 y7 y8 y9 y10
  go_upto_region 4 with (first | (go_at_call 8; (with_reducible refine (hgd.out _).mono ?_); rintro e W2 ⟨rfl, hb⟩; have hK2 := hK1.out.below hb; have hB2 := hid (Below.next hB1.out hb hB1.out.size); clear hb y0 y1 y2 y3 y4 y5 y6 y7 y8 y9 y10 yl yf; have z0 := hK2.cell 0; have z1 := hK2.cell 1; have z2 := hK2.cell 2; have z3 := hK2.cell 3; have z4 := hK2.cell 4; have z5 := hK2.cell 5; have z6 := hK2.cell 6; have z7 := hK2.cell 7; have z8 := hK2.cell 8; have z9 := hK2.cell 9; have z10 := hK2.cell 10; have zl := hK2.lt; have zf := fun o => hK2.frozen o; simp only [List.getElem?_cons_zero, List.getElem?_cons_succ] at z0 z1 z2 z3 z4 z5 z6 z7 z8 z9 z10; replace hK2 := hid hK2))
  have hK3 := hid (setN_pts0 hK2.out [.int .i64 kg.kind, .int .i64 kg.frm, .int .i64 kg.to, .int .i64 kg.words, .int .i64 kg.refresh, .int .i64 kg.lanes, .int .i64 kg.depth, .int .i64 kg.hold, .int .i64 kg.life, .int .i64 kg.rate, .int .i64 kg.cap] rfl)
  have hB3 := hid (setN_below kb hkb0 [.int .i64 kg.kind, .int .i64 kg.frm, .int .i64 kg.to, .int .i64 kg.words, .int .i64 kg.refresh, .int .i64 kg.lanes, .int .i64 kg.depth, .int .i64 kg.hold, .int .i64 kg.life, .int .i64 kg.rate, .int .i64 kg.cap] 0 _ hB2.out)
  change Code.wp _ _ _ _ (setN W2 kb 0 [.int .i64 kg.kind, .int .i64 kg.frm, .int .i64 kg.to, .int .i64 kg.words, .int .i64 kg.refresh, .int .i64 kg.lanes, .int .i64 kg.depth, .int .i64 kg.hold, .int .i64 kg.life, .int .i64 kg.rate, .int .i64 kg.cap])
  clear z0 z1 z2 z3 z4 z5 z6 z7 z8 z9 z10 zl zf
  generalize setN W2 kb 0 [.int .i64 kg.kind, .int .i64 kg.frm, .int .i64 kg.to, .int .i64 kg.words, .int .i64 kg.refresh, .int .i64 kg.lanes, .int .i64 kg.depth, .int .i64 kg.hold, .int .i64 kg.life, .int .i64 kg.rate, .int .i64 kg.cap] = w3 at hK3 hB3 ⊢
  clear hK2 hB2 hK1 hB1 hgd
  have hs3 := hid (show w.heap.size ≤ w3.heap.size from hB3.out.size)
  -- REG empennage/empennagelaw19.RouterLanes|4|Router.4
  refine region_tab 4 [Sp.eq (.agg #[.int .i64 kg.kind, .int .i64 kg.frm, .int .i64 kg.to, .int .i64 kg.words, .int .i64 kg.refresh, .int .i64 kg.lanes, .int .i64 kg.depth, .int .i64 kg.hold, .int .i64 kg.life, .int .i64 kg.rate, .int .i64 kg.cap]), Sp.of (fun v u => ∃ gb, ∃ M : Nat → Prop, v = .pointer (some ⟨gb, 0, none⟩) ∧ GateF u M (fun _ => False) gb ⟨kg, [], newB kg.rate kg.cap, 0⟩ ∧ ∀ b, M b → w3.heap.size ≤ b) (fun v w w' h hb => (let ⟨gb, M, h1, h2, h3⟩ := h; ⟨gb, M, h1, h2.below hb, h3⟩)), Sp.eq (.pointer (some ⟨kb, 7, none⟩)), Sp.eq (.int .i64 kg.hold)] (fun _ _ _ _ _ h => h) (by kernel_rfl) (by kernel_rfl) ⟨?_, ?_, ?_, ?_, trivial⟩ ?_
  · intro ac gs u hb hg h
    have e2 : ac.tmps[2]?.getD undef = .pointer (some ⟨kb, 0, none⟩) := h.inm 2 rfl rfl
    refine opFree rfl ?_
    exact relRun (v := .agg #[.int .i64 kg.kind, .int .i64 kg.frm, .int .i64 kg.to, .int .i64 kg.words, .int .i64 kg.refresh, .int .i64 kg.lanes, .int .i64 kg.depth, .int .i64 kg.hold, .int .i64 kg.life, .int .i64 kg.rate, .int .i64 kg.cap]) (w' := u) (by simp [go_sem, e2, ((hK3.out.below hb).cell 0), ((hK3.out.below hb).cell 1), ((hK3.out.below hb).cell 2), ((hK3.out.below hb).cell 3), ((hK3.out.below hb).cell 4), ((hK3.out.below hb).cell 5), ((hK3.out.below hb).cell 6), ((hK3.out.below hb).cell 7), ((hK3.out.below hb).cell 8), ((hK3.out.below hb).cell 9), ((hK3.out.below hb).cell 10)]) (okP hg rfl)
  · intro ac gs u hb hg h
    have e18 : ac.tmps[18]?.getD undef = .agg #[.int .i64 kg.kind, .int .i64 kg.frm, .int .i64 kg.to, .int .i64 kg.words, .int .i64 kg.refresh, .int .i64 kg.lanes, .int .i64 kg.depth, .int .i64 kg.hold, .int .i64 kg.life, .int .i64 kg.rate, .int .i64 kg.cap] := h.tm 0 18 rfl rfl
    refine opFree rfl ?_
    refine relCall (f := _) (args := #[.agg #[.int .i64 kg.kind, .int .i64 kg.frm, .int .i64 kg.to, .int .i64 kg.words, .int .i64 kg.refresh, .int .i64 kg.lanes, .int .i64 kg.depth, .int .i64 kg.hold, .int .i64 kg.life, .int .i64 kg.rate, .int .i64 kg.cap]]) (by simp [go_sem, e18]; rfl) ?_
    refine (gnew_f _ kg).mono ?_
    rintro e w' ⟨gb, M, rfl, hG, hge, hb'⟩
    exact ⟨_, rfl, okB hg hb' ⟨gb, M, rfl, hG, fun b h => Nat.le_trans hb.size (hge b h)⟩⟩
  · intro ac gs u hb hg h
    have e2 : ac.tmps[2]?.getD undef = .pointer (some ⟨kb, 0, none⟩) := h.inm 2 rfl rfl
    refine opFree rfl ?_
    exact relRun (v := .pointer (some ⟨kb, 7, none⟩)) (w' := u) (by simp [go_sem, e2]) (okP hg rfl)
  · intro ac gs u hb hg h
    have e20 : ac.tmps[20]?.getD undef = .pointer (some ⟨kb, 7, none⟩) := h.tm 2 20 rfl rfl
    refine opFree rfl ?_
    exact relRun (v := .int .i64 kg.hold) (w' := u) (by simp [go_sem, e20, ((hK3.out.below hb).cell 7)]) (okP hg rfl)
  intro vs gs u hb hg hr
  have r0 : vs 0 = .agg #[.int .i64 kg.kind, .int .i64 kg.frm, .int .i64 kg.to, .int .i64 kg.words, .int .i64 kg.refresh, .int .i64 kg.lanes, .int .i64 kg.depth, .int .i64 kg.hold, .int .i64 kg.life, .int .i64 kg.rate, .int .i64 kg.cap] := hr 0 (by decide)
  have r1 := hr 1 (by decide)
  have r2 : vs 2 = .pointer (some ⟨kb, 7, none⟩) := hr 2 (by decide)
  have r3 : vs 3 = .int .i64 kg.hold := hr 3 (by decide)
  simp only [List.take_succ_cons, List.take_zero, List.drop_succ_cons, List.drop_zero, putOps, r0, r2, r3]
  simp only [Act.put, List.setIfInBounds_toArray, List.set_cons_succ, List.set_cons_zero]
  clear hr r0 r2 r3
  -- GER
  obtain ⟨gb, M4, e19, hG4, hge4⟩ := r1
  rw [e19]
  replace hG4 := hid hG4
  clear e19
  have hB4 := hid (Below.next hB3.out hb hB3.out.size)
  have hsz4 := hid (show w3.heap.size ≤ u.heap.size from hb.size)
  replace hge4 := hid hge4
  have hBw3 := hid hb
  clear hb hg
  go_upto_region 5 with (first | (go_at_call 10; (with_reducible refine (new_x _ kg.hold).mono ?_); rintro e w5 ⟨pb, Mp, rfl, hP, hge, hb⟩; have hR5 := hid (RS.new hG4.out hb hP hge); have hB5 := hid (Below.next hB4.out hb hB4.out.size); have hW5 := hid (show Wd w3.heap.size w3 w5 (fun b => M4 b ∨ Mp b) from ⟨by have := hBw3.out; exact Below.next this hb hsz4.out, fun b h => h.elim (hge4.out b) (fun h => Nat.le_trans hsz4.out (hge b h)), fun b h => hR5.out.lt b (.inl h), Nat.le_trans hsz4.out hb.size⟩); clear hP hge hb))
  generalize (fun b => M4 b ∨ Mp b) = M5 at hR5 hW5
  clear hG4 hge4 hB4
  go_wp2_with (first | (go_at_call 11; (with_reducible refine (rearly_c (w0 := w) _ hs0.out).mono ?_); rintro e w' ⟨v', rfl, hv', rfl⟩; have hl80 := hid (show (qs.take 80).length ≤ 80 by simp; omega); generalize qs.take 80 = ys at hv' hl80; obtain ⟨a3, c3, rfl⟩ := hv'.shape; replace hv' := hid hv'))
  go_loopg [8, 7, 9, 10, 11, 12, 13] ys.length (fun gg si sn s9 s10 s11 s12 s13 wr => ∃ (i : Nat) (now : Int) (g : Gte) (p : Prt) (M W : Nat → Prop), i ≤ ys.length ∧ gg = ys.length - i ∧ si = .int .i64 i ∧ sn = .int .i64 now ∧ 0 ≤ now ∧ now ≤ 2 * i ∧ LRow g ∧ g.seq ≤ i ∧ RS wr M W gb pb g p ∧ Wd w3.heap.size w3 wr M)
  case atStart => exact ⟨0, 0, _, _, M5, _, by omega, rfl, rfl, rfl, by omega, by simp, LRow.new _ _, by simp, hR5.out, hW5.out⟩
  case round =>
    clear hR5 hW5
    obtain ⟨i, now, g, p, M, W, hi, hgg, rfl, rfl, hn0, hn1, hLR, hsq, hR, hW⟩ := hrel
    have hBw := hid (hB3.out.trans (hW.below.mono hs3.out))
    have hend := hid (show LivesPost w (.returned (.bool true)) wr from ⟨rfl, hBw.out⟩)
    by_cases hlt : i < ys.length
    · obtain ⟨xg, xo, rfl, xl, c0, c1, c2, c3'⟩ := hv'.out.atC hBw.out hlt
      have hi80 : i < 80 := Nat.lt_of_lt_of_le hlt hl80.out
      have d1 : decide ((i : Int) < ys.length) = true := decide_eq_true (by omega)
      obtain ⟨d, hd0, hd1, ed⟩ := tick_of (x := ys[i].ticks) (r := now) (m := 3) (.inl rfl) ⟨hn0, by omega⟩
      generalize ys[i] = q at c0 c1 c2 c3' ed
      replace ed := hid ed
      have hbb := (Below.refl wr.heap.size wr).alloc (Nat.le_refl _) (.cells #[.int .i64 q.k, .int .i64 q.lane, .int .i64 q.n, .int .i64 q.ticks] 33)
      have hP := hid (pts.newA wr #[.int .i64 q.k, .int .i64 q.lane, .int .i64 q.n, .int .i64 q.ticks] 33)
      have hR1 := hid (hR.below hbb)
      have hW1 := hid (hW.next hbb)
      have hnb := hid (show ¬ M wr.heap.size from fun hm => Nat.lt_irrefl _ (hR.lt _ (.inl hm)))
      clear hR hW hbb
      go_upto_region 11 with fail
      generalize wr.alloc (.cells #[.int .i64 q.k, .int .i64 q.lane, .int .i64 q.n, .int .i64 q.ticks] 33) = w5' at hP hR1 hW1 ⊢
      obtain ⟨sb, hsb⟩ : ∃ sb, sb = wr.heap.size := ⟨_, rfl⟩
      rw [← hsb] at hP hnb ⊢
      replace hsb := hid hsb
      clear c0 c1 c2 c3' xl d1
      have p0 := hP.out.cell 0
      have p1 := hP.out.cell 1
      have p2 := hP.out.cell 2
      have p3 := hP.out.cell 3
      have pl := hP.out.lt
      simp only [List.getElem?_cons_zero, List.getElem?_cons_succ] at p0 p1 p2 p3
      go_upto_if 37 with (first | (go_at_call 12; (with_reducible refine (rkind_c _ q).mono ?_); rintro e w6 ⟨rfl, hb⟩; have hR6 := hid (hR1.out.below hb); have hW6 := hid (hW1.out.next hb); have hP6 := hid (hP.out.below hb); clear hb))
      clear p0 p1 p2 p3 pl hR1 hW1 hP
      generalize kindR q.k = κ
      have hLR' := hid hLR
      go_cut [10, 11, 12, 13] from 37 to 105 (fun u10 u11 u12 u13 wx => ∃ (g' : Gte) (p' : Prt) (M' W' : Nat → Prop), LRow g' ∧ g'.seq ≤ i + 1 ∧ RS wx M' W' gb pb g' p' ∧ Wd w3.heap.size w3 wx M' ∧ pts wx sb [.int .i64 q.k, .int .i64 q.lane, .int .i64 q.n, .int .i64 q.ticks] 33)
      case first =>
        have x1 := hP6.out.cell 1
        have xl := hP6.out.lt
        simp only [List.getElem?_cons_zero, List.getElem?_cons_succ] at x1
        by_cases hK : κ < 5
        · have dk : decide (κ < 5) = true := decide_eq_true hK
          have hof := hid (hR6.out.offerLit i 0 q.lane now now (by omega) rfl)
          have hlr := hid (hLR.offer 0 q.lane now now [(i : Int)])
          have hos := hid (offer_seq g 0 q.lane now now [(i : Int)])
          generalize offerT g 0 q.lane [(i : Int)] now now = R at hof hlr hos
          go_upto_block 99 with (first | (go_at_call 13; (with_reducible refine (hof.out).mono ?_); rintro e w7 ⟨a7, c7, M7, W7, rfl, -, hT⟩; have hR7 := hid hT.1; have hW7 := hid (RS.wd hW6.out hT); have hP7 := hid (hP6.out.chg hT.2.2.2.2.2 hnb.out); clear hT))
          go_meet
          case rel => exact ⟨R.1, p, M7, W7, hlr.out, by have := hos.out; omega, hR7.out, hW7.out, hP7.out⟩
        · have dk : decide (κ < 5) = false := decide_eq_false hK
          have hal := hid (show Calls Try.prog 14 #[.pointer (some ⟨gb, 0, none⟩)] w6 (ResR w6 (sortM g.ms)) from by obtain ⟨Mg, hG⟩ := hR6.out.gate; exact gall_c hG.toM)
          have hst : Hid (∀ u : World, RS u M W gb pb g p → Calls Try.prog 15 #[.pointer (some ⟨gb, 0, none⟩), .pointer (some ⟨pb, 0, none⟩), .int .i64 now] u (StepRP u M W gb pb (outT now g.ms) (stepR g p now))) := hid (fun u h => rstep_c h now)
          have hlr := hid (hLR.step p now)
          have hfs := hid (hLR.first p now)
          have hos := hid (step_seq g p now)
          have h24 := hid (show (sortM g.ms).length ≤ 24 by rw [sortM_len]; obtain ⟨Mg, hG⟩ := hR6.out.gate; have := hG.inv.len; omega)
          generalize stepR g p now = R at hst hlr hfs hos
          obtain ⟨g2, p2, kd, who, m⟩ := R
          simp only at hlr hfs hos
          generalize sortM g.ms = S at hal hfs h24
          clear hLR
          go_upto_region 15 with (first | (go_at_call 14; (with_reducible refine (hal.out).mono ?_); rintro e w7 ⟨v, rfl, ⟨ps, hps, hms⟩, hb7⟩; obtain ⟨va, vc, rfl⟩ := hms.shape; have hR7 := hid (hR6.out.below hb7); have hW7 := hid (hW6.out.next hb7); have hP7 := hid (hP6.out.below hb7); have hms7 := hid (hms.mono (ok' := fun b => ¬ M b) (okw' := fun b => ¬ M b) (fun b h _ hm => by have := hR6.out.lt b (.inl hm); omega) (fun b h _ hm => by have := hR6.out.lt b (.inl hm); omega)); clear hms hb7; replace hps := hid hps) | (go_at_call 15; (with_reducible refine (hst.out _ hR7.out).mono ?_); rintro e w8 ⟨lv, lqs, a8, c8, M8, W8, rfl, -, -, ho, -, -, hT⟩; have hT : TurnR w7 M W gb pb g2 p2 M8 W8 w8 := hT; obtain ⟨la, lc, rfl⟩ := K.own_shape ho; have hR8 := hid hT.1; have hW8 := hid (RS.wd hW7.out hT); have hP8 := hid (hP7.out.chg hT.2.2.2.2.2 hnb.out); have hms8 := hid (hms7.out.kept hT.2.2.2.2.2.size (fun b hb hlt => hT.2.2.2.2.2.block b hlt (fun hm => hb.elim (fun h => h hm) (fun h => h hm)))); clear ho hT))
          have hbx := (Below.refl w8.heap.size w8).alloc (Nat.le_refl _) (.cells #[.int .i64 kd, .int .i64 who, .slice a8 m.words.length c8, .int .i64 m.lane, .int .i64 m.stamp, .int .i64 m.late, .int .i64 m.seq, .slice la lqs.length lc] 44)
          have hpx := hid (pts.newA w8 #[.int .i64 kd, .int .i64 who, .slice a8 m.words.length c8, .int .i64 m.lane, .int .i64 m.stamp, .int .i64 m.late, .int .i64 m.seq, .slice la lqs.length lc] 44)
          have hR9 := hid (hR8.out.below hbx)
          have hW9 := hid (hW8.out.next hbx)
          have hP9 := hid (hP8.out.below hbx)
          have hms9 := hid (hms8.out.below hbx)
          clear hbx hR8 hW8 hP8 hms8 hR7 hW7 hP7 hms7 hst hal x1 xl
          generalize w8.alloc (.cells #[.int .i64 kd, .int .i64 who, .slice a8 m.words.length c8, .int .i64 m.lane, .int .i64 m.stamp, .int .i64 m.late, .int .i64 m.seq, .slice la lqs.length lc] 44) = w9 at hpx hR9 hW9 hP9 hms9 ⊢
          obtain ⟨xb, hxb⟩ : ∃ xb, xb = w8.heap.size := ⟨_, rfl⟩
          rw [← hxb] at hpx ⊢
          replace hxb := hid hxb
          have hpl := hid (show ps.length ≤ 24 by have := congrArg List.length hps.out; rw [List.length_map] at this; have := h24.out; omega)
          go_wp2
          go_loopg [12, 13] ps.length (fun g2' sj s13 wz => ∃ j : Nat, j ≤ ps.length ∧ g2' = ps.length - j ∧ sj = .int .i64 j ∧ Below w9.heap.size w9 wz)
          case atStart => exact ⟨0, Nat.zero_le _, rfl, rfl, Below.refl _ _⟩
          case round =>
            obtain ⟨j, hj, hg2, rfl, hbz⟩ := hrel
            by_cases hjl : j < ps.length
            · have dj : decide ((j : Int) < ps.length) = true := decide_eq_true (by omega)
              have hjS : ps[j].2 ∈ S := by rw [← hps.out]; exact List.mem_map.2 ⟨ps[j], List.getElem_mem hjl, rfl⟩
              have hfx := hfs.out _ hjS
              obtain ⟨yg, yo, ya, yc, rfl, hgm, -, hat, hiw⟩ := (hms9.out.below hbz).at5 hjl
              obtain ⟨-, hlc, hlm, -⟩ := hms9.out.get
              have hpz := hpx.out.below hbz
              have hj24 : j < 24 := Nat.lt_of_lt_of_le hjl hpl.out
              generalize ps[j].2 = x at hfx hat hiw
              obtain ⟨x0, x1, x2, x3, x4, xl⟩ := hat
              have z0 := hpz.cell 0
              have z3 := hpz.cell 3
              have z6 := hpz.cell 6
              have zl := hpz.lt
              simp only [List.getElem?_cons_zero, List.getElem?_cons_succ] at z0 z3 z6
              clear hiw hpz hjS
              replace hbz := hid hbz
              go_upto_region 19 with (first | (go_at_call 16; (with_reducible refine (R2.late_c _ _ _ _ x now).mono ?_); rintro e wy ⟨rfl, hby⟩; have hbw := hid (Below.next hbz.out hby hbz.out.size); have x0 := (hby.cell (p := ⟨yg, yo + j * 5, none⟩) xl).trans x0; have x1 := (hby.cell (p := ⟨yg, yo + j * 5 + 1, none⟩) xl).trans x1; have x4 := (hby.cell (p := ⟨yg, yo + j * 5 + 4, none⟩) xl).trans x4; have z0 := (hby.cell (p := ⟨xb, 0, none⟩) zl).trans z0; have z3 := (hby.cell (p := ⟨xb, 3, none⟩) zl).trans z3; have z6 := (hby.cell (p := ⟨xb, 6, none⟩) zl).trans z6; have xl := Nat.lt_of_lt_of_le xl hby.size; have zl := Nat.lt_of_lt_of_le zl hby.size; clear hby))
              have hlx := hfx
              cases hl : lateT now x.late with
              | true =>
                clear hfx hlx
                replace hl := hid hl
                go_upto_region 21 with fail
                go_quiet (fail)
                go_wp2
                go_roundg (ps.length - (j + 1))
                case rel => exact ⟨j + 1, by omega, rfl, by go_num, Below.next hbw.out (drewN_below _ _ _) hbw.out.size⟩
                case measure => omega
              | false =>
                obtain ⟨f1, f2, f3⟩ := hfx hl
                have dk : (kd == 0) = false := by simpa using f1
                have dl : decide (x.lane < m.lane) = false := decide_eq_false (by omega)
                clear hfx hlx
                replace hl := hid hl
                by_cases he : x.lane = m.lane
                · have de : (x.lane == m.lane) = true := by simpa using he
                  have ds : decide (x.seq < m.seq) = false := decide_eq_false (by omega)
                  clear f1 f2 f3 he
                  go_upto_region 21 with fail
                  go_quiet (fail)
                  go_wp2
                  go_roundg (ps.length - (j + 1))
                  case rel => exact ⟨j + 1, by omega, rfl, by go_num, Below.next hbw.out (drewN_below _ _ _) hbw.out.size⟩
                  case measure => omega
                · have de : (x.lane == m.lane) = false := by simpa using he
                  clear f1 f2 f3 he
                  go_upto_region 21 with fail
                  go_quiet (fail)
                  go_wp2
                  go_roundg (ps.length - (j + 1))
                  case rel => exact ⟨j + 1, by omega, rfl, by go_num, Below.next hbw.out (drewN_below _ _ _) hbw.out.size⟩
                  case measure => omega
            · have dj : decide ((j : Int) < ps.length) = false := decide_eq_false (by omega)
              have hR' := hid (hR9.out.below hbz)
              have hW' := hid (hW9.out.next hbz)
              have hP' := hid (hP9.out.below hbz)
              obtain ⟨-, hlc, hlm, -⟩ := hms9.out.get
              clear hbz hR9 hW9 hP9 hms9
              go_wp2
              go_meet
              case rel => exact ⟨g2, p2, M8, W8, hlr.out, by have := hos.out; omega, hR'.out, hW'.out, hP'.out⟩
      case rest =>
        clear hR6 hW6 hP6
        obtain ⟨g', p', M', W', hLR2, hsq2, hR2, hW2, hP2⟩ := hcut
        have x3 := hP2.cell 3
        have xl := hP2.lt
        simp only [List.getElem?_cons_zero, List.getElem?_cons_succ] at x3
        replace hR2 := hid hR2
        replace hW2 := hid hW2
        replace hLR2 := hid hLR2
        clear hP2
        go_upto_region 9 with fail
        rw [ed.out]
        go_wp2
        go_roundg (ys.length - (i + 1))
        case rel => exact ⟨i + 1, now + d, g', p', M', W', by omega, rfl, by go_num, rfl, by omega, by push_cast; omega, hLR2.out, by push_cast; omega, hR2.out, hW2.out⟩
        case measure => omega
    · have d1 : decide ((i : Int) < ys.length) = false := decide_eq_false (by omega)
      clear hR hW
      go_wp2
      go_ret
      exact hend.out
end Go.Proofs.Ytggfallodkbgcaa.Ro
