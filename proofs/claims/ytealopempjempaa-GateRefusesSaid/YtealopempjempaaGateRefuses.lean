/- DERIVED. The walk over the statement GateRefuses: what is refused changes neither messages nor tokens nor the number; what is let in takes one token, and has the next number. -/
import Derived.Test.YtealopempjempaaGateRefusesP
import Derived.Test.YtealopempjempaaGateT
namespace Go.Proofs.Ytealopempjempaa.Gt
set_option linter.unusedVariables false
set_option linter.unusedSimpArgs false
open Go.RowKit Go.Proofs.Ytealopempjempaa.K Go.Proofs.Ytealopempjempaa.Lb Go.Proofs.Ytealopempjempaa.La Go.Proofs.Ytealopempjempaa.Cf
set_option maxHeartbeats 4000000 in
set_option maxRecDepth 100000 in
theorem grefuses_c {w : World} (k : Chan) {ao : Option Addr} {n0 c0 : Nat} {qs : List (Value × GSt)} (hs0 : GStepsAt w (.slice ao n0 c0) qs) : Calls Try.prog 7 #[aggC k, .slice ao n0 c0] w (LivesPost w) := by
  replace hs0 := hid hs0
  have hb0 := hid ((Below.refl w.heap.size w).alloc (Nat.le_refl _) (.cells #[.int .i64 k.kind, .int .i64 k.frm, .int .i64 k.to, .int .i64 k.words, .int .i64 k.refresh, .int .i64 k.lanes, .int .i64 k.depth, .int .i64 k.hold, .int .i64 k.life, .int .i64 k.rate, .int .i64 k.cap] 23))
  have hK0 := hid (pts.newA w #[.int .i64 k.kind, .int .i64 k.frm, .int .i64 k.to, .int .i64 k.words, .int .i64 k.refresh, .int .i64 k.lanes, .int .i64 k.depth, .int .i64 k.hold, .int .i64 k.life, .int .i64 k.rate, .int .i64 k.cap] 23)
  have hgd := hid (fun w => good_c w k)
  generalize goodK k = kg at hgd
  have hnw := hid (fun w => gnew_c w kg)
  unfold aggC at *
  go_enter Try.func7, Try.ntmps7
  go_upto_region 3 with (first | (go_at_call 10; (with_reducible refine (lives_c _).mono ?_); rintro e W1 ⟨rfl, hb⟩; have hK1 := hid (hK0.out.below hb); have hB1 := hid (Below.next hb0.out hb hb0.out.size); have hL1 := hid (Nat.le_trans hb0.out.size hb.size); clear hb))
  have y0 := (hK1.out).cell 0
  have y1 := (hK1.out).cell 1
  have y2 := (hK1.out).cell 2
  have y3 := (hK1.out).cell 3
  have y4 := (hK1.out).cell 4
  have y5 := (hK1.out).cell 5
  have y6 := (hK1.out).cell 6
  have y7 := (hK1.out).cell 7
  have y8 := (hK1.out).cell 8
  have y9 := (hK1.out).cell 9
  have y10 := (hK1.out).cell 10
  have yl := (hK1.out).lt
  simp only [List.getElem?_cons_zero, List.getElem?_cons_succ] at y0 y1 y2 y3 y4 y5 y6 y7 y8 y9 y10
  go_upto_region 5 with (first | (go_at_call 11; (with_reducible refine (hgd.out _).mono ?_); rintro e W3 ⟨rfl, hb⟩; have hB3 := hid (Below.next hB1.out hb hL1.out); have hL3 := hid (Nat.le_trans hL1.out hb.size); clear hb) | (go_at_call 15; (with_reducible refine (hnw.out W3).mono ?_); rintro e w4 ⟨gb, rfl, hG, hb⟩; have hG4 := hid hG; have hW4 := hid (show Wd W3.heap.size W3 w4 (fun b => W3.heap.size ≤ b ∧ b < w4.heap.size) from ⟨hb, fun b h => h.1, fun b h => h.2, hb.size⟩); clear hG hb; generalize (fun b => W3.heap.size ≤ b ∧ b < w4.heap.size) = M4 at hG4 hW4))
  clear y0 y1 y2 y3 y4 y5 y6 y7 y8 y9 y10 yl hK1 hB1 hL1 hK0 hb0 hgd hnw
  go_wp2_with (first | (go_at_call 20; (with_reducible refine (gearly_c (w0 := w) _ hs0.out).mono ?_); rintro e w' ⟨v', rfl, hv', rfl⟩; have hl80 := hid (show (qs.take 80).length ≤ 80 by simp; omega); generalize qs.take 80 = ys at hv' hl80; obtain ⟨a3, c3, rfl⟩ := hv'.shape; replace hv' := hid hv'))
  go_loopg [7, 6, 8, 9, 10, 11, 12, 13, 14] ys.length (fun gg si sr s8 s9 s10 s11 s12 s13 s14 wr => ∃ (i : Nat) (r : Int) (g : Gte) (M : Nat → Prop), i ≤ ys.length ∧ gg = ys.length - i ∧ si = .int .i64 i ∧ sr = .int .i64 r ∧ 0 ≤ r ∧ r ≤ 2 * i ∧ g.seq ≤ i ∧ GateM wr M gb g ∧ Wd W3.heap.size W3 wr M)
  case atStart => exact ⟨0, 0, _, M4, by omega, rfl, rfl, rfl, by omega, by simp, by simp, hG4.out, hW4.out⟩
  case round =>
    clear hG4 hW4
    obtain ⟨i, r, g, M, hi, hgg, rfl, rfl, hr0, hri, hsq, hG, hW⟩ := hrel
    have hBw := hid (hB3.out.trans (hW.below.mono hL3.out))
    have hend := hid (show LivesPost w (.returned (.bool true)) wr from ⟨rfl, hBw.out⟩)
    by_cases hlt : i < ys.length
    · obtain ⟨xg, xo, xa, xc, rfl, xl, xw, c0, c1, c2, c3', c4, c5⟩ := hv'.out.atD hBw.out hlt
      have hi80 : i < 80 := Nat.lt_of_lt_of_le hlt hl80.out
      have d1 : decide ((i : Int) < ys.length) = true := decide_eq_true (by omega)
      generalize ys[i].2 = q at xw c0 c1 c2 c3' c4 c5
      replace xw := hid xw
      obtain ⟨d, hd, ed⟩ := cut3d (x := q.round) (r := r) ⟨hr0, by omega⟩
      have hbb := (Below.refl wr.heap.size wr).alloc (Nat.le_refl _) (.cells #[.int .i64 q.k, .int .i64 q.mode, .int .i64 q.lane, .int .i64 q.n, .int .i64 q.round, .slice xa q.ws.length xc] 26)
      have hP := hid (pts.newA wr #[.int .i64 q.k, .int .i64 q.mode, .int .i64 q.lane, .int .i64 q.n, .int .i64 q.round, .slice xa q.ws.length xc] 26)
      have hG1 := hid (hG.below hbb)
      have hW1 := hid (hW.next hbb)
      have hnb := hid (show ¬ M wr.heap.size from fun hm => Nat.lt_irrefl _ (hG.lt wr.heap.size hm))
      clear hG hW hbb
      go_upto_region 10 with fail
      generalize wr.alloc (.cells #[.int .i64 q.k, .int .i64 q.mode, .int .i64 q.lane, .int .i64 q.n, .int .i64 q.round, .slice xa q.ws.length xc] 26) = w5 at hP hG1 hW1 ⊢
      obtain ⟨pb, hpb⟩ : ∃ pb, pb = wr.heap.size := ⟨_, rfl⟩
      rw [← hpb] at hP hnb ⊢
      replace hpb := hid hpb
      clear c0 c1 c2 c3' c4 c5 xl d1
      have p0 := hP.out.cell 0
      have p1 := hP.out.cell 1
      have p2 := hP.out.cell 2
      have p3 := hP.out.cell 3
      have p4 := hP.out.cell 4
      have p5 := hP.out.cell 5
      have pl := hP.out.lt
      simp only [List.getElem?_cons_zero, List.getElem?_cons_succ] at p0 p1 p2 p3 p4 p5
      go_upto_region 11 with fail
      rw [ed]
      replace ed := hid ed
      generalize hrd : r + d = rd
      have hrd2 := hid (show 0 ≤ rd ∧ rd ≤ 2 * ((i : Int) + 1) by omega)
      replace hrd := hid hrd
      go_upto_if 41 with (first | (go_at_call 23; (with_reducible refine (gkind_c _ q _ _ _).mono ?_); rintro e w5b ⟨rfl, hb⟩; have hGb := hid (hG1.out.below hb); have hWb := hid (hW1.out.next hb); have hPb := hid (hP.out.below hb); clear hb))
      clear p0 p1 p2 p3 p4 p5 pl
      go_cut [] from 41 to 43 (fun wx => ∃ (g' : Gte) (M' : Nat → Prop), g'.seq = g.seq ∧ GateM wx M' gb g' ∧ Wd W3.heap.size W3 wx M' ∧ pts wx pb [.int .i64 q.k, .int .i64 q.mode, .int .i64 q.lane, .int .i64 q.n, .int .i64 q.round, .slice xa q.ws.length xc] 26 ∧ ¬ M' pb)
      case first =>
        by_cases hk5 : kindT q.k = 5
        · have dk : (kindT q.k == 5) = true := by simpa using hk5
          replace hk5 := hid hk5
          go_wp2_with (first | (go_at_call 24; (with_reducible refine (gtake_c hGb.out).mono ?_); rintro e wA ⟨⟨a9, c9, rfl, -⟩, hG, hC⟩; have hGA := hid hG; have hCA := hid hC; clear hG hC))
          go_meet
          case rel => exact ⟨{ g with ms := (sortM g.ms).tail }, _, rfl, hGA.out, hWb.out.chg hCA.out, hPb.out.chg hCA.out hnb.out, fun hm => by rcases hm with hm | hm; exact hnb.out hm; have := hPb.out.lt; omega⟩
        · have dk : (kindT q.k == 5) = false := by simpa using hk5
          replace hk5 := hid hk5
          go_wp2
          go_meet
          case rel => exact ⟨g, M, rfl, hGb.out, hWb.out, hPb.out, hnb.out⟩
      case rest =>
        clear hG1 hW1 hP hnb hGb hWb hPb
        obtain ⟨g', M', hgs, hG, hW, hP, hnb⟩ := hcut
        replace hG := hid hG
        replace hW := hid hW
        replace hP := hid hP
        replace hnb := hid hnb
        have hok := hid (show g'.b.Ok by obtain ⟨_, _, _, hA, _, _⟩ := hG.out; exact hA.ok)
        have hsq0 := hid (show 0 ≤ g'.seq ∧ g'.seq ≤ i from ⟨by obtain ⟨_, _, _, hA, _, _⟩ := hG.out; exact hA.s.1, by omega⟩)
        clear hgs hsq
        have hidm := hid (comeB_idem hok.out rd)
        have huse := hid (fun h => comeB_use hok.out rd h)
        have htb := hid ((comeB_ok hok.out rd).t)
        have htc := hid ((comeB_ok hok.out rd).c)
        go_upto_region 14 with (first | (go_at_call 21; (with_reducible refine (gall_c hG.out).mono ?_); rintro e w6 ⟨v6, rfl, hv, hb⟩; have hv6 := hid (hv.mono (ok' := fun b => ¬ M' b ∧ b < w6.heap.size) (fun b h hlt => ⟨fun hm => by have := hG.out.lt b hm; omega, hlt⟩)); have hG6 := hid (hG.out.below hb); have hW6 := hid (hW.out.next hb); have hP6 := hid (hP.out.below hb); clear hv hb) | (go_at_call 22; (with_reducible refine (gtokens_c hG6.out rd).mono ?_); rintro e w7 ⟨rfl, hGt, hC⟩; have hG7 := hid hGt; have hW7 := hid (hW6.out.chg hC); have hP7 := hid (hP6.out.chg hC hnb.out); have hn7 := hid (show ¬ grow M' w6 w7 pb from fun hm => by rcases hm with hm | hm; exact hnb.out hm; have := hP6.out.lt; omega); have hv7 := hid (show MsgsR (fun b => ¬ grow M' w6 w7 b ∧ b < w7.heap.size) w7 v6 (sortM g'.ms) from (hv6.out.kept hC.size (fun b h hlt => hC.block b hlt h.1)).mono (fun b h hlt => ⟨fun hm => by rcases hm with hm | hm; exact h.1 hm; have := h.2; omega, hlt⟩)); have hM7 := hid (show ∀ b, grow M' w6 w7 b → b < w7.heap.size from fun b hm => hGt.lt b hm); clear hGt hC hv6) | (go_at_call 26; (with_reducible refine (gseq_c hG7.out).mono ?_); rintro e w' ⟨rfl, rfl⟩))
        obtain ⟨ps, hps, hms⟩ := hv7.out
        obtain ⟨a6, c6, rfl⟩ := hms.shape
        have hcap := hms.get.2.1
        have hcap2 := hms.get.2.2.1
        replace hms := hid hms
        replace hps := hid hps
        generalize grow M' w6 w7 = M7 at hG7 hW7 hn7 hM7 hms
        clear hv7 hG hW hP hnb hG6 hW6 hP6
        have hwB := hid (hB3.out.trans (hW7.out.below.mono hL3.out))
        have hw7 := hid ((xw.out.below hwB.out).mono (ok' := fun b => ¬ M7 b ∧ b < w7.heap.size) (fun b h hlt => ⟨fun hm => by have := hW7.out.ge b hm; have := hL3.out; omega, hlt⟩))
        obtain ⟨g7, hg7⟩ : ∃ g7 : Gte, ({ k := g'.k, ms := g'.ms, b := comeB g'.b rd, seq := g'.seq } : Gte) = g7 := ⟨_, rfl⟩
        have e1 : comeB g'.b rd = g7.b := by rw [← hg7]
        have e2 : g'.seq = g7.seq := by rw [← hg7]
        have e3 : g'.ms = g7.ms := by rw [← hg7]
        rw [hg7] at hG7
        rw [e3] at hps
        rw [e2] at hsq0 ⊢
        rw [e1] at hidm huse htb htc ⊢
        clear e1 e2 e3 hg7 hok
        have hs7 := hid (show g7.seq < 1000000 by have := hsq0.out; omega)
        have htwo := hid (offer_two g7 rd hidm.out q.mode q.lane q.n (cutW q.ws))
        obtain ⟨r, hr⟩ : ∃ r, offerT g7 q.mode q.lane (cutW q.ws) q.n rd = r := ⟨_, rfl⟩
        have hr0 := hid hr
        rw [hr] at htwo
        clear hr
        -- REG empennage/empennagelaw12.GateRefuses|14|GateRefuses.14
        refine region_chg 15 (M7) 10 (fun u => GateM u M7 gb g7) [Sp.eq (.pointer (some ⟨gb, 0, none⟩)), Sp.eq (.pointer (some ⟨pb, 1, none⟩)), Sp.eq (.int .i64 q.mode), Sp.eq (.pointer (some ⟨pb, 2, none⟩)), Sp.eq (.int .i64 q.lane), Sp.eq (.agg #[.int .i64 q.k, .int .i64 q.mode, .int .i64 q.lane, .int .i64 q.n, .int .i64 q.round, .slice xa q.ws.length xc]), Sp.eq (.slice xa (cutW q.ws).length xc), Sp.eq (.pointer (some ⟨pb, 3, none⟩)), Sp.eq (.int .i64 q.n), Sp.eq (.int .i64 rd), ⟨fun v gs u => OOut w7.heap.size M7 gb r gs u v, fun v gs w gs' w' h hs => h.st hs⟩, ⟨fun v gs u => TOut w7.heap.size r gs u v, fun v gs w gs' w' h hs => h.st hs⟩, ⟨fun v gs u => MOut w7.heap.size r.2.1 gs u v, fun v gs w gs' w' h hs => h.st hs⟩, Sp.eq (.int .i64 r.2.2), ⟨fun v gs u => BOut w7.heap.size 37 [.slice none 0 0, .int .i64 0, .int .i64 0, .int .i64 0, .int .i64 0] gs u v, fun v gs w gs' w' h hs => h.st hs⟩] (fun _ _ _ _ _ h => h) (by kernel_rfl) (by kernel_rfl) (hG7.out) (fun u u' h hb => h.below hb) (fun j hj => match j with | 0 => fun _ _ _ _ h _ => h | 1 => fun _ _ _ _ h _ => h | 2 => fun _ _ _ _ h _ => h | 3 => fun _ _ _ _ h _ => h | 4 => fun _ _ _ _ h _ => h | 5 => fun _ _ _ _ h _ => h | 6 => fun _ _ _ _ h _ => h | 7 => fun _ _ _ _ h _ => h | 8 => fun _ _ _ _ h _ => h | 9 => fun _ _ _ _ h _ => h | 10 => absurd rfl hj | 11 => fun _ _ _ _ h hc => h.chg hc hM7.out | 12 => fun _ _ _ _ h hc => h.chg hc hM7.out | 13 => fun _ _ _ _ h _ => h | 14 => fun _ _ _ _ h hc => h.chg hc hM7.out | _ + 15 => fun _ _ _ _ h _ => h) ⟨?_, ?_, ?_, ?_, ?_, ?_, ?_, ?_, ?_, ?_, ?_, ?_, ?_, ?_, ?_, trivial⟩ ?_
        · intro ac gs u hb hg hi h
          have e5 : ac.tmps[5]?.getD undef = .pointer (some ⟨gb, 0, none⟩) := h.inm 5 rfl rfl
          refine opFree rfl ?_
          exact relMoveT _ rfl e5 (okPc rfl hg rfl)
        · intro ac gs u hb hg hi h
          have e8 : ac.tmps[8]?.getD undef = .pointer (some ⟨pb, 0, none⟩) := h.inm 8 rfl rfl
          refine opFree rfl ?_
          exact relRun (v := .pointer (some ⟨pb, 1, none⟩)) (w' := u) (by simp [go_sem, e8]) (okPc rfl hg rfl)
        · intro ac gs u hb hg hi h
          have e53 : ac.tmps[53]?.getD undef = .pointer (some ⟨pb, 1, none⟩) := h.tm 1 53 rfl rfl
          refine opFree rfl ?_
          exact relRun (v := .int .i64 q.mode) (w' := u) (by simp [go_sem, e53, ((hP7.out.chg hb hn7.out).cell 1)]) (okPc rfl hg rfl)
        · intro ac gs u hb hg hi h
          have e8 : ac.tmps[8]?.getD undef = .pointer (some ⟨pb, 0, none⟩) := h.inm 8 rfl rfl
          refine opFree rfl ?_
          exact relRun (v := .pointer (some ⟨pb, 2, none⟩)) (w' := u) (by simp [go_sem, e8]) (okPc rfl hg rfl)
        · intro ac gs u hb hg hi h
          have e55 : ac.tmps[55]?.getD undef = .pointer (some ⟨pb, 2, none⟩) := h.tm 3 55 rfl rfl
          refine opFree rfl ?_
          exact relRun (v := .int .i64 q.lane) (w' := u) (by simp [go_sem, e55, ((hP7.out.chg hb hn7.out).cell 2)]) (okPc rfl hg rfl)
        · intro ac gs u hb hg hi h
          have e8 : ac.tmps[8]?.getD undef = .pointer (some ⟨pb, 0, none⟩) := h.inm 8 rfl rfl
          refine opFree rfl ?_
          exact relRun (v := .agg #[.int .i64 q.k, .int .i64 q.mode, .int .i64 q.lane, .int .i64 q.n, .int .i64 q.round, .slice xa q.ws.length xc]) (w' := u) (by simp [go_sem, e8, ((hP7.out.chg hb hn7.out).cell 0), ((hP7.out.chg hb hn7.out).cell 1), ((hP7.out.chg hb hn7.out).cell 2), ((hP7.out.chg hb hn7.out).cell 3), ((hP7.out.chg hb hn7.out).cell 4), ((hP7.out.chg hb hn7.out).cell 5)]) (okPc rfl hg rfl)
        · intro ac gs u hb hg hi h
          have e57 : ac.tmps[57]?.getD undef = .agg #[.int .i64 q.k, .int .i64 q.mode, .int .i64 q.lane, .int .i64 q.n, .int .i64 q.round, .slice xa q.ws.length xc] := h.tm 5 57 rfl rfl
          refine opFree rfl ?_
          refine relCall (f := _) (args := #[.agg #[.int .i64 q.k, .int .i64 q.mode, .int .i64 q.lane, .int .i64 q.n, .int .i64 q.round, .slice xa q.ws.length xc]]) (by simp [go_sem, e57]; rfl) ?_
          refine (words_c q (hw7.out.chg hb (fun b h _ => h.1))).mono ?_
          rintro e w' ⟨rfl, hb'⟩
          exact ⟨_, rfl, okBc rfl hg hb' rfl⟩
        · intro ac gs u hb hg hi h
          have e8 : ac.tmps[8]?.getD undef = .pointer (some ⟨pb, 0, none⟩) := h.inm 8 rfl rfl
          refine opFree rfl ?_
          exact relRun (v := .pointer (some ⟨pb, 3, none⟩)) (w' := u) (by simp [go_sem, e8]) (okPc rfl hg rfl)
        · intro ac gs u hb hg hi h
          have e59 : ac.tmps[59]?.getD undef = .pointer (some ⟨pb, 3, none⟩) := h.tm 7 59 rfl rfl
          refine opFree rfl ?_
          exact relRun (v := .int .i64 q.n) (w' := u) (by simp [go_sem, e59, ((hP7.out.chg hb hn7.out).cell 3)]) (okPc rfl hg rfl)
        · intro ac gs u hb hg hi h
          have e6 : ac.tmps[6]?.getD undef = .int .i64 rd := h.inm 6 rfl rfl
          refine opFree rfl ?_
          exact relMoveT _ rfl e6 (okPc rfl hg rfl)
        · intro ac gs u hb hg hi h
          have e52 : ac.tmps[52]?.getD undef = .pointer (some ⟨gb, 0, none⟩) := h.tm 0 52 rfl rfl
          have e54 : ac.tmps[54]?.getD undef = .int .i64 q.mode := h.tm 2 54 rfl rfl
          have e56 : ac.tmps[56]?.getD undef = .int .i64 q.lane := h.tm 4 56 rfl rfl
          have e58 : ac.tmps[58]?.getD undef = .slice xa (cutW q.ws).length xc := h.tm 6 58 rfl rfl
          have e60 : ac.tmps[60]?.getD undef = .int .i64 q.n := h.tm 8 60 rfl rfl
          have e61 : ac.tmps[61]?.getD undef = .int .i64 rd := h.tm 9 61 rfl rfl
          refine opFree rfl ?_
          have hof := offer_c (hi rfl) (v := .slice xa (cutW q.ws).length xc) (ws := cutW q.ws) (((hw7.out.chg hb (fun b h _ => h.1)).cut 8).mono (fun b h hlt => ⟨h.1, hlt⟩)) (by unfold cutW; simp; omega) hs7.out q.mode q.lane q.n rd
          rw [hr0.out] at hof
          refine relCall (f := _) (args := #[.pointer (some ⟨gb, 0, none⟩), .int .i64 q.mode, .int .i64 q.lane, .slice xa (cutW q.ws).length xc, .int .i64 q.n, .int .i64 rd]) (by simp [go_sem, e52, e54, e56, e58, e60, e61]; rfl) ?_
          refine (hof).mono ?_
          rintro e w' hp
          obtain ⟨v, rfl, ho, hc⟩ := OOut.of hb hg hp
          exact ⟨_, rfl, okC hg hc ho⟩
        · intro ac gs u hb hg hi h
          have e62 := h.tm 10 62 rfl rfl
          refine opFree rfl ?_
          exact relMoveT _ rfl rfl (okPc rfl hg e62.1)
        · intro ac gs u hb hg hi h
          have e51 := h.tm 11 51 rfl rfl
          refine opFree rfl ?_
          obtain ⟨x, hx, hl⟩ := TOut.msg e51
          exact relRun (v := x) (w' := u) (by simp [go_sem, hx]) (okPc rfl hg hl)
        · intro ac gs u hb hg hi h
          have e51 := h.tm 11 51 rfl rfl
          refine opFree rfl ?_
          obtain ⟨x, hx, hl⟩ := TOut.msg e51
          exact relRun (v := .int .i64 r.2.2) (w' := u) (by simp [go_sem, hx]) (okPc rfl hg rfl)
        · intro ac gs u hb hg hi h
          refine opFree rfl ?_
          exact relRun (v := .pointer (some ⟨u.heap.size, 0, none⟩)) (w' := u.alloc (.cells #[.slice none 0 0, .int .i64 0, .int .i64 0, .int .i64 0, .int .i64 0] 37)) (by simp [go_sem]) (okAc rfl _ hg ⟨_, rfl, List.mem_cons_self, hb.size, pts.newA u _ _⟩)
        intro vs gs u hb hg hr
        have r0 : vs 0 = .pointer (some ⟨gb, 0, none⟩) := hr 0 (by decide)
        have r1 : vs 1 = .pointer (some ⟨pb, 1, none⟩) := hr 1 (by decide)
        have r2 : vs 2 = .int .i64 q.mode := hr 2 (by decide)
        have r3 : vs 3 = .pointer (some ⟨pb, 2, none⟩) := hr 3 (by decide)
        have r4 : vs 4 = .int .i64 q.lane := hr 4 (by decide)
        have r5 : vs 5 = .agg #[.int .i64 q.k, .int .i64 q.mode, .int .i64 q.lane, .int .i64 q.n, .int .i64 q.round, .slice xa q.ws.length xc] := hr 5 (by decide)
        have r6 : vs 6 = .slice xa (cutW q.ws).length xc := hr 6 (by decide)
        have r7 : vs 7 = .pointer (some ⟨pb, 3, none⟩) := hr 7 (by decide)
        have r8 : vs 8 = .int .i64 q.n := hr 8 (by decide)
        have r9 : vs 9 = .int .i64 rd := hr 9 (by decide)
        have r10 := hr 10 (by decide)
        have r11 := hr 11 (by decide)
        have r12 := hr 12 (by decide)
        have r13 : vs 13 = .int .i64 r.2.2 := hr 13 (by decide)
        have r14 := hr 14 (by decide)
        obtain ⟨nb, e12, hnb, hn0, hbx⟩ := r14
        obtain ⟨-, M8, hG8, hM8⟩ := r10
        obtain ⟨a1, c1, e63, hi8⟩ := r12
        clear r11
        simp only [List.take_succ_cons, List.take_zero, List.drop_succ_cons, List.drop_zero, putOps, r0, r1, r2, r3, r4, r5, r6, r7, r8, r9, r13, e12, e63]
        simp only [Act.put, List.setIfInBounds_toArray, List.set_cons_succ, List.set_cons_zero]
        clear hr r0 r1 r2 r3 r4 r5 r6 r7 r8 r9 r13 e12 e63
        -- GER
        have hn8 := hid (show ¬ M8 nb from fun hm => by rcases hM8 nb hm with h | h; exact absurd (hM7.out nb h) (by omega); exact h.2 hnb)
        have hW8 := hid (show Wd W3.heap.size W3 u M8 from ⟨(hW7.out.chg hb).below, fun b hm => by rcases hM8 b hm with h | h; exact hW7.out.ge b h; exact Nat.le_trans hW7.out.le h.1, hG8.lt, Nat.le_trans hW7.out.le hb.size⟩)
        have bx0 := hbx.cell 0
        have bx1 := hbx.cell 1
        have bx2 := hbx.cell 2
        have bx3 := hbx.cell 3
        have bx4 := hbx.cell 4
        have bxl := hbx.lt
        have bxf := fun o => hbx.frozen o
        simp only [List.getElem?_cons_zero, List.getElem?_cons_succ] at bx0 bx1 bx2 bx3 bx4
        have hs5 := set5_pts hbx (.slice a1 r.2.1.words.length c1) (.int .i64 r.2.1.lane) (.int .i64 r.2.1.stamp) (.int .i64 r.2.1.late) (.int .i64 r.2.1.seq)
        have hC5 := set5_chg hb hn0 (.slice a1 r.2.1.words.length c1) (.int .i64 r.2.1.lane) (.int .i64 r.2.1.stamp) (.int .i64 r.2.1.late) (.int .i64 r.2.1.seq)
        have hG5 := GateM.set5 hG8 hn8.out (.slice a1 r.2.1.words.length c1) (.int .i64 r.2.1.lane) (.int .i64 r.2.1.stamp) (.int .i64 r.2.1.late) (.int .i64 r.2.1.seq)
        have hO5 := set5_own u nb (.slice a1 r.2.1.words.length c1) (.int .i64 r.2.1.lane) (.int .i64 r.2.1.stamp) (.int .i64 r.2.1.late) (.int .i64 r.2.1.seq)
        have hW5 : Wd W3.heap.size W3 (set5 u nb (.slice a1 r.2.1.words.length c1) (.int .i64 r.2.1.lane) (.int .i64 r.2.1.stamp) (.int .i64 r.2.1.late) (.int .i64 r.2.1.seq)) M8 := ⟨hW8.out.below.trans (hO5.toBelow hW8.out.le (fun b e => e ▸ Nat.le_trans hW7.out.le hn0)), hW8.out.ge, hG5.lt, Nat.le_trans hW8.out.le hO5.size⟩
        have hms9 := hid (hms.out.kept hC5.size (fun b h hlt => hC5.block b hlt (h.elim (·.1) (·.1))))
        unfold set5 at hs5 hG5 hW5 hms9
        replace hs5 := hid hs5
        replace hG5 := hid hG5
        replace hW5 := hid hW5
        clear hC5 hO5 hbx hb hg hG8 hM8 hi8 hW8 hG7 hW7 hn7 hM7 hms hwB hw7 hr0 xw
        go_upto_region 15 with fail
        generalize ((((u.setCell ⟨nb, 0, none⟩ (.slice a1 r.2.1.words.length c1)).setCell ⟨nb, 1, none⟩ (.int .i64 r.2.1.lane)).setCell ⟨nb, 2, none⟩ (.int .i64 r.2.1.stamp)).setCell ⟨nb, 3, none⟩ (.int .i64 r.2.1.late)).setCell ⟨nb, 4, none⟩ (.int .i64 r.2.1.seq) = w9 at hs5 hG5 hW5 hms9 ⊢
        clear bx0 bx1 bx2 bx3 bx4 bxl bxf
        rcases htwo.out with ⟨j, hj, rfl⟩ | ⟨ht, rfl⟩
        · clear htwo
          have hj1 : (j != 0) = true := by simpa using hj
          replace hj := hid hj
          simp only [zeroMsg, List.length_nil] at hs5 hG5 ⊢
          go_upto_region 16 with (first | (go_at_call 21; (with_reducible refine (gall_c hG5.out).mono ?_); rintro e wA ⟨vA, rfl, hv, hb⟩; have hGA := hid (hG5.out.below hb); have hWA := hid (hW5.out.next hb); have hsA := hid (hs5.out.below hb); have hmsA := hid (hms9.out.below hb); obtain ⟨pn, hpn, hmn⟩ := hv; obtain ⟨an, cn, rfl⟩ := hmn.shape; replace hmn := hid hmn; replace hpn := hid hpn; clear hb))
          have hpp := hid (show ps.map Prod.snd = pn.map Prod.snd by rw [hps.out, hpn.out])
          have hnA := hid hn8.out
          go_wp2_with (first | (go_at_call 27; (with_reducible refine (R2.same_eq hmsA.out hmn.out hpp.out).mono ?_); rintro e wB ⟨rfl, hb⟩; have hGB := hid (hGA.out.below hb); have hWB := hid (hWA.out.next hb); have hsB := hid (hsA.out.below hb); clear hb) | (go_at_call 22; (with_reducible refine (gtokens2_c hGB.out hidm.out).mono ?_); rintro e wC ⟨rfl, hG, hC⟩; have hGC := hid hG; have hWC := hid (hWB.out.chg hC); have hsC := hid (hsB.out.chg hC hnA.out); have z0 := hsC.out.cell 0; have z4 := hsC.out.cell 4; have zl := hsC.out.lt; simp only [List.getElem?_cons_zero, List.getElem?_cons_succ] at z0 z4; clear hG hC) | (go_at_call 26; (with_reducible refine (gseq_c hGC.out).mono ?_); rintro e w' ⟨rfl, rfl⟩))
          go_roundg (ys.length - (i + 1))
          case rel => exact ⟨i + 1, rd, g7, _, by omega, rfl, by go_num, rfl, hrd2.out.1, by have := hrd2.out.2; omega, by have := hsq0.out.2; show g7.seq ≤ ((i + 1 : Nat) : Int); omega, hGC.out, hWC.out⟩
          case measure => omega
        · clear htwo
          have hsq1 := hsq0.out
          have htk := htb.out
          have htc2 := htc.out
          have hus := hid (huse.out ht)
          have hml := hid (sortM_len (g7.ms ++ [⟨cutW q.ws, q.lane, cutT q.n, addT q.n g7.k.life, g7.seq + 1⟩]))
          have hml0 := hid (sortM_len g7.ms)
          simp only at hs5 hG5 ⊢
          obtain ⟨sq, hsqe⟩ : ∃ sq, sq = g7.seq := ⟨_, rfl⟩
          obtain ⟨tk, htke⟩ : ∃ tk, tk = g7.b.tokens := ⟨_, rfl⟩
          rw [← hsqe] at hsq1 hs5 ⊢
          rw [← htke] at htk ⊢
          have ht0 : tk ≠ 0 := by rw [htke]; exact ht
          have htp : 0 < tk := by omega
          have htm : tk ≤ 64 := by omega
          replace hsqe := hid hsqe
          replace htke := hid htke
          clear ht
          go_upto_region 16 with (first | (go_at_call 21; (with_reducible refine (gall_c hG5.out).mono ?_); rintro e wA ⟨vA, rfl, hv, hb⟩; have hGA := hid (hG5.out.below hb); have hWA := hid (hW5.out.next hb); have hsA := hid (hs5.out.below hb); obtain ⟨pn, hpn, hmn⟩ := hv; obtain ⟨an, cn, rfl⟩ := hmn.shape; have hln : pn.length = ps.length + 1 := by { have h1 := congrArg List.length hpn; have h2 := congrArg List.length hps.out; rw [List.length_map, hml.out, List.length_append, List.length_singleton] at h1; rw [List.length_map, hml0.out] at h2; omega }; have hmx := hmn.get.2.1; have hmx2 := hmn.get.2.2.1; rw [hln] at hmx ⊢; clear hln hpn hmn hb))
          have hnA := hid hn8.out
          go_wp2_with (first | (go_at_call 22; (with_reducible refine (gtokens2_c hGA.out hus.out).mono ?_); rintro e wC ⟨rfl, hG, hC⟩; have hGC := hid hG; have hWC := hid (hWA.out.chg hC); have hsC := hid (hsA.out.chg hC hnA.out); have z4 := hsC.out.cell 4; have zl := hsC.out.lt; simp only [List.getElem?_cons_zero, List.getElem?_cons_succ] at z4; have eu : (useB g7.b).tokens = tk - 1 := (by rw [htke.out]; rfl); rw [eu]; clear eu hG hC) | (go_at_call 26; (with_reducible refine (gseq_c hGC.out).mono ?_); simp only; rw [← hsqe.out]; rintro e w' ⟨rfl, rfl⟩))
          go_roundg (ys.length - (i + 1))
          case rel => exact ⟨i + 1, rd, _, _, by omega, rfl, by go_num, rfl, hrd2.out.1, by have := hrd2.out.2; omega, by have := hsq0.out.2; show g7.seq + 1 ≤ ((i + 1 : Nat) : Int); omega, hGC.out, hWC.out⟩
          case measure => omega
    · have d1 : decide ((i : Int) < ys.length) = false := decide_eq_false (by omega)
      clear hG hW
      go_wp2
      go_ret
      exact hend.out
end Go.Proofs.Ytealopempjempaa.Gt
