/- DERIVED. The walk over the statement RouterFates: each message that was let in is told once, or there still. -/
import Derived.Test.YtggfallodkbgcaaRouterFatesP
import Derived.Test.YtggfallodkbgcaaRegR
namespace Go.Proofs.Ytggfallodkbgcaa.Ro
set_option linter.unusedVariables false
set_option linter.unusedSimpArgs false
open Go.RowKit Go.Proofs.Ytggfallodkbgcaa.K Go.Proofs.Ytggfallodkbgcaa.Lb Go.Proofs.Ytggfallodkbgcaa.La Go.Proofs.Ytggfallodkbgcaa.Cf Go.Proofs.Ytggfallodkbgcaa.Gt Go.Proofs.Ytggfallodkbgcaa.Qu Go.Proofs.Ytggfallodkbgcaa.Wh
theorem mk90 : ∀ w : World, (Instr.makeSlice 35 (.int .i64 90) (.int .i64 90)).run Try.prog w = .ok (.slice (some ⟨w.heap.size, 0, none⟩) 90 90) (w.alloc (.cells (Array.replicate 90 (.int .i64 0)) 3)) := fun _ => by kernel_rfl
def encF (F : List Int) : List Value := F.map (Value.int .i64)
theorem encF_set (F : List Int) (n : Nat) (x : Int) : (encF F).set n (.int .i64 x) = encF (F.set n x) := by unfold encF; rw [List.map_set]
theorem encF_get (F : List Int) {n : Nat} (h : n < F.length) : (encF F)[n]? = some (.int .i64 (F.getD n 0)) := by
  unfold encF; simp [List.getD_eq_getElem?_getD, h]
theorem ptsF_keep {w w' : World} {fb : Nat} {F : List Int} (h : pts w fb (encF F) 3) {M : Nat → Prop} (hc : Chg M w w') (hn : ¬ M fb) : pts w' fb (encF F) 3 := h.chg hc hn
set_option maxHeartbeats 4000000 in
set_option maxRecDepth 100000 in
theorem rfates_c {w : World} (k : Chan) {ao : Option Addr} {n0 c0 : Nat} {qs : List RSt} (hs0 : RStepsAt w (.slice ao n0 c0) qs) : Calls Try.prog 6 #[aggC k, .slice ao n0 c0] w (LivesPost w) := by
  replace hs0 := hid hs0
  have hgd := hid (fun w => good_c w k)
  have hok := hid (goodR_ok k)
  have hb0 := hid ((Below.refl w.heap.size w).alloc (Nat.le_refl _) (.cells #[.int .i64 k.kind, .int .i64 k.frm, .int .i64 k.to, .int .i64 k.words, .int .i64 k.refresh, .int .i64 k.lanes, .int .i64 k.depth, .int .i64 k.hold, .int .i64 k.life, .int .i64 k.rate, .int .i64 k.cap] 23))
  have hK0 := hid (pts.newA w #[.int .i64 k.kind, .int .i64 k.frm, .int .i64 k.to, .int .i64 k.words, .int .i64 k.refresh, .int .i64 k.lanes, .int .i64 k.depth, .int .i64 k.hold, .int .i64 k.life, .int .i64 k.rate, .int .i64 k.cap] 23)
  generalize goodK k = kg at hgd hok
  unfold aggC at *
  go_enter Try.func6, Try.ntmps6
  go_upto_region 3 with (first | (go_at_call 7; (with_reducible refine (lives_c _).mono ?_); rintro e W1 ⟨rfl, hb⟩; have hK1 := hid (hK0.out.below hb); have hB1 := hid (Below.next hb0.out hb hb0.out.size); clear hb))
  obtain ⟨kb, hkb⟩ : ∃ kb, kb = w.heap.size := ⟨_, rfl⟩
  rw [← hkb] at hK1 ⊢
  have hkb0 : w.heap.size ≤ kb := by omega
  replace hkb := hid hkb
  clear hb0 hK0
  have y0 := (hK1.out).cell 0
  have y1 := (hK1.out).cell 1
  have y2 := (hK1.out).cell 2
  have y3 := (hK1.out).cell 3
  have y4 := (hK1.out).cell 4
  have y5 := (hK1.out).cell 5
  have y6 := (hK1.out).cell 6
  have y7 := (hK1.out).cell 7
  have y8 := (hK1.out).cell 8
  have y9 := (hK1.out).cell 9
  have y10 := (hK1.out).cell 10
  have yl := (hK1.out).lt
  have yf := fun o => (hK1.out).frozen o
  simp only [List.getElem?_cons_zero, List.getElem?_cons_succ] at y0 y1 y2 y3 y4 y5 y6 y7 y8 y9 y10
  go_upto_region 4 with (first | (go_at_call 8; (with_reducible refine (hgd.out _).mono ?_); rintro e W2 ⟨rfl, hb⟩; have hK2 := hK1.out.below hb; have hB2 := hid (Below.next hB1.out hb hB1.out.size); clear hb y0 y1 y2 y3 y4 y5 y6 y7 y8 y9 y10 yl yf; have z0 := hK2.cell 0; have z1 := hK2.cell 1; have z2 := hK2.cell 2; have z3 := hK2.cell 3; have z4 := hK2.cell 4; have z5 := hK2.cell 5; have z6 := hK2.cell 6; have z7 := hK2.cell 7; have z8 := hK2.cell 8; have z9 := hK2.cell 9; have z10 := hK2.cell 10; have zl := hK2.lt; have zf := fun o => hK2.frozen o; simp only [List.getElem?_cons_zero, List.getElem?_cons_succ] at z0 z1 z2 z3 z4 z5 z6 z7 z8 z9 z10; replace hK2 := hid hK2))
  have hK3 := hid (setN_pts0 hK2.out [.int .i64 kg.kind, .int .i64 kg.frm, .int .i64 kg.to, .int .i64 kg.words, .int .i64 kg.refresh, .int .i64 kg.lanes, .int .i64 kg.depth, .int .i64 kg.hold, .int .i64 kg.life, .int .i64 kg.rate, .int .i64 kg.cap] rfl)
  have hB3 := hid (setN_below kb hkb0 [.int .i64 kg.kind, .int .i64 kg.frm, .int .i64 kg.to, .int .i64 kg.words, .int .i64 kg.refresh, .int .i64 kg.lanes, .int .i64 kg.depth, .int .i64 kg.hold, .int .i64 kg.life, .int .i64 kg.rate, .int .i64 kg.cap] 0 _ hB2.out)
  change Code.wp _ _ _ _ (setN W2 kb 0 [.int .i64 kg.kind, .int .i64 kg.frm, .int .i64 kg.to, .int .i64 kg.words, .int .i64 kg.refresh, .int .i64 kg.lanes, .int .i64 kg.depth, .int .i64 kg.hold, .int .i64 kg.life, .int .i64 kg.rate, .int .i64 kg.cap])
  clear z0 z1 z2 z3 z4 z5 z6 z7 z8 z9 z10 zl zf
  generalize setN W2 kb 0 [.int .i64 kg.kind, .int .i64 kg.frm, .int .i64 kg.to, .int .i64 kg.words, .int .i64 kg.refresh, .int .i64 kg.lanes, .int .i64 kg.depth, .int .i64 kg.hold, .int .i64 kg.life, .int .i64 kg.rate, .int .i64 kg.cap] = w3 at hK3 hB3 ⊢
  clear hK2 hB2 hK1 hB1 hgd
  have hs3 := hid (show w.heap.size ≤ w3.heap.size from hB3.out.size)
  -- REG empennage/empennagelaw19.RouterFates|4|Router.4
  refine region_tab 4 [Sp.eq (.agg #[.int .i64 kg.kind, .int .i64 kg.frm, .int .i64 kg.to, .int .i64 kg.words, .int .i64 kg.refresh, .int .i64 kg.lanes, .int .i64 kg.depth, .int .i64 kg.hold, .int .i64 kg.life, .int .i64 kg.rate, .int .i64 kg.cap]), Sp.of (fun v u => ∃ gb, ∃ M : Nat → Prop, v = .pointer (some ⟨gb, 0, none⟩) ∧ GateF u M (fun _ => False) gb ⟨kg, [], newB kg.rate kg.cap, 0⟩ ∧ ∀ b, M b → w3.heap.size ≤ b) (fun v w w' h hb => (let ⟨gb, M, h1, h2, h3⟩ := h; ⟨gb, M, h1, h2.below hb, h3⟩)), Sp.eq (.pointer (some ⟨kb, 7, none⟩)), Sp.eq (.int .i64 kg.hold)] (fun _ _ _ _ _ h => h) (by kernel_rfl) (by kernel_rfl) ⟨?_, ?_, ?_, ?_, trivial⟩ ?_
  · intro ac gs u hb hg h
    have e2 : ac.tmps[2]?.getD undef = .pointer (some ⟨kb, 0, none⟩) := h.inm 2 rfl rfl
    refine opFree rfl ?_
    exact relRun (v := .agg #[.int .i64 kg.kind, .int .i64 kg.frm, .int .i64 kg.to, .int .i64 kg.words, .int .i64 kg.refresh, .int .i64 kg.lanes, .int .i64 kg.depth, .int .i64 kg.hold, .int .i64 kg.life, .int .i64 kg.rate, .int .i64 kg.cap]) (w' := u) (by simp [go_sem, e2, ((hK3.out.below hb).cell 0), ((hK3.out.below hb).cell 1), ((hK3.out.below hb).cell 2), ((hK3.out.below hb).cell 3), ((hK3.out.below hb).cell 4), ((hK3.out.below hb).cell 5), ((hK3.out.below hb).cell 6), ((hK3.out.below hb).cell 7), ((hK3.out.below hb).cell 8), ((hK3.out.below hb).cell 9), ((hK3.out.below hb).cell 10)]) (okP hg rfl)
  · intro ac gs u hb hg h
    have e24 : ac.tmps[24]?.getD undef = .agg #[.int .i64 kg.kind, .int .i64 kg.frm, .int .i64 kg.to, .int .i64 kg.words, .int .i64 kg.refresh, .int .i64 kg.lanes, .int .i64 kg.depth, .int .i64 kg.hold, .int .i64 kg.life, .int .i64 kg.rate, .int .i64 kg.cap] := h.tm 0 24 rfl rfl
    refine opFree rfl ?_
    refine relCall (f := _) (args := #[.agg #[.int .i64 kg.kind, .int .i64 kg.frm, .int .i64 kg.to, .int .i64 kg.words, .int .i64 kg.refresh, .int .i64 kg.lanes, .int .i64 kg.depth, .int .i64 kg.hold, .int .i64 kg.life, .int .i64 kg.rate, .int .i64 kg.cap]]) (by simp [go_sem, e24]; rfl) ?_
    refine (gnew_f _ kg).mono ?_
    rintro e w' ⟨gb, M, rfl, hG, hge, hb'⟩
    exact ⟨_, rfl, okB hg hb' ⟨gb, M, rfl, hG, fun b h => Nat.le_trans hb.size (hge b h)⟩⟩
  · intro ac gs u hb hg h
    have e2 : ac.tmps[2]?.getD undef = .pointer (some ⟨kb, 0, none⟩) := h.inm 2 rfl rfl
    refine opFree rfl ?_
    exact relRun (v := .pointer (some ⟨kb, 7, none⟩)) (w' := u) (by simp [go_sem, e2]) (okP hg rfl)
  · intro ac gs u hb hg h
    have e26 : ac.tmps[26]?.getD undef = .pointer (some ⟨kb, 7, none⟩) := h.tm 2 26 rfl rfl
    refine opFree rfl ?_
    exact relRun (v := .int .i64 kg.hold) (w' := u) (by simp [go_sem, e26, ((hK3.out.below hb).cell 7)]) (okP hg rfl)
  intro vs gs u hb hg hr
  have r0 : vs 0 = .agg #[.int .i64 kg.kind, .int .i64 kg.frm, .int .i64 kg.to, .int .i64 kg.words, .int .i64 kg.refresh, .int .i64 kg.lanes, .int .i64 kg.depth, .int .i64 kg.hold, .int .i64 kg.life, .int .i64 kg.rate, .int .i64 kg.cap] := hr 0 (by decide)
  have r1 := hr 1 (by decide)
  have r2 : vs 2 = .pointer (some ⟨kb, 7, none⟩) := hr 2 (by decide)
  have r3 : vs 3 = .int .i64 kg.hold := hr 3 (by decide)
  simp only [List.take_succ_cons, List.take_zero, List.drop_succ_cons, List.drop_zero, putOps, r0, r2, r3]
  simp only [Act.put, List.setIfInBounds_toArray, List.set_cons_succ, List.set_cons_zero]
  clear hr r0 r2 r3
  -- GER
  obtain ⟨gb, M4, e19, hG4, hge4⟩ := r1
  rw [e19]
  replace hG4 := hid hG4
  clear e19
  have hB4 := hid (Below.next hB3.out hb hB3.out.size)
  have hsz4 := hid (show w3.heap.size ≤ u.heap.size from hb.size)
  replace hge4 := hid hge4
  have hBw3 := hid hb
  clear hb hg
  go_upto_region 5 with (first | (go_at_call 10; (with_reducible refine (new_x _ kg.hold).mono ?_); rintro e w5 ⟨pb, Mp, rfl, hP, hge, hb⟩; have hR5 := hid (RS.new hG4.out hb hP hge); have hB5 := hid (Below.next hB4.out hb hB4.out.size); have hW5 := hid (show Wd w3.heap.size w3 w5 (fun b => M4 b ∨ Mp b) from ⟨by have := hBw3.out; exact Below.next this hb hsz4.out, fun b h => h.elim (hge4.out b) (fun h => Nat.le_trans hsz4.out (hge b h)), fun b h => hR5.out.lt b (.inl h), Nat.le_trans hsz4.out hb.size⟩); clear hP hge hb))
  generalize (fun b => M4 b ∨ Mp b) = M5 at hR5 hW5
  clear hG4 hge4 hB4
  have hmk := mk90
  go_upto_region 6 with fail
  have hF6 : pts (w5.alloc (.cells (Array.replicate 90 (.int .i64 0)) 3)) w5.heap.size (encF (List.replicate 90 0)) 3 := by
    have := pts.newA w5 (Array.replicate 90 (.int .i64 0)) 3
    simpa [encF] using this
  have hb6 := (Below.refl w5.heap.size w5).alloc (Nat.le_refl _) (.cells (Array.replicate 90 (.int .i64 0)) 3)
  have hR6 := hid (hR5.out.below hb6)
  have hW6 := hid (hW5.out.next hb6)
  have hnf := hid (show ¬ M5 w5.heap.size from fun h => by have := hR5.out.lt _ (.inl h); omega)
  have hfge := hid (show w3.heap.size ≤ w5.heap.size from hW5.out.le)
  replace hF6 := hid hF6
  clear hR5 hW5 hb6 hmk
  generalize w5.alloc (.cells (Array.replicate 90 (.int .i64 0)) 3) = w6 at hF6 hR6 hW6 ⊢
  obtain ⟨fb, hfb⟩ : ∃ fb, fb = w5.heap.size := ⟨_, rfl⟩
  rw [← hfb] at hF6 hnf hfge ⊢
  replace hfb := hid hfb
  go_wp2_with (first | (go_at_call 11; (with_reducible refine (rearly_c (w0 := w) _ hs0.out).mono ?_); rintro e w' ⟨v', rfl, hv', rfl⟩; have hl80 := hid (show (qs.take 80).length ≤ 80 by simp; omega); generalize qs.take 80 = ys at hv' hl80; obtain ⟨a3, c3, rfl⟩ := hv'.shape; replace hv' := hid hv'))
  go_loopg [10, 8, 9, 11, 12, 13, 14, 15, 16] ys.length (fun gg si sn st s11 s12 s13 s14 s15 s16 wr => ∃ (i : Nat) (now : Int) (g : Gte) (p : Prt) (M W : Nat → Prop) (F : List Int), i ≤ ys.length ∧ gg = ys.length - i ∧ si = .int .i64 i ∧ sn = .int .i64 now ∧ st = .int .i64 g.seq ∧ 0 ≤ now ∧ now ≤ 3 * i ∧ 0 ≤ g.seq ∧ g.seq ≤ i ∧ p.s ≤ i ∧ (p.row.length : Int) ≤ i ∧ FInv g F ∧ RS wr M W gb pb g p ∧ Wd w3.heap.size w3 wr M ∧ pts wr fb (encF F) 3 ∧ ¬ M fb ∧ ¬ W fb)
  case atStart => exact ⟨0, 0, _, _, M5, _, _, by omega, rfl, rfl, rfl, rfl, by omega, by simp, by simp, by simp, by simp [newP], by simp [newP], FInv.new _ _, hR6.out, hW6.out, hF6.out, hnf.out, id⟩
  case round =>
    clear hR6 hW6 hF6 hnf
    obtain ⟨i, now, g, p, M, W, F, hi, hgg, rfl, rfl, rfl, hn0, hn1, hq0, hq1, hps, hpr, hFI, hR, hW, hF, hnM, hnW⟩ := hrel
    have hBw := hid (hB3.out.trans (hW.below.mono hs3.out))
    replace hFI := hid hFI
    by_cases hlt : i < ys.length
    · obtain ⟨xg, xo, rfl, xl, c0, c1, c2, c3'⟩ := hv'.out.atC hBw.out hlt
      have hi80 : i < 80 := Nat.lt_of_lt_of_le hlt hl80.out
      have d1 : decide ((i : Int) < ys.length) = true := decide_eq_true (by omega)
      obtain ⟨d, hd0, hd1, ed⟩ := tick_of (x := ys[i].ticks) (r := now) (m := 4) (.inr rfl) ⟨hn0, by omega⟩
      generalize ys[i] = q at c0 c1 c2 c3' ed
      replace ed := hid ed
      have hbb := (Below.refl wr.heap.size wr).alloc (Nat.le_refl _) (.cells #[.int .i64 q.k, .int .i64 q.lane, .int .i64 q.n, .int .i64 q.ticks] 33)
      have hP := hid (pts.newA wr #[.int .i64 q.k, .int .i64 q.lane, .int .i64 q.n, .int .i64 q.ticks] 33)
      have hR1 := hid (hR.below hbb)
      have hW1 := hid (hW.next hbb)
      have hF1 := hid (hF.below hbb)
      have hnb := hid (show ¬ M wr.heap.size ∧ ¬ W wr.heap.size from ⟨fun hm => Nat.lt_irrefl _ (hR.lt _ (.inl hm)), fun hm => Nat.lt_irrefl _ (hR.lt _ (.inr hm))⟩)
      have hfs := hid (show fb < wr.heap.size from hF.lt)
      replace hnM := hid hnM
      replace hnW := hid hnW
      clear hR hW hF hbb
      go_upto_region 12 with fail
      generalize wr.alloc (.cells #[.int .i64 q.k, .int .i64 q.lane, .int .i64 q.n, .int .i64 q.ticks] 33) = w5' at hP hR1 hW1 hF1 ⊢
      obtain ⟨sb, hsb⟩ : ∃ sb, sb = wr.heap.size := ⟨_, rfl⟩
      rw [← hsb] at hP hnb hfs ⊢
      replace hsb := hid hsb
      clear c0 c1 c2 c3' xl d1
      have p0 := hP.out.cell 0
      have p1 := hP.out.cell 1
      have p2 := hP.out.cell 2
      have p3 := hP.out.cell 3
      have pl := hP.out.lt
      simp only [List.getElem?_cons_zero, List.getElem?_cons_succ] at p0 p1 p2 p3
      go_upto_if 44 with (first | (go_at_call 12; (with_reducible refine (rkind_c _ q).mono ?_); rintro e w6' ⟨rfl, hb⟩; have hR6 := hid (hR1.out.below hb); have hW6 := hid (hW1.out.next hb); have hP6 := hid (hP.out.below hb); have hF6 := hid (hF1.out.below hb); clear hb))
      clear p0 p1 p2 p3 pl hR1 hW1 hP hF1
      generalize hκ : kindR q.k = κ
      have hκe := hid hκ
      clear hκ
      go_cut [9, 12, 13, 14, 15, 16] from 44 to 127 (fun u9 u12 u13 u14 u15 u16 wx => ∃ (g' : Gte) (p' : Prt) (M' W' : Nat → Prop) (F' : List Int), u9 = .int .i64 g'.seq ∧ 0 ≤ g'.seq ∧ g'.seq ≤ i + 1 ∧ p'.s ≤ i + 1 ∧ (p'.row.length : Int) ≤ i + 1 ∧ FInv g' F' ∧ RS wx M' W' gb pb g' p' ∧ Wd w3.heap.size w3 wx M' ∧ pts wx fb (encF F') 3 ∧ ¬ M' fb ∧ ¬ W' fb ∧ pts wx sb [.int .i64 q.k, .int .i64 q.lane, .int .i64 q.n, .int .i64 q.ticks] 33)
      case first =>
        have x0 := hP6.out.cell 0
        have x1 := hP6.out.cell 1
        have x2 := hP6.out.cell 2
        have x3 := hP6.out.cell 3
        have xl := hP6.out.lt
        simp only [List.getElem?_cons_zero, List.getElem?_cons_succ] at x0 x1 x2 x3
        have hkeep := hid (fun (g' : Gte) (p' : Prt) (M' W' : Nat → Prop) (wz : World) (hT : TurnR w6' M W gb pb g' p' M' W' wz) => show ¬ M' fb ∧ ¬ W' fb from ⟨fun h => by rcases hT.2.1 fb h with h | h; exact hnM.out h; exact (by have := hF6.out.lt; omega), fun h => by rcases hT.2.2.2.2.1 fb h with h | h; exact hnW.out h; exact (by have := hF6.out.lt; omega)⟩)
        by_cases hK : κ < 4
        · have dk : decide (κ < 4) = true := decide_eq_true hK
          have hof := hid (hR6.out.offerLit i 0 q.lane now now (by omega) rfl)
          have hos := hid (hFI.out.offer hq0 (by omega) 0 q.lane now now [(i : Int)])
          generalize offerT g 0 q.lane [(i : Int)] now now = R at hof hos
          obtain ⟨g2, m2, e2⟩ := R
          go_upto_region 14 with (first | (go_at_call 13; (with_reducible refine (hof.out).mono ?_); rintro e w7 ⟨a7, c7, M7, W7, rfl, -, hT⟩; have hR7 := hid hT.1; have hW7 := hid (RS.wd hW6.out hT); have hP7 := hid (hP6.out.chg hT.2.2.2.2.2 hnb.out.1); have hF7 := hid (hF6.out.chg hT.2.2.2.2.2 hnM.out); have hk7 := hid (hkeep.out _ _ _ _ _ hT); clear hT))
          have hbm := (Below.refl w7.heap.size w7).alloc (Nat.le_refl _) (.cells #[.slice a7 m2.words.length c7, .int .i64 m2.lane, .int .i64 m2.stamp, .int .i64 m2.late, .int .i64 m2.seq] 37)
          have hmp := pts.newA w7 #[.slice a7 m2.words.length c7, .int .i64 m2.lane, .int .i64 m2.stamp, .int .i64 m2.late, .int .i64 m2.seq] 37
          have hR8 := hid (hR7.out.below hbm)
          have hW8 := hid (hW7.out.next hbm)
          have hP8 := hid (hP7.out.below hbm)
          have hF8 := hid (hF7.out.below hbm)
          have z4 := hmp.cell 4
          have zl := hmp.lt
          simp only [List.getElem?_cons_zero, List.getElem?_cons_succ] at z4
          clear hbm hmp hR7 hW7 hP7 hF7 hof x0 x1 x2 x3 xl
          generalize w7.alloc (.cells #[.slice a7 m2.words.length c7, .int .i64 m2.lane, .int .i64 m2.stamp, .int .i64 m2.late, .int .i64 m2.seq] 37) = w8 at z4 zl hR8 hW8 hP8 hF8 ⊢
          obtain ⟨hFI2, hcase⟩ := hos.out
          replace hFI2 := hid hFI2
          rcases hcase with ⟨he, hs1, hs2⟩ | ⟨he, hs1⟩
          · subst he
            rw [hs2] at z4
            have hsum : g2.seq = g.seq + 1 := hs1
            replace hs1 := hid hs1
            go_wp2
            go_meet
            case rel => exact ⟨g2, p, M7, W7, F, by rw [hs1.out], by have := hs1.out; omega, by have := hs1.out; omega, by omega, by omega, hFI2.out, hR8.out, hW8.out, hF8.out, hk7.out.1, hk7.out.2, hP8.out⟩
          · have de : (e2 == 0) = false := by simpa using he
            replace hs1 := hid hs1
            clear he
            go_wp2
            go_meet
            case rel => exact ⟨g2, p, M7, W7, F, by rw [hs1.out], by have := hs1.out; omega, by have := hs1.out; omega, by omega, by omega, hFI2.out, hR8.out, hW8.out, hF8.out, hk7.out.1, hk7.out.2, hP8.out⟩
        · have dk : decide (κ < 4) = false := decide_eq_false hK
          have hκ2 := hκe.out
          by_cases hK7 : κ = 7
          · have dk7 : (κ == 7) = true := by simpa using hK7
            replace hK7 := hid hK7
            have hask := hid (fun (wz : World) (h : RS wz M W gb pb g p) (u : Int) => h.ask (x := (i : Int)) (by unfold isInt; omega) u now (by omega) (by omega))
            have hab := hid (fun (u : Int) => ask_bound p (i : Int) u now (i := i) hps hpr)
            have hkn := hid (fun wq => rkind_c wq q)
            rw [hκ2] at hkn
            go_upto_region 19 with (first | (go_at_call 12; (with_reducible refine (hkn.out _).mono ?_); rintro e w7 ⟨rfl, hb⟩; have hR7 := hid (hR6.out.below hb); have hW7 := hid (hW6.out.next hb); have hP7 := hid (hP6.out.below hb); have hF7 := hid (hF6.out.below hb); have hb7 := hid hb; clear hb x0 x1 x2 x3 xl))
            have hu3 : ∃ u : Int, u = now + 3 := ⟨_, rfl⟩
            go_upto_block 99 with (first | (go_at_call 22; (with_reducible refine (hask.out _ hR7.out (now + 3)).mono ?_); rintro e w8 ⟨a8, c8, M8, W8, rfl, -, hT⟩; have hR8 := hid hT.1; have hW8 := hid (RS.wd hW7.out hT); have hP8 := hid (hP7.out.chg hT.2.2.2.2.2 hnb.out.1); have hF8 := hid (hF7.out.chg hT.2.2.2.2.2 hnM.out); have hk8 := hid (hkeep.out _ _ _ _ _ (TurnR.from hb7.out hT)); clear hT))
            go_meet
            case rel => exact ⟨g, _, M8, W8, F, rfl, hq0, by omega, (hab.out (now + 3)).1, (hab.out (now + 3)).2, hFI.out, hR8.out, hW8.out, hF8.out, hk8.out.1, hk8.out.2, hP8.out⟩
          · have dk7 : (κ == 7) = false := by simpa using hK7
            have hkn := hid (fun wq => rkind_c wq q)
            rw [hκ2] at hkn
            have hst : Hid (∀ u : World, RS u M W gb pb g p → Calls Try.prog 15 #[.pointer (some ⟨gb, 0, none⟩), .pointer (some ⟨pb, 0, none⟩), .int .i64 now] u (StepRP u M W gb pb (outT now g.ms) (stepR g p now))) := hid (fun u h => rstep_c h now)
            have hFS0 := hFI.out.step (by omega) p now
            have hlate := hid (fun h => step_late (g := g) (p := p) hn0 h)
            have hbnd := hid (step_bound g p now)
            have hsq2 := hid (step_seq g p now)
            have htl := hid (told_len p now (g := g) (by obtain ⟨Mg, hG⟩ := hR6.out.gate; have := hG.inv.len; omega))
            generalize stepR g p now = R at hst hFS0 hlate hbnd hsq2 htl
            obtain ⟨g2, p2, kd, who, m⟩ := R
            simp only at hFS0 hlate hbnd hsq2
            have hFS := hid hFS0.1
            have hLm0 := hid hFS0.2
            have hto := hid (show toldR now g (g2, p2, kd, who, m) = outT now g.ms ++ (if kd = 0 then [] else [m]) from rfl)
            generalize toldR now g (g2, p2, kd, who, m) = TL at hFS hLm0 htl hto
            clear hFS0
            go_upto_region 21 with (first | (go_at_call 12; (with_reducible refine (hkn.out _).mono ?_); rintro e w7 ⟨rfl, hb⟩; have hR7 := hid (hR6.out.below hb); have hW7 := hid (hW6.out.next hb); have hP7 := hid (hP6.out.below hb); have hF7 := hid (hF6.out.below hb); have hb7 := hid hb; clear hb x0 x1 x2 x3 xl) | (go_at_call 15; (with_reducible refine (hst.out _ hR7.out).mono ?_); rintro e w8 ⟨lv, lqs, a8, c8, M8, W8, rfl, hi8, hm8, ho, hw8, hv8, hT⟩; obtain ⟨la, lc, rfl⟩ := K.own_shape ho; have hT : TurnR w7 M W gb pb g2 p2 M8 W8 w8 := hT; have hR8 := hid hT.1; have hW8 := hid (RS.wd hW7.out hT); have hP8 := hid (hP7.out.chg hT.2.2.2.2.2 hnb.out.1); have hF8 := hid (hF7.out.chg hT.2.2.2.2.2 hnM.out); have hkx := hid (hkeep.out _ _ _ _ _ (TurnR.from hb7.out hT)); have hs78 := hid (show w7.heap.size ≤ w8.heap.size from hT.2.2.2.2.2.size); clear hT))
            have hbx := (Below.refl w8.heap.size w8).alloc (Nat.le_refl _) (.cells #[.int .i64 kd, .int .i64 who, .slice a8 m.words.length c8, .int .i64 m.lane, .int .i64 m.stamp, .int .i64 m.late, .int .i64 m.seq, .slice la lqs.length lc] 44)
            have hpx := hid (pts.newA w8 #[.int .i64 kd, .int .i64 who, .slice a8 m.words.length c8, .int .i64 m.lane, .int .i64 m.stamp, .int .i64 m.late, .int .i64 m.seq, .slice la lqs.length lc] 44)
            have hR9 := hid (hR8.out.below hbx)
            have hW9 := hid (hW8.out.next hbx)
            have hP9 := hid (hP8.out.below hbx)
            have hF9 := hid (hF8.out.below hbx)
            have ho9 := hid (K.own_of ho (fun b e => hbx.block b (K.own_lt ho e)))
            have hw9 := hid (hw8.below hbx)
            have hi9 := hid (hi8.below hbx)
            have hv9 := hid (show ∀ b, (Value.slice la lqs.length lc).ownBlock = some b → ¬ M8 b ∧ ¬ W8 b ∧ w7.heap.size ≤ b ∧ b < w8.heap.size from fun b e => ⟨(hv8 b e).1, (hv8 b e).2, own_block_ge ho b e, K.own_lt ho e⟩)
            have hsb7 := hid (show sb < w7.heap.size ∧ fb < w7.heap.size from ⟨hP7.out.lt, hF7.out.lt⟩)
            have hs9 := hid (show w7.heap.size ≤ (w8.alloc (.cells #[.int .i64 kd, .int .i64 who, .slice a8 m.words.length c8, .int .i64 m.lane, .int .i64 m.stamp, .int .i64 m.late, .int .i64 m.seq, .slice la lqs.length lc] 44)).heap.size from by have := hs78.out; simp; omega)
            replace hm8 := hid hm8
            clear hbx hi8 ho hw8 hv8 hR8 hW8 hP8 hF8 hR7 hW7 hP7 hF7
            generalize w8.alloc (.cells #[.int .i64 kd, .int .i64 who, .slice a8 m.words.length c8, .int .i64 m.lane, .int .i64 m.stamp, .int .i64 m.late, .int .i64 m.seq, .slice la lqs.length lc] 44) = w9 at hpx hR9 hW9 hP9 hF9 ho9 hw9 hi9 hs9 ⊢
            obtain ⟨xb, hxb⟩ : ∃ xb, xb = w8.heap.size := ⟨_, rfl⟩
            rw [← hxb] at hpx hv9 ⊢
            have hxb7 := hid (show w7.heap.size ≤ xb from by have := hs78.out; omega)
            replace hxb := hid hxb
            have y0 := hpx.out.cell 0
            have y2 := hpx.out.cell 2
            have y3 := hpx.out.cell 3
            have y4 := hpx.out.cell 4
            have y5 := hpx.out.cell 5
            have y6 := hpx.out.cell 6
            have y7 := hpx.out.cell 7
            have yl := hpx.out.lt
            simp only [List.getElem?_cons_zero, List.getElem?_cons_succ] at y0 y2 y3 y4 y5 y6 y7
            go_upto_if 81 with fail
            go_cut [15] from 81 to 86 (fun v15 wx => ∃ (L : List (Value × Msg)) (a : Option Addr) (c : Nat), v15 = .slice a L.length c ∧ L.map Prod.snd = TL ∧ wx.ownsRow w7.heap.size 37 5 (.slice a L.length c) L.length (flat encM L) ∧ WordsIn W8 wx L ∧ RS wx M8 W8 gb pb g2 p2 ∧ Wd w3.heap.size w3 wx M8 ∧ pts wx sb [.int .i64 q.k, .int .i64 q.lane, .int .i64 q.n, .int .i64 q.ticks] 33 ∧ pts wx fb (encF F) 3 ∧ pts wx xb [.int .i64 kd, .int .i64 who, .slice a8 m.words.length c8, .int .i64 m.lane, .int .i64 m.stamp, .int .i64 m.late, .int .i64 m.seq, .slice la lqs.length lc] 44)
            case first =>
              by_cases hkd : kd = 0
              · have dk0 : (kd != 0) = false := by simp [hkd]
                have hTL : lqs.map Prod.snd = TL := by rw [hto.out, if_pos hkd, List.append_nil]; exact hm8.out
                replace hTL := hid hTL
                clear hkd
                go_wp2
                go_meet
                case rel => exact ⟨lqs, la, lc, rfl, hTL.out, ho9.out, hw9.out, hR9.out, hW9.out, hP9.out, hF9.out, hpx.out⟩
              · have dk0 : (kd != 0) = true := by simpa using hkd
                have hTL := hid (show (lqs ++ [((.slice a8 m.words.length c8, m) : Value × Msg)]).map Prod.snd = TL by rw [hto.out, if_neg hkd, List.map_append, hm8.out]; rfl)
                have hl26 : lqs.length ≤ 25 := by have h1 := htl.out; rw [← hTL.out] at h1; simp at h1; omega
                clear hkd
                have hbA := (Below.refl w9.heap.size w9).alloc (Nat.le_refl _) (.cells #[.slice a8 m.words.length c8, .int .i64 m.lane, .int .i64 m.stamp, .int .i64 m.late, .int .i64 m.seq] 37)
                have hoA := hid (ho9.out.alloc (.cells #[.slice a8 m.words.length c8, .int .i64 m.lane, .int .i64 m.stamp, .int .i64 m.late, .int .i64 m.seq] 37))
                have hRA := hid (hR9.out.below hbA)
                have hWA := hid (hW9.out.next hbA)
                have hPA := hid (hP9.out.below hbA)
                have hFA := hid (hF9.out.below hbA)
                have hXA := hid (hpx.out.below hbA)
                have hwA := hid (hw9.out.below hbA)
                have hiA := hid (hi9.out.below hbA)
                have hsA := hid (show w7.heap.size ≤ (w9.alloc (.cells #[.slice a8 m.words.length c8, .int .i64 m.lane, .int .i64 m.stamp, .int .i64 m.late, .int .i64 m.seq] 37)).heap.size from by have := hs9.out; simp; omega)
                clear hbA
                go_wp2_with (at_builtin; (refine wpList_push2 rfl (.tmp 82) (.tmp 85) 41 rfl elMsg (v := .slice la lqs.length lc) rfl hoA.out hsA.out rfl (news := encM (.slice a8 m.words.length c8, m)) rfl (heap_at _ _ _ (by simp)) (by simp [encM, Value.oneCell']) (by omega) (by unfold maxLen; omega) (by omega) ?_; intro gx capx wx2 hown5 hg5 hor5 hlt5))
                have hc5 : Chg (fun b => (Value.slice la lqs.length lc).ownBlock = some b) (w9.alloc (.cells #[.slice a8 m.words.length c8, .int .i64 m.lane, .int .i64 m.stamp, .int .i64 m.late, .int .i64 m.seq] 37)) wx2 := ⟨hg5.os, hg5.tape, hg5.output, hg5.size, fun k hk hn => hg5.block k hk (fun e => hn e.symm)⟩
                have hR5 := hid (hRA.out.chg hc5 (fun b e => ⟨(hv9.out b e).1, (hv9.out b e).2.1⟩))
                have hW5 := hid (hWA.out.chgB hc5 (fun b e => Nat.le_trans (Nat.le_trans hfge.out (Nat.le_of_lt hsb7.out.2)) (hv9.out b e).2.2.1))
                have hP5 := hid (hPA.out.chg hc5 (fun e => by have := (hv9.out _ e).2.2.1; have := hsb7.out.1; omega))
                have hF5 := hid (hFA.out.chg hc5 (fun e => by have := (hv9.out _ e).2.2.1; have := hsb7.out.2; omega))
                have hX5 := hid (hXA.out.chg hc5 (fun e => by have := (hv9.out _ e).2.2.2; omega))
                have hw5 := hid (show WordsIn W8 wx2 (lqs ++ [((.slice a8 m.words.length c8, m) : Value × Msg)]) from WordsIn.snoc (hwA.out.kept hc5.size (fun b hb hlt => hc5.block b hlt (fun e => (hv9.out b e).2.1 hb))) (hiA.out.kept hc5.size (fun b hb hlt => hc5.block b hlt (fun e => (hv9.out b e).2.1 hb))))
                have ho5 := hid (show wx2.ownsRow w7.heap.size 37 5 (.slice (some ⟨gx, 0, none⟩) (lqs.length + 1) capx) (lqs ++ [((.slice a8 m.words.length c8, m) : Value × Msg)]).length (flat encM (lqs ++ [((.slice a8 m.words.length c8, m) : Value × Msg)])) from by rw [flat_append, flat_single, List.length_append]; exact hown5)
                clear hown5 hg5 hor5 hlt5 hc5
                go_wp2
                go_meet
                case rel => exact ⟨lqs ++ [(.slice a8 m.words.length c8, m)], some ⟨gx, 0, none⟩, capx, by simp, hTL.out, by simpa using ho5.out, hw5.out, hR5.out, hW5.out, hP5.out, hF5.out, hX5.out⟩
            case rest =>
              clear y0 y2 y3 y4 y5 y6 y7 yl hR9 hW9 hP9 hF9 ho9 hw9 hi9 hpx
              obtain ⟨L, a, c, rfl, hLe, hoL, hwL, hRx, hWx, hPx, hFb, hXx⟩ := hcut
              generalize hwx : wc = wx at hoL hwL hRx hWx hPx hFb hXx ⊢
              clear hwx
              have hrowL := hid ((MsgsAt.of_own hoL hwL).mono (ok' := fun b => b ≠ fb) (okw' := fun b => b ≠ fb) (fun b h _ e => by have h : w7.heap.size ≤ b := h; have := hsb7.out.2; omega) (fun b h _ e => by subst e; exact hkx.out.2 h))
              have hLm := hid (show ∀ x ∈ L.map Prod.snd, 1 ≤ x.seq ∧ x.seq ≤ g.seq from by rw [hLe]; exact hLm0.out)
              have hLb := hid (show L.length ≤ 26 from by have h1 := htl.out; rw [← hLe, List.length_map] at h1; omega)
              have hsq90 := hid (show g.seq < 90 by omega)
              have hne1 := hid (show sb ≠ fb from fun e => by have := hfs.out; omega)
              have hne2 := hid (show xb ≠ fb from fun e => by have := hxb7.out; have := hsb7.out.2; omega)
              replace hLe := hid hLe
              replace hRx := hid hRx
              replace hWx := hid hWx
              replace hPx := hid hPx
              replace hFb := hid hFb
              replace hXx := hid hXx
              clear hoL hwL
              go_wp2
              go_loopg [16] L.length (fun g2' sj wr => ∃ j : Nat, j ≤ L.length ∧ g2' = L.length - j ∧ sj = .int .i64 j ∧ pts wr fb (encF (addF F ((L.map Prod.snd).take j))) 3 ∧ Chg (fun b => b = fb) wx wr)
              case atStart => exact ⟨0, Nat.zero_le _, rfl, rfl, by simpa [addF] using hFb.out, Chg.refl _ _⟩
              case round =>
                obtain ⟨j, hj, hg2, rfl, hFz, hCz⟩ := hrel
                have hrow := hid (hrowL.out.kept hCz.size (fun b hb hlt => hCz.block b hlt (fun e => hb.elim (fun h => h e) (fun h => h e))))
                by_cases hjl : j < L.length
                · have dj : decide ((j : Int) < L.length) = true := decide_eq_true (by omega)
                  have hj26 : j < 26 := Nat.lt_of_lt_of_le hjl hLb.out
                  obtain ⟨yg, yo, ya, yc, rfl, hgm, -, hat, hiw⟩ := hrow.out.at5 hjl
                  obtain ⟨-, hlc, hlm, -⟩ := hrow.out.get
                  have hmm : L[j].2 ∈ L.map Prod.snd := List.mem_map.2 ⟨L[j], List.getElem_mem hjl, rfl⟩
                  obtain ⟨hm1, hm2⟩ := hLm.out _ hmm
                  have hsnoc := addF_snoc F ((L.map Prod.snd).take j) L[j].2
                  have htk : (L.map Prod.snd).take (j + 1) = (L.map Prod.snd).take j ++ [L[j].2] := by rw [List.take_succ_eq_append_getElem (by simpa using hjl)]; simp
                  rw [← htk] at hsnoc
                  have hsm := addF_small hFI.out.small (by decide) ((L.map Prod.snd).take j)
                  have htl : ((L.map Prod.snd).take j).length ≤ j := by simp; omega
                  have hFl : (addF F ((L.map Prod.snd).take j)).length = 90 := by rw [addF_len]; exact hFI.out.len
                  generalize L[j].2 = x at hm1 hm2 hat hsnoc
                  generalize hFj : addF F ((L.map Prod.snd).take j) = Fj at hFz hsnoc hsm hFl
                  obtain ⟨n, hn⟩ : ∃ n : Nat, x.seq = n := ⟨x.seq.toNat, by omega⟩
                  have hnt : x.seq.toNat = n := by omega
                  rw [hnt] at hsnoc
                  have hn90 : n < 90 := by have := hsq90.out; omega
                  obtain ⟨y, hy⟩ : ∃ y, y = Fj.getD n 0 := ⟨_, rfl⟩
                  have hy01 : 0 ≤ y ∧ y ≤ 100 := by have := hsm n; rw [← hy] at this; omega
                  rw [← hy] at hsnoc
                  have cf := hFz.cell n
                  rw [encF_get Fj (by omega), ← hy] at cf
                  have ff := hFz.frozen n
                  have fl := hFz.lt
                  obtain ⟨x0, x1, x2, x3, x4, xl⟩ := hat
                  rw [hn] at x4
                  have l1 : decide ((n : Int) < 1) = false := decide_eq_false (by omega)
                  have l2 : decide ((n : Int) > g.seq) = false := decide_eq_false (by omega)
                  have l3 : decide (g.seq < (n : Int)) = false := decide_eq_false (by omega)
                  have hFn := hid (show pts (wr.setCell ⟨fb, n, none⟩ (.int .i64 (y + 1))) fb (encF (addF F ((L.map Prod.snd).take (j + 1)))) 3 from by rw [hsnoc, ← encF_set]; exact hFz.set n _)
                  have hCn := hid (show Chg (fun b => b = fb) wx (wr.setCell ⟨fb, n, none⟩ (.int .i64 (y + 1))) from hCz.setB rfl)
                  obtain ⟨hy0, hy1⟩ := hy01
                  clear hy hsnoc hFj hsm hFl htl hmm hm1 hm2 hn hnt hFz hCz hrow htk x0 x1 x2 x3 hiw
                  go_wp2
                  go_roundg (L.length - (j + 1))
                  case rel => exact ⟨j + 1, by omega, rfl, by go_num, hFn.out, hCn.out⟩
                  case measure => omega
                · have dj : decide ((j : Int) < L.length) = false := decide_eq_false (by omega)
                  have hall : (L.map Prod.snd).take j = L.map Prod.snd := List.take_of_length_le (by simp; omega)
                  rw [hall] at hFz
                  have hRz := hid (hRx.out.chg hCz (fun b e => by have e : b = fb := e; subst e; exact hkx.out))
                  have hWz := hid (hWx.out.chgB hCz (fun b e => by have e : b = fb := e; subst e; exact hfge.out))
                  have hPz := hid (hPx.out.chg hCz (fun e => hne1.out e))
                  have hXz := hXx.out.chg hCz (fun e => hne2.out e)
                  have hFz2 := hid hFz
                  have z0 := hXz.cell 0
                  have z5 := hXz.cell 5
                  have zl := hXz.lt
                  simp only [List.getElem?_cons_zero, List.getElem?_cons_succ] at z0 z5
                  obtain ⟨-, hlc, hlm, -⟩ := hrow.out.get
                  have hfi2 := hid (show FInv g2 (addF F (L.map Prod.snd)) from by rw [hLe.out]; exact hFS.out)
                  clear hCz hrow hFz hall hXz
                  by_cases hkd : kd = 0
                  · have dk0 : (kd != 0) = false := by simp [hkd]
                    clear hkd
                    go_wp2
                    go_meet
                    case rel => exact ⟨g2, p2, M8, W8, _, by rw [hsq2.out], by rw [hsq2.out]; exact hq0, by rw [hsq2.out]; omega, by have := hbnd.out.1; omega, by have := hbnd.out.2; omega, hfi2.out, hRz.out, hWz.out, hFz2.out, hkx.out.1, hkx.out.2, hPz.out⟩
                  · have dk0 : (kd != 0) = true := by simpa using hkd
                    have dl : decide (m.late ≤ now) = false := decide_eq_false (by have := hlate.out hkd; omega)
                    clear hkd
                    go_wp2
                    go_meet
                    case rel => exact ⟨g2, p2, M8, W8, _, by rw [hsq2.out], by rw [hsq2.out]; exact hq0, by rw [hsq2.out]; omega, by have := hbnd.out.1; omega, by have := hbnd.out.2; omega, hfi2.out, hRz.out, hWz.out, hFz2.out, hkx.out.1, hkx.out.2, hPz.out⟩
      case rest =>
        clear hR6 hW6 hP6 hF6
        obtain ⟨g', p', M', W', F', rfl, k0, k1, k2, k3, k4, hR2, hW2, hF2, hk5, hk6, hP2⟩ := hcut
        have x3 := hP2.cell 3
        have xl := hP2.lt
        simp only [List.getElem?_cons_zero, List.getElem?_cons_succ] at x3
        replace hR2 := hid hR2
        replace hW2 := hid hW2
        replace hF2 := hid hF2
        replace k4 := hid k4
        clear hP2
        go_upto_region 10 with fail
        rw [ed.out]
        go_wp2
        go_roundg (ys.length - (i + 1))
        case rel => exact ⟨i + 1, now + d, g', p', M', W', F', by omega, rfl, by go_num, rfl, rfl, by omega, by push_cast; omega, k0, by push_cast; omega, by push_cast; omega, by push_cast; omega, k4.out, hR2.out, hW2.out, hF2.out, hk5, hk6⟩
        case measure => omega
    · have d1 : decide ((i : Int) < ys.length) = false := decide_eq_false (by omega)
      have hq0h := hid hq0
      have hal := hid (show Calls Try.prog 14 #[.pointer (some ⟨gb, 0, none⟩)] wr (ResR wr (sortM g.ms)) from by obtain ⟨Mg, hG⟩ := hR.gate; exact gall_c hG.toM)
      have h24 := hid (show (sortM g.ms).length ≤ 24 by rw [sortM_len]; obtain ⟨Mg, hG⟩ := hR.gate; have := hG.inv.len; omega)
      have hLm0 := hid (show ∀ x ∈ sortM g.ms, 1 ≤ x.seq ∧ x.seq ≤ g.seq from fun x hx => hFI.out.ms x ((Sp.sortL_mem (key := lane1) g.ms x).1 hx))
      have hsq90 := hid (show g.seq < 90 by have := hl80.out; omega)
      have hlast := hid (fun n h1 h2 => hFI.out.last hsq90.out n h1 h2)
      generalize sortM g.ms = SL at hal h24 hLm0 hlast
      replace hR := hid hR
      replace hW := hid hW
      replace hF := hid hF
      go_wp2_with (first | (go_at_call 14; (with_reducible refine (hal.out).mono ?_); rintro e w7 ⟨v, rfl, ⟨L, hLe, hms⟩, hb7⟩; obtain ⟨va, vc, rfl⟩ := hms.shape; have hFb := hid (hF.out.below hb7); have hW7 := hid (hW.out.next hb7); have hrowL := hid (hms.mono (ok' := fun b => b ≠ fb) (okw' := fun b => b ≠ fb) (fun b h _ e => by have := hF.out.lt; omega) (fun b h _ e => by have := hF.out.lt; omega)); clear hms hb7; have hLm := hid (show ∀ x ∈ L.map Prod.snd, 1 ≤ x.seq ∧ x.seq ≤ g.seq from by rw [hLe]; exact hLm0.out); have hLb := hid (show L.length ≤ 26 from by have h1 := h24.out; rw [← hLe, List.length_map] at h1; omega); replace hLe := hid hLe))
      go_loopg [18] L.length (fun g2' sj wr => ∃ j : Nat, j ≤ L.length ∧ g2' = L.length - j ∧ sj = .int .i64 j ∧ pts wr fb (encF (addF F ((L.map Prod.snd).take j))) 3 ∧ Chg (fun b => b = fb) w7 wr)
      case atStart => exact ⟨0, Nat.zero_le _, rfl, rfl, by simpa [addF] using hFb.out, Chg.refl _ _⟩
      case round =>
        obtain ⟨j, hj, hg2, rfl, hFz, hCz⟩ := hrel
        have hrow := hid (hrowL.out.kept hCz.size (fun b hb hlt => hCz.block b hlt (fun e => hb.elim (fun h => h e) (fun h => h e))))
        by_cases hjl : j < L.length
        · have dj : decide ((j : Int) < L.length) = true := decide_eq_true (by omega)
          have hj26 : j < 26 := Nat.lt_of_lt_of_le hjl hLb.out
          obtain ⟨yg, yo, ya, yc, rfl, hgm, -, hat, hiw⟩ := hrow.out.at5 hjl
          obtain ⟨-, hlc, hlm, -⟩ := hrow.out.get
          have hmm : L[j].2 ∈ L.map Prod.snd := List.mem_map.2 ⟨L[j], List.getElem_mem hjl, rfl⟩
          obtain ⟨hm1, hm2⟩ := hLm.out _ hmm
          have hsnoc := addF_snoc F ((L.map Prod.snd).take j) L[j].2
          have htk : (L.map Prod.snd).take (j + 1) = (L.map Prod.snd).take j ++ [L[j].2] := by rw [List.take_succ_eq_append_getElem (by simpa using hjl)]; simp
          rw [← htk] at hsnoc
          have hsm := addF_small hFI.out.small (by decide) ((L.map Prod.snd).take j)
          have htl : ((L.map Prod.snd).take j).length ≤ j := by simp; omega
          have hFl : (addF F ((L.map Prod.snd).take j)).length = 90 := by rw [addF_len]; exact hFI.out.len
          generalize L[j].2 = x at hm1 hm2 hat hsnoc
          generalize hFj : addF F ((L.map Prod.snd).take j) = Fj at hFz hsnoc hsm hFl
          obtain ⟨n, hn⟩ : ∃ n : Nat, x.seq = n := ⟨x.seq.toNat, by omega⟩
          have hnt : x.seq.toNat = n := by omega
          rw [hnt] at hsnoc
          have hn90 : n < 90 := by have := hsq90.out; omega
          obtain ⟨y, hy⟩ : ∃ y, y = Fj.getD n 0 := ⟨_, rfl⟩
          have hy01 : 0 ≤ y ∧ y ≤ 100 := by have := hsm n; rw [← hy] at this; omega
          rw [← hy] at hsnoc
          have cf := hFz.cell n
          rw [encF_get Fj (by omega), ← hy] at cf
          have ff := hFz.frozen n
          have fl := hFz.lt
          obtain ⟨x0, x1, x2, x3, x4, xl⟩ := hat
          rw [hn] at x4
          have l1 : decide ((n : Int) < 1) = false := decide_eq_false (by omega)
          have l2 : decide ((n : Int) > g.seq) = false := decide_eq_false (by omega)
          have l3 : decide (g.seq < (n : Int)) = false := decide_eq_false (by omega)
          have hFn := hid (show pts (wr.setCell ⟨fb, n, none⟩ (.int .i64 (y + 1))) fb (encF (addF F ((L.map Prod.snd).take (j + 1)))) 3 from by rw [hsnoc, ← encF_set]; exact hFz.set n _)
          have hCn := hid (show Chg (fun b => b = fb) w7 (wr.setCell ⟨fb, n, none⟩ (.int .i64 (y + 1))) from hCz.setB rfl)
          obtain ⟨hy0, hy1⟩ := hy01
          clear hy hsnoc hFj hsm hFl htl hmm hm1 hm2 hn hnt hFz hCz hrow htk x0 x1 x2 x3 hiw
          go_wp2
          go_roundg (L.length - (j + 1))
          case rel => exact ⟨j + 1, by omega, rfl, by go_num, hFn.out, hCn.out⟩
          case measure => omega
        · have dj : decide ((j : Int) < L.length) = false := decide_eq_false (by omega)
          have hall : (L.map Prod.snd).take j = L.map Prod.snd := List.take_of_length_le (by simp; omega)
          rw [hall] at hFz
          have hfin := hid (show Below w.heap.size w wr from hB3.out.trans ((hW7.out.chgB hCz (fun b e => by have e : b = fb := e; subst e; exact hfge.out)).below.mono hs3.out))
          obtain ⟨-, hlc, hlm, -⟩ := hrow.out.get
          have hFl : (addF F (L.map Prod.snd)).length = 90 := by rw [addF_len]; exact hFI.out.len
          have hlast2 := hid (fun (n : Nat) (h1 : 1 ≤ n) (h2 : (n : Int) ≤ g.seq) => show (addF F (L.map Prod.snd)).getD n 0 = 1 from by rw [hLe.out]; exact hlast.out n h1 h2)
          generalize addF F (L.map Prod.snd) = FF at hFz hFl hlast2
          clear hCz hrow hall hR hW hF
          replace hFz := hid hFz
          go_wp2
          go_loopg [19] (g.seq.toNat + 1) (fun g3 sn wq => ∃ n : Nat, 1 ≤ n ∧ (n : Int) ≤ g.seq + 1 ∧ g3 = g.seq.toNat + 2 - n ∧ sn = .int .i64 n ∧ wq = wr)
          case atStart => exact ⟨1, Nat.le_refl _, by have := hq0h.out; omega, by omega, rfl, rfl⟩
          case round =>
            obtain ⟨n, hn1', hn2', hg3, rfl, rfl⟩ := hrel
            by_cases hns : (n : Int) ≤ g.seq
            · have dn : decide ((n : Int) ≤ g.seq) = true := decide_eq_true hns
              have hn90 : n < 90 := by have := hsq90.out; omega
              have cf := hFz.out.cell n
              rw [encF_get FF (by omega), hlast2.out n hn1' hns] at cf
              have fl := hFz.out.lt
              have hsq := hsq90.out
              go_wp2
              go_roundg (g.seq.toNat + 2 - (n + 1))
              case rel => exact ⟨n + 1, by omega, by push_cast; omega, rfl, by go_num, rfl⟩
              case measure => omega
            · have dn : decide ((n : Int) ≤ g.seq) = false := decide_eq_false hns
              go_wp2
              go_ret
              exact ⟨rfl, hfin.out⟩
end Go.Proofs.Ytggfallodkbgcaa.Ro
