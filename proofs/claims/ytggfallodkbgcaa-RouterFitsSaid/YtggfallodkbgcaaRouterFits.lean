/- DERIVED. The walk over the statement RouterFits: as many steps do something as Fits tells, and then none does. -/
import Derived.Test.YtggfallodkbgcaaRouterFitsP
import Derived.Test.YtggfallodkbgcaaRegS
namespace Go.Proofs.Ytggfallodkbgcaa.Ro
set_option linter.unusedVariables false
set_option linter.unusedSimpArgs false
open Go.RowKit Go.Proofs.Ytggfallodkbgcaa.K Go.Proofs.Ytggfallodkbgcaa.Lb Go.Proofs.Ytggfallodkbgcaa.La Go.Proofs.Ytggfallodkbgcaa.Cf Go.Proofs.Ytggfallodkbgcaa.Gt Go.Proofs.Ytggfallodkbgcaa.Qu Go.Proofs.Ytggfallodkbgcaa.Wh
theorem fldR (w : World) (x : Int) (v1 v2 v3 v4 v5 v6 v7 : Value) : (Instr.field 44 (.agg #[.int .i64 x, v1, v2, v3, v4, v5, v6, v7]) 0).run Try.prog w = .ok (.int .i64 x) w := by kernel_rfl
set_option maxHeartbeats 4000000 in
set_option maxRecDepth 100000 in
theorem rfits_c {w : World} (k : Chan) {ao : Option Addr} {n0 c0 : Nat} {qs : List RSt} (hs0 : RStepsAt w (.slice ao n0 c0) qs) (nw : Int) : Calls Try.prog 5 #[aggC k, .slice ao n0 c0, .int .i64 nw] w (LivesPost w) := by
  replace hs0 := hid hs0
  have hgd := hid (fun w => good_c w k)
  have hok := hid (goodR_ok k)
  have hb0 := hid ((Below.refl w.heap.size w).alloc (Nat.le_refl _) (.cells #[.int .i64 k.kind, .int .i64 k.frm, .int .i64 k.to, .int .i64 k.words, .int .i64 k.refresh, .int .i64 k.lanes, .int .i64 k.depth, .int .i64 k.hold, .int .i64 k.life, .int .i64 k.rate, .int .i64 k.cap] 23))
  have hK0 := hid (pts.newA w #[.int .i64 k.kind, .int .i64 k.frm, .int .i64 k.to, .int .i64 k.words, .int .i64 k.refresh, .int .i64 k.lanes, .int .i64 k.depth, .int .i64 k.hold, .int .i64 k.life, .int .i64 k.rate, .int .i64 k.cap] 23)
  generalize goodK k = kg at hgd hok
  unfold aggC at *
  go_enter Try.func5, Try.ntmps5
  go_upto_region 3 with (first | (go_at_call 7; (with_reducible refine (lives_c _).mono ?_); rintro e W1 ⟨rfl, hb⟩; have hK1 := hid (hK0.out.below hb); have hB1 := hid (Below.next hb0.out hb hb0.out.size); clear hb))
  obtain ⟨kb, hkb⟩ : ∃ kb, kb = w.heap.size := ⟨_, rfl⟩
  rw [← hkb] at hK1 ⊢
  have hkb0 : w.heap.size ≤ kb := by omega
  replace hkb := hid hkb
  clear hb0 hK0
  have y0 := (hK1.out).cell 0
  have y1 := (hK1.out).cell 1
  have y2 := (hK1.out).cell 2
  have y3 := (hK1.out).cell 3
  have y4 := (hK1.out).cell 4
  have y5 := (hK1.out).cell 5
  have y6 := (hK1.out).cell 6
  have y7 := (hK1.out).cell 7
  have y8 := (hK1.out).cell 8
  have y9 := (hK1.out).cell 9
  have y10 := (hK1.out).cell 10
  have yl := (hK1.out).lt
  have yf := fun o => (hK1.out).frozen o
  simp only [List.getElem?_cons_zero, List.getElem?_cons_succ] at y0 y1 y2 y3 y4 y5 y6 y7 y8 y9 y10
  go_upto_region 4 with (first | (go_at_call 8; (with_reducible refine (hgd.out _).mono ?_); rintro e W2 ⟨rfl, hb⟩; have hK2 := hK1.out.below hb; have hB2 := hid (Below.next hB1.out hb hB1.out.size); clear hb y0 y1 y2 y3 y4 y5 y6 y7 y8 y9 y10 yl yf; have z0 := hK2.cell 0; have z1 := hK2.cell 1; have z2 := hK2.cell 2; have z3 := hK2.cell 3; have z4 := hK2.cell 4; have z5 := hK2.cell 5; have z6 := hK2.cell 6; have z7 := hK2.cell 7; have z8 := hK2.cell 8; have z9 := hK2.cell 9; have z10 := hK2.cell 10; have zl := hK2.lt; have zf := fun o => hK2.frozen o; simp only [List.getElem?_cons_zero, List.getElem?_cons_succ] at z0 z1 z2 z3 z4 z5 z6 z7 z8 z9 z10; replace hK2 := hid hK2))
  have hK3 := hid (setN_pts0 hK2.out [.int .i64 kg.kind, .int .i64 kg.frm, .int .i64 kg.to, .int .i64 kg.words, .int .i64 kg.refresh, .int .i64 kg.lanes, .int .i64 kg.depth, .int .i64 kg.hold, .int .i64 kg.life, .int .i64 kg.rate, .int .i64 kg.cap] rfl)
  have hB3 := hid (setN_below kb hkb0 [.int .i64 kg.kind, .int .i64 kg.frm, .int .i64 kg.to, .int .i64 kg.words, .int .i64 kg.refresh, .int .i64 kg.lanes, .int .i64 kg.depth, .int .i64 kg.hold, .int .i64 kg.life, .int .i64 kg.rate, .int .i64 kg.cap] 0 _ hB2.out)
  change Code.wp _ _ _ _ (setN W2 kb 0 [.int .i64 kg.kind, .int .i64 kg.frm, .int .i64 kg.to, .int .i64 kg.words, .int .i64 kg.refresh, .int .i64 kg.lanes, .int .i64 kg.depth, .int .i64 kg.hold, .int .i64 kg.life, .int .i64 kg.rate, .int .i64 kg.cap])
  clear z0 z1 z2 z3 z4 z5 z6 z7 z8 z9 z10 zl zf
  generalize setN W2 kb 0 [.int .i64 kg.kind, .int .i64 kg.frm, .int .i64 kg.to, .int .i64 kg.words, .int .i64 kg.refresh, .int .i64 kg.lanes, .int .i64 kg.depth, .int .i64 kg.hold, .int .i64 kg.life, .int .i64 kg.rate, .int .i64 kg.cap] = w3 at hK3 hB3 ⊢
  clear hK2 hB2 hK1 hB1 hgd
  have hs3 := hid (show w.heap.size ≤ w3.heap.size from hB3.out.size)
  -- REG empennage/empennagelaw19.RouterFits|4|Router3.4
  refine region_tab 4 [Sp.eq (.agg #[.int .i64 kg.kind, .int .i64 kg.frm, .int .i64 kg.to, .int .i64 kg.words, .int .i64 kg.refresh, .int .i64 kg.lanes, .int .i64 kg.depth, .int .i64 kg.hold, .int .i64 kg.life, .int .i64 kg.rate, .int .i64 kg.cap]), Sp.of (fun v u => ∃ gb, ∃ M : Nat → Prop, v = .pointer (some ⟨gb, 0, none⟩) ∧ GateF u M (fun _ => False) gb ⟨kg, [], newB kg.rate kg.cap, 0⟩ ∧ ∀ b, M b → w3.heap.size ≤ b) (fun v w w' h hb => (let ⟨gb, M, h1, h2, h3⟩ := h; ⟨gb, M, h1, h2.below hb, h3⟩)), Sp.eq (.pointer (some ⟨kb, 7, none⟩)), Sp.eq (.int .i64 kg.hold)] (fun _ _ _ _ _ h => h) (by kernel_rfl) (by kernel_rfl) ⟨?_, ?_, ?_, ?_, trivial⟩ ?_
  · intro ac gs u hb hg h
    have e3 : ac.tmps[3]?.getD undef = .pointer (some ⟨kb, 0, none⟩) := h.inm 3 rfl rfl
    refine opFree rfl ?_
    exact relRun (v := .agg #[.int .i64 kg.kind, .int .i64 kg.frm, .int .i64 kg.to, .int .i64 kg.words, .int .i64 kg.refresh, .int .i64 kg.lanes, .int .i64 kg.depth, .int .i64 kg.hold, .int .i64 kg.life, .int .i64 kg.rate, .int .i64 kg.cap]) (w' := u) (by simp [go_sem, e3, ((hK3.out.below hb).cell 0), ((hK3.out.below hb).cell 1), ((hK3.out.below hb).cell 2), ((hK3.out.below hb).cell 3), ((hK3.out.below hb).cell 4), ((hK3.out.below hb).cell 5), ((hK3.out.below hb).cell 6), ((hK3.out.below hb).cell 7), ((hK3.out.below hb).cell 8), ((hK3.out.below hb).cell 9), ((hK3.out.below hb).cell 10)]) (okP hg rfl)
  · intro ac gs u hb hg h
    have e17 : ac.tmps[17]?.getD undef = .agg #[.int .i64 kg.kind, .int .i64 kg.frm, .int .i64 kg.to, .int .i64 kg.words, .int .i64 kg.refresh, .int .i64 kg.lanes, .int .i64 kg.depth, .int .i64 kg.hold, .int .i64 kg.life, .int .i64 kg.rate, .int .i64 kg.cap] := h.tm 0 17 rfl rfl
    refine opFree rfl ?_
    refine relCall (f := _) (args := #[.agg #[.int .i64 kg.kind, .int .i64 kg.frm, .int .i64 kg.to, .int .i64 kg.words, .int .i64 kg.refresh, .int .i64 kg.lanes, .int .i64 kg.depth, .int .i64 kg.hold, .int .i64 kg.life, .int .i64 kg.rate, .int .i64 kg.cap]]) (by simp [go_sem, e17]; rfl) ?_
    refine (gnew_f _ kg).mono ?_
    rintro e w' ⟨gb, M, rfl, hG, hge, hb'⟩
    exact ⟨_, rfl, okB hg hb' ⟨gb, M, rfl, hG, fun b h => Nat.le_trans hb.size (hge b h)⟩⟩
  · intro ac gs u hb hg h
    have e3 : ac.tmps[3]?.getD undef = .pointer (some ⟨kb, 0, none⟩) := h.inm 3 rfl rfl
    refine opFree rfl ?_
    exact relRun (v := .pointer (some ⟨kb, 7, none⟩)) (w' := u) (by simp [go_sem, e3]) (okP hg rfl)
  · intro ac gs u hb hg h
    have e19 : ac.tmps[19]?.getD undef = .pointer (some ⟨kb, 7, none⟩) := h.tm 2 19 rfl rfl
    refine opFree rfl ?_
    exact relRun (v := .int .i64 kg.hold) (w' := u) (by simp [go_sem, e19, ((hK3.out.below hb).cell 7)]) (okP hg rfl)
  intro vs gs u hb hg hr
  have r0 : vs 0 = .agg #[.int .i64 kg.kind, .int .i64 kg.frm, .int .i64 kg.to, .int .i64 kg.words, .int .i64 kg.refresh, .int .i64 kg.lanes, .int .i64 kg.depth, .int .i64 kg.hold, .int .i64 kg.life, .int .i64 kg.rate, .int .i64 kg.cap] := hr 0 (by decide)
  have r1 := hr 1 (by decide)
  have r2 : vs 2 = .pointer (some ⟨kb, 7, none⟩) := hr 2 (by decide)
  have r3 : vs 3 = .int .i64 kg.hold := hr 3 (by decide)
  simp only [List.take_succ_cons, List.take_zero, List.drop_succ_cons, List.drop_zero, putOps, r0, r2, r3]
  simp only [Act.put, List.setIfInBounds_toArray, List.set_cons_succ, List.set_cons_zero]
  clear hr r0 r2 r3
  -- GER
  obtain ⟨gb, M4, e19, hG4, hge4⟩ := r1
  rw [e19]
  replace hG4 := hid hG4
  clear e19
  have hB4 := hid (Below.next hB3.out hb hB3.out.size)
  have hsz4 := hid (show w3.heap.size ≤ u.heap.size from hb.size)
  replace hge4 := hid hge4
  have hBw3 := hid hb
  clear hb hg
  go_upto_region 5 with (first | (go_at_call 10; (with_reducible refine (new_x _ kg.hold).mono ?_); rintro e w5 ⟨pb, Mp, rfl, hP, hge, hb⟩; have hR5 := hid (RS.new hG4.out hb hP hge); have hB5 := hid (Below.next hB4.out hb hB4.out.size); have hW5 := hid (show Wd w3.heap.size w3 w5 (fun b => M4 b ∨ Mp b) from ⟨by have := hBw3.out; exact Below.next this hb hsz4.out, fun b h => h.elim (hge4.out b) (fun h => Nat.le_trans hsz4.out (hge b h)), fun b h => hR5.out.lt b (.inl h), Nat.le_trans hsz4.out hb.size⟩); clear hP hge hb))
  generalize (fun b => M4 b ∨ Mp b) = M5 at hR5 hW5
  clear hG4 hge4 hB4
  go_wp2_with (first | (go_at_call 11; (with_reducible refine (rearly_c (w0 := w) _ hs0.out).mono ?_); rintro e w' ⟨v', rfl, hv', rfl⟩; have hl80 := hid (show (qs.take 80).length ≤ 80 by simp; omega); generalize qs.take 80 = ys at hv' hl80; obtain ⟨a3, c3, rfl⟩ := hv'.shape; replace hv' := hid hv'))
  have hKB := hid (show kb < w3.heap.size from hK3.out.lt)
  go_loopg [9] ys.length (fun gg si wr => ∃ (i : Nat) (g : Gte) (M W : Nat → Prop), i ≤ ys.length ∧ gg = ys.length - i ∧ si = .int .i64 i ∧ g.seq ≤ i ∧ RS wr M W gb pb g (newP kg.hold) ∧ Wd w3.heap.size w3 wr M)
  case atStart => exact ⟨0, _, M5, _, by omega, rfl, rfl, by simp, hR5.out, hW5.out⟩
  case round =>
    clear hR5 hW5
    obtain ⟨i, g, M, W, hi, hgg, rfl, hsq, hR, hW⟩ := hrel
    have hBw := hid (hB3.out.trans (hW.below.mono hs3.out))
    by_cases hlt : i < ys.length
    · obtain ⟨xg, xo, rfl, xl, c0, c1, c2, c3'⟩ := hv'.out.atC hBw.out hlt
      have hi80 : i < 80 := Nat.lt_of_lt_of_le hlt hl80.out
      have d1 : decide ((i : Int) < ys.length) = true := decide_eq_true (by omega)
      obtain ⟨-, hlc, hlm, -⟩ := hv'.out.get
      generalize ys[i] = q at c0 c1 c2 c3'
      have hof := hid (hR.offerLit i 0 q.lane i i (by omega) rfl)
      have hos := hid (offer_seq g 0 q.lane i i [(i : Int)])
      generalize offerT g 0 q.lane [(i : Int)] i i = R at hof hos
      replace hR := hid hR
      replace hW := hid hW
      clear c0 c2 c3'
      go_wp2_with (first | (go_at_call 13; (with_reducible refine (hof.out).mono ?_); rintro e w7 ⟨a7, c7, M7, W7, rfl, -, hT⟩; have hR7 := hid hT.1; have hW7 := hid (RS.wd hW.out hT); clear hT))
      go_roundg (ys.length - (i + 1))
      case rel => exact ⟨i + 1, R.1, M7, W7, by omega, rfl, by go_num, by have := hos.out; push_cast; omega, hR7.out, hW7.out⟩
      case measure => omega
    · have d1 : decide ((i : Int) < ys.length) = false := decide_eq_false (by omega)
      replace hR := hid hR
      replace hW := hid hW
      go_upto_region 11 with fail
      generalize wrap64 ((IntKind.u64.wrap nw).tmod 150) = now
      have h24 := hid (show g.ms.length ≤ 24 by obtain ⟨Mg, hG⟩ := hR.out.gate; have := hG.inv.len; omega)
      have hfit := hid (show ∀ u : World, RS u M W gb pb g (newP kg.hold) → Calls Try.prog 17 #[.pointer (some ⟨gb, 0, none⟩), .pointer (some ⟨pb, 0, none⟩), .int .i64 now] u fun e w' => e = .returned (.int .i64 ((restT now g.ms).length : Nat)) ∧ Below u.heap.size u w' from fun u h => by obtain ⟨Mg, hG⟩ := h.gate; exact fits_c hG _ now)
      have hal := hid (show ∀ u : World, RS u M W gb pb g (newP kg.hold) → Calls Try.prog 14 #[.pointer (some ⟨gb, 0, none⟩)] u (ResR u (sortM g.ms)) from fun u h => by obtain ⟨Mg, hG⟩ := h.gate; exact gall_c hG.toM)
      have hsp := hid (show ∀ u : World, RS u M W gb pb g (newP kg.hold) → Calls Try.prog 18 #[.pointer (some ⟨gb, 0, none⟩), .pointer (some ⟨pb, 0, none⟩), .int .i64 now, .int .i64 100] u (StepsRP u M W gb pb (stepsR now 100 g (newP kg.hold))) from fun u h => steps_c h now 100 (by omega))
      have hall := stepsR_all now 100 g (newP kg.hold) (by have := rest_len (now := now) h24.out; omega)
      have hhd := stepsR_hold now 100 g (newP kg.hold)
      have hN24 := rest_len (now := now) h24.out
      generalize hNe : (restT now g.ms).length = N at hfit hall hN24
      clear hNe
      generalize stepsR now 100 g (newP kg.hold) = T at hsp hall hhd
      obtain ⟨g1, p1, tl⟩ := T
      simp only at hall hhd
      have hg1 := hid hall.2
      have htl := hid hall.1
      have hhd := hid (show p1.hold = kg.hold by rw [hhd]; show holdT kg.hold = kg.hold; have := hok.out.hold; unfold holdT; omega)
      have n0' : decide ((N : Int) < 0) = false := decide_eq_false (by omega)
      have n24 : decide ((N : Int) > 24) = false := decide_eq_false (by omega)
      have n24' : decide (24 < (N : Int)) = false := decide_eq_false (by omega)
      have hN24' := hid hN24
      clear hall hN24
      go_upto_region 15 with (first | (go_at_call 14; (with_reducible refine (hal.out _ hR.out).mono ?_); rintro e w5 ⟨v, rfl, hm5, hb5⟩; obtain ⟨va, vc, rfl⟩ := hm5.shape; have hR5 := hid (hR.out.below hb5); have hW5 := hid (hW.out.next hb5); clear hb5; replace hm5 := hid hm5) | (go_at_call 17; (with_reducible refine (hfit.out _ hR5.out).mono ?_); rintro e w6 ⟨rfl, hb6⟩; have hR6 := hid (hR5.out.below hb6); have hW6 := hid (hW5.out.next hb6); have hm6 := hid (hm5.out.below hb6); clear hb6) | (go_at_call 14; (with_reducible refine (hal.out _ hR6.out).mono ?_); rintro e w7 ⟨v, rfl, hm7, hb7⟩; obtain ⟨ua, uc, rfl⟩ := hm7.shape; have hR7 := hid (hR6.out.below hb7); have hW7 := hid (hW6.out.next hb7); obtain ⟨z1, hz1, hy1⟩ := hm6.out.below hb7; obtain ⟨z2, hz2, hy2⟩ := hm7; have hsm := hid (R2.same_eq hy1 hy2 (hz1.trans hz2.symm)); clear hb7 hy1 hy2 hz1 hz2) | (go_at_call 19; (with_reducible refine (hsm.out).mono ?_); rintro e w8' ⟨rfl, hb8⟩; have hR7' := hid (hR7.out.below hb8); have hW7' := hid (hW7.out.next hb8); clear hb8))
      clear hm5 hm6 hsm hR5 hR6 hW5 hW6 hR7 hW7 hR hW hal hfit
      go_upto_region 16 with (first | (go_at_call 18; (with_reducible refine (hsp.out _ hR7'.out).mono ?_); rintro e w8 ⟨v, l, M8, W8, rfl, hl, ho, -, -, hT⟩; obtain ⟨vo, vc8, rfl⟩ := K.own_shape ho; have hlN : l.length = N := (by have h1 := congrArg List.length hl; rw [List.length_map] at h1; rw [h1]; exact htl.out); rw [hlN]; have hT : TurnR w8' M W gb pb g1 p1 M8 W8 w8 := hT; have hR8 := hid hT.1; have hW8 := hid (RS.wd hW7'.out hT); clear ho hl hT hlN))
      have hK8 := hid (hK3.out.below hW8.out.below)
      have hkM := hid (show ¬ (M8 kb ∨ w8.heap.size ≤ kb) from fun h => by
        rcases h with h | h
        · have := hW8.out.ge kb h; have := hKB.out; omega
        · have := hK8.out.lt; omega)
      have hle := hid (show decide ((p1.ms.length : Int) ≤ kg.hold) = true from decide_eq_true (by obtain ⟨Mp, hP⟩ := hR8.out.port; have := hP.inv.room; rw [hhd.out] at this; exact this))
      have hBw8 := hid (hB3.out.trans (hW8.out.below.mono hs3.out))
      have hge8 := hid (show ∀ b, (M8 b ∨ w8.heap.size ≤ b) → w.heap.size ≤ b from fun b h => by
        rcases h with h | h
        · exact Nat.le_trans hs3.out (hW8.out.ge b h)
        · exact Nat.le_trans hBw8.out.size h)
      clear hR7' hW7' hsp
      -- REG empennage/empennagelaw19.RouterFits|16|RouterFits.16
      refine region_chgS 33 (fun b => M8 b ∨ w8.heap.size ≤ b) (fun k => k == 13 || k == 21) (fun u => ∃ M W : Nat → Prop, RS u M W gb pb g1 p1 ∧ ∀ b, M b → M8 b ∨ w8.heap.size ≤ b) [Sp.eq (.slice vo N vc8), Sp.eq (.int .i64 N), Sp.eq (.int .i64 N), Sp.eq (.bool true), Sp.eq (.bool true), Sp.eq (.pointer (some ⟨gb, 0, none⟩)), Sp.eq (.int .i64 0), Sp.eq (.bool true), Sp.eq (.bool true), Sp.eq (.bool true), Sp.eq (.pointer (some ⟨gb, 0, none⟩)), Sp.eq (.pointer (some ⟨pb, 0, none⟩)), Sp.eq (.int .i64 now), Sp.of (fun v u => ∃ a c la ln lc, v = .agg #[.int .i64 0, .int .i64 0, .slice a 0 c, .int .i64 0, .int .i64 0, .int .i64 0, .int .i64 0, .slice la ln lc]) (fun v w w' h hb => h), Sp.eq (.int .i64 0), Sp.eq (.bool true), Sp.eq (.bool true), Sp.eq (.bool true), Sp.eq (.pointer (some ⟨gb, 0, none⟩)), Sp.eq (.pointer (some ⟨pb, 0, none⟩)), Sp.eq (.int .i64 now), Sp.of (fun v u => ∃ la lc, v = .slice la 0 lc) (fun v w w' h hb => h), Sp.eq (.int .i64 0), Sp.eq (.bool true), Sp.eq (.bool true), Sp.eq (.bool true), Sp.eq (.pointer (some ⟨pb, 0, none⟩)), Sp.eq (.int .i64 p1.ms.length), Sp.eq (.pointer (some ⟨kb, 7, none⟩)), Sp.eq (.int .i64 kg.hold), Sp.eq (.bool true), Sp.eq (.bool true), Sp.eq (.bool true)] (fun _ _ _ _ _ h => h) (by kernel_rfl) (by kernel_rfl) (⟨M8, W8, hR8.out, fun b h => .inl h⟩) (fun u u' h hb => let ⟨M, W, h1, h2⟩ := h; ⟨M, W, h1.below hb, h2⟩) (fun j => match j with | 0 => fun _ _ _ _ h _ => h | 1 => fun _ _ _ _ h _ => h | 2 => fun _ _ _ _ h _ => h | 3 => fun _ _ _ _ h _ => h | 4 => fun _ _ _ _ h _ => h | 5 => fun _ _ _ _ h _ => h | 6 => fun _ _ _ _ h _ => h | 7 => fun _ _ _ _ h _ => h | 8 => fun _ _ _ _ h _ => h | 9 => fun _ _ _ _ h _ => h | 10 => fun _ _ _ _ h _ => h | 11 => fun _ _ _ _ h _ => h | 12 => fun _ _ _ _ h _ => h | 13 => fun _ _ _ _ h _ => h | 14 => fun _ _ _ _ h _ => h | 15 => fun _ _ _ _ h _ => h | 16 => fun _ _ _ _ h _ => h | 17 => fun _ _ _ _ h _ => h | 18 => fun _ _ _ _ h _ => h | 19 => fun _ _ _ _ h _ => h | 20 => fun _ _ _ _ h _ => h | 21 => fun _ _ _ _ h _ => h | 22 => fun _ _ _ _ h _ => h | 23 => fun _ _ _ _ h _ => h | 24 => fun _ _ _ _ h _ => h | 25 => fun _ _ _ _ h _ => h | 26 => fun _ _ _ _ h _ => h | 27 => fun _ _ _ _ h _ => h | 28 => fun _ _ _ _ h _ => h | 29 => fun _ _ _ _ h _ => h | 30 => fun _ _ _ _ h _ => h | 31 => fun _ _ _ _ h _ => h | 32 => fun _ _ _ _ h _ => h | _ + 33 => fun _ _ _ _ h _ => h) ⟨?_, ?_, ?_, ?_, ?_, ?_, ?_, ?_, ?_, ?_, ?_, ?_, ?_, ?_, ?_, ?_, ?_, ?_, ?_, ?_, ?_, ?_, ?_, ?_, ?_, ?_, ?_, ?_, ?_, ?_, ?_, ?_, ?_, trivial⟩ ?_
      · intro ac gs u hb hg hi h
        have e12 : ac.tmps[12]?.getD undef = .slice vo N vc8 := h.inm 12 rfl rfl
        refine opFree rfl ?_
        exact relMoveT _ rfl e12 (okPs rfl hg rfl)
      · intro ac gs u hb hg hi h
        have e68 : ac.tmps[68]?.getD undef = .slice vo N vc8 := h.tm 0 68 rfl rfl
        refine opFree rfl ?_
        exact relRun (v := .int .i64 N) (w' := u) (by simp [go_sem, e68]) (okPs rfl hg rfl)
      · intro ac gs u hb hg hi h
        have e11 : ac.tmps[11]?.getD undef = .int .i64 N := h.inm 11 rfl rfl
        refine opFree rfl ?_
        exact relMoveT _ rfl e11 (okPs rfl hg rfl)
      · intro ac gs u hb hg hi h
        have e69 : ac.tmps[69]?.getD undef = .int .i64 N := h.tm 1 69 rfl rfl
        have e70 : ac.tmps[70]?.getD undef = .int .i64 N := h.tm 2 70 rfl rfl
        refine opFree rfl ?_
        exact relRun (v := .bool true) (w' := u) (by simp [go_sem, e69, e70]) (okPs rfl hg rfl)
      · intro ac gs u hb hg hi h
        have e71 : ac.tmps[71]?.getD undef = .bool true := h.tm 3 71 rfl rfl
        refine opFree rfl ?_
        exact relMoveT _ rfl e71 (okPs rfl hg rfl)
      · intro ac gs u hb hg hi h
        have e72 : ac.tmps[72]?.getD undef = .bool true := h.tm 4 72 rfl rfl
        have e7 : ac.tmps[7]?.getD undef = .pointer (some ⟨gb, 0, none⟩) := h.inm 7 rfl rfl
        refine opWant 4 72 rfl rfl e72 ?_
        exact relMoveT _ rfl e7 (okPs rfl hg rfl)
      · intro ac gs u hb hg hi h
        have e72 : ac.tmps[72]?.getD undef = .bool true := h.tm 4 72 rfl rfl
        have e73 : ac.tmps[73]?.getD undef = .pointer (some ⟨gb, 0, none⟩) := h.tm 5 73 rfl rfl
        refine opWant 4 72 rfl rfl e72 ?_
        obtain ⟨M, W, hR, hMs⟩ := hi
        obtain ⟨Mg, hG⟩ := hR.gate
        refine relCall (f := _) (args := #[.pointer (some ⟨gb, 0, none⟩)]) (by simp [go_sem, e72, e73]; rfl) ?_
        refine (glen_c hG.toM).mono ?_
        rintro e w' ⟨rfl, rfl⟩
        exact ⟨_, rfl, okPs rfl hg (show Value.int .i64 _ = .int .i64 0 by rw [hg1.out]; rfl)⟩
      · intro ac gs u hb hg hi h
        have e72 : ac.tmps[72]?.getD undef = .bool true := h.tm 4 72 rfl rfl
        have e74 : ac.tmps[74]?.getD undef = .int .i64 0 := h.tm 6 74 rfl rfl
        refine opWant 4 72 rfl rfl e72 ?_
        exact relRun (v := .bool true) (w' := u) (by simp [go_sem, e72, e74]) (okPs rfl hg rfl)
      · intro ac gs u hb hg hi h
        have e72 : ac.tmps[72]?.getD undef = .bool true := h.tm 4 72 rfl rfl
        have e75 : ac.tmps[75]?.getD undef = .bool true := h.tm 7 75 rfl rfl
        refine opFree rfl ?_
        exact relRun (v := .bool true) (w' := u) (by simp [go_sem, e72, e75]) (okPs rfl hg rfl)
      · intro ac gs u hb hg hi h
        have e76 : ac.tmps[76]?.getD undef = .bool true := h.tm 8 76 rfl rfl
        refine opFree rfl ?_
        exact relMoveT _ rfl e76 (okPs rfl hg rfl)
      · intro ac gs u hb hg hi h
        have e77 : ac.tmps[77]?.getD undef = .bool true := h.tm 9 77 rfl rfl
        have e7 : ac.tmps[7]?.getD undef = .pointer (some ⟨gb, 0, none⟩) := h.inm 7 rfl rfl
        refine opWant 9 77 rfl rfl e77 ?_
        exact relMoveT _ rfl e7 (okPs rfl hg rfl)
      · intro ac gs u hb hg hi h
        have e77 : ac.tmps[77]?.getD undef = .bool true := h.tm 9 77 rfl rfl
        have e8 : ac.tmps[8]?.getD undef = .pointer (some ⟨pb, 0, none⟩) := h.inm 8 rfl rfl
        refine opWant 9 77 rfl rfl e77 ?_
        exact relMoveT _ rfl e8 (okPs rfl hg rfl)
      · intro ac gs u hb hg hi h
        have e77 : ac.tmps[77]?.getD undef = .bool true := h.tm 9 77 rfl rfl
        have e2 : ac.tmps[2]?.getD undef = .int .i64 now := h.inm 2 rfl rfl
        refine opWant 9 77 rfl rfl e77 ?_
        exact relMoveT _ rfl e2 (okPs rfl hg rfl)
      · intro ac gs u hb hg hi h
        have e77 : ac.tmps[77]?.getD undef = .bool true := h.tm 9 77 rfl rfl
        have e78 : ac.tmps[78]?.getD undef = .pointer (some ⟨gb, 0, none⟩) := h.tm 10 78 rfl rfl
        have e79 : ac.tmps[79]?.getD undef = .pointer (some ⟨pb, 0, none⟩) := h.tm 11 79 rfl rfl
        have e80 : ac.tmps[80]?.getD undef = .int .i64 now := h.tm 12 80 rfl rfl
        refine opWant 9 77 rfl rfl e77 ?_
        obtain ⟨M, W, hR, hMs⟩ := hi
        refine relCall (f := _) (args := #[.pointer (some ⟨gb, 0, none⟩), .pointer (some ⟨pb, 0, none⟩), .int .i64 now]) (by simp [go_sem, e77, e78, e79, e80]; rfl) ?_
        refine (hR.step (stepR_nil hg1.out)).mono ?_
        rintro e w' ⟨lv, lqs, a, c, M', W', rfl, -, -, ho, -, -, hT⟩
        have hT : TurnR u M W gb pb g1 p1 M' W' w' := hT
        obtain ⟨la, lc, rfl⟩ := K.own_shape ho
        exact ⟨_, rfl, okS rfl hg (hT.2.2.2.2.2.mono hMs) ⟨M', W', hT.1, fun b h => (hT.2.1 b h).elim (hMs b) (fun h => .inr (Nat.le_trans hb.size h))⟩ ⟨a, c, la, _, lc, rfl⟩⟩
      · intro ac gs u hb hg hi h
        have e77 : ac.tmps[77]?.getD undef = .bool true := h.tm 9 77 rfl rfl
        have e81 := h.tm 13 81 rfl rfl
        refine opWant 9 77 rfl rfl e77 ?_
        obtain ⟨a, c, la, ln, lc, h81⟩ := e81
        exact relRun (v := .int .i64 0) (w' := u) (by simp [go_sem, h81, fldR]) (okPs rfl hg rfl)
      · intro ac gs u hb hg hi h
        have e77 : ac.tmps[77]?.getD undef = .bool true := h.tm 9 77 rfl rfl
        have e82 : ac.tmps[82]?.getD undef = .int .i64 0 := h.tm 14 82 rfl rfl
        refine opWant 9 77 rfl rfl e77 ?_
        exact relRun (v := .bool true) (w' := u) (by simp [go_sem, e77, e82]) (okPs rfl hg rfl)
      · intro ac gs u hb hg hi h
        have e77 : ac.tmps[77]?.getD undef = .bool true := h.tm 9 77 rfl rfl
        have e83 : ac.tmps[83]?.getD undef = .bool true := h.tm 15 83 rfl rfl
        refine opFree rfl ?_
        exact relRun (v := .bool true) (w' := u) (by simp [go_sem, e77, e83]) (okPs rfl hg rfl)
      · intro ac gs u hb hg hi h
        have e84 : ac.tmps[84]?.getD undef = .bool true := h.tm 16 84 rfl rfl
        refine opFree rfl ?_
        exact relMoveT _ rfl e84 (okPs rfl hg rfl)
      · intro ac gs u hb hg hi h
        have e85 : ac.tmps[85]?.getD undef = .bool true := h.tm 17 85 rfl rfl
        have e7 : ac.tmps[7]?.getD undef = .pointer (some ⟨gb, 0, none⟩) := h.inm 7 rfl rfl
        refine opWant 17 85 rfl rfl e85 ?_
        exact relMoveT _ rfl e7 (okPs rfl hg rfl)
      · intro ac gs u hb hg hi h
        have e85 : ac.tmps[85]?.getD undef = .bool true := h.tm 17 85 rfl rfl
        have e8 : ac.tmps[8]?.getD undef = .pointer (some ⟨pb, 0, none⟩) := h.inm 8 rfl rfl
        refine opWant 17 85 rfl rfl e85 ?_
        exact relMoveT _ rfl e8 (okPs rfl hg rfl)
      · intro ac gs u hb hg hi h
        have e85 : ac.tmps[85]?.getD undef = .bool true := h.tm 17 85 rfl rfl
        have e2 : ac.tmps[2]?.getD undef = .int .i64 now := h.inm 2 rfl rfl
        refine opWant 17 85 rfl rfl e85 ?_
        exact relMoveT _ rfl e2 (okPs rfl hg rfl)
      · intro ac gs u hb hg hi h
        have e85 : ac.tmps[85]?.getD undef = .bool true := h.tm 17 85 rfl rfl
        have e86 : ac.tmps[86]?.getD undef = .pointer (some ⟨gb, 0, none⟩) := h.tm 18 86 rfl rfl
        have e87 : ac.tmps[87]?.getD undef = .pointer (some ⟨pb, 0, none⟩) := h.tm 19 87 rfl rfl
        have e88 : ac.tmps[88]?.getD undef = .int .i64 now := h.tm 20 88 rfl rfl
        refine opWant 17 85 rfl rfl e85 ?_
        obtain ⟨M, W, hR, hMs⟩ := hi
        refine relCall (f := _) (args := #[.pointer (some ⟨gb, 0, none⟩), .pointer (some ⟨pb, 0, none⟩), .int .i64 now, .int .i64 (-1)]) (by simp [go_sem, e85, e86, e87, e88]; rfl) ?_
        refine (steps_c hR now (-1) (by omega)).mono ?_
        rintro e w' ⟨v, l, M', W', rfl, hl, ho, -, -, hT⟩
        have hl0 : l = [] := List.map_eq_nil_iff.1 hl
        subst hl0
        have hT : TurnR u M W gb pb g1 p1 M' W' w' := hT
        obtain ⟨la, lc, rfl⟩ := K.own_shape ho
        exact ⟨_, rfl, okS rfl hg (hT.2.2.2.2.2.mono hMs) ⟨M', W', hT.1, fun b h => (hT.2.1 b h).elim (hMs b) (fun h => .inr (Nat.le_trans hb.size h))⟩ ⟨la, lc, rfl⟩⟩
      · intro ac gs u hb hg hi h
        have e85 : ac.tmps[85]?.getD undef = .bool true := h.tm 17 85 rfl rfl
        have e89 := h.tm 21 89 rfl rfl
        refine opWant 17 85 rfl rfl e85 ?_
        obtain ⟨la, lc, h89⟩ := e89
        exact relRun (v := .int .i64 0) (w' := u) (by simp [go_sem, h89]) (okPs rfl hg rfl)
      · intro ac gs u hb hg hi h
        have e85 : ac.tmps[85]?.getD undef = .bool true := h.tm 17 85 rfl rfl
        have e90 : ac.tmps[90]?.getD undef = .int .i64 0 := h.tm 22 90 rfl rfl
        refine opWant 17 85 rfl rfl e85 ?_
        exact relRun (v := .bool true) (w' := u) (by simp [go_sem, e85, e90]) (okPs rfl hg rfl)
      · intro ac gs u hb hg hi h
        have e85 : ac.tmps[85]?.getD undef = .bool true := h.tm 17 85 rfl rfl
        have e91 : ac.tmps[91]?.getD undef = .bool true := h.tm 23 91 rfl rfl
        refine opFree rfl ?_
        exact relRun (v := .bool true) (w' := u) (by simp [go_sem, e85, e91]) (okPs rfl hg rfl)
      · intro ac gs u hb hg hi h
        have e92 : ac.tmps[92]?.getD undef = .bool true := h.tm 24 92 rfl rfl
        refine opFree rfl ?_
        exact relMoveT _ rfl e92 (okPs rfl hg rfl)
      · intro ac gs u hb hg hi h
        have e93 : ac.tmps[93]?.getD undef = .bool true := h.tm 25 93 rfl rfl
        have e8 : ac.tmps[8]?.getD undef = .pointer (some ⟨pb, 0, none⟩) := h.inm 8 rfl rfl
        refine opWant 25 93 rfl rfl e93 ?_
        exact relMoveT _ rfl e8 (okPs rfl hg rfl)
      · intro ac gs u hb hg hi h
        have e93 : ac.tmps[93]?.getD undef = .bool true := h.tm 25 93 rfl rfl
        have e94 : ac.tmps[94]?.getD undef = .pointer (some ⟨pb, 0, none⟩) := h.tm 26 94 rfl rfl
        refine opWant 25 93 rfl rfl e93 ?_
        obtain ⟨M, W, hR, hMs⟩ := hi
        obtain ⟨Mp, hP⟩ := hR.port
        refine relCall (f := _) (args := #[.pointer (some ⟨pb, 0, none⟩)]) (by simp [go_sem, e93, e94]; rfl) ?_
        refine (len_x hP).mono ?_
        rintro e w' ⟨rfl, rfl⟩
        exact ⟨_, rfl, okPs rfl hg rfl⟩
      · intro ac gs u hb hg hi h
        have e93 : ac.tmps[93]?.getD undef = .bool true := h.tm 25 93 rfl rfl
        have e3 : ac.tmps[3]?.getD undef = .pointer (some ⟨kb, 0, none⟩) := h.inm 3 rfl rfl
        refine opWant 25 93 rfl rfl e93 ?_
        exact relRun (v := .pointer (some ⟨kb, 7, none⟩)) (w' := u) (by simp [go_sem, e93, e3]) (okPs rfl hg rfl)
      · intro ac gs u hb hg hi h
        have e93 : ac.tmps[93]?.getD undef = .bool true := h.tm 25 93 rfl rfl
        have e96 : ac.tmps[96]?.getD undef = .pointer (some ⟨kb, 7, none⟩) := h.tm 28 96 rfl rfl
        refine opWant 25 93 rfl rfl e93 ?_
        exact relRun (v := .int .i64 kg.hold) (w' := u) (by simp [go_sem, e93, e96, ((hK8.out.chg hb hkM.out).cell 7)]) (okPs rfl hg rfl)
      · intro ac gs u hb hg hi h
        have e93 : ac.tmps[93]?.getD undef = .bool true := h.tm 25 93 rfl rfl
        have e95 : ac.tmps[95]?.getD undef = .int .i64 p1.ms.length := h.tm 27 95 rfl rfl
        have e97 : ac.tmps[97]?.getD undef = .int .i64 kg.hold := h.tm 29 97 rfl rfl
        refine opWant 25 93 rfl rfl e93 ?_
        exact relRun (v := .bool true) (w' := u) (by simp [go_sem, e93, e95, e97, hle.out]) (okPs rfl hg rfl)
      · intro ac gs u hb hg hi h
        have e93 : ac.tmps[93]?.getD undef = .bool true := h.tm 25 93 rfl rfl
        have e98 : ac.tmps[98]?.getD undef = .bool true := h.tm 30 98 rfl rfl
        refine opFree rfl ?_
        exact relRun (v := .bool true) (w' := u) (by simp [go_sem, e93, e98]) (okPs rfl hg rfl)
      · intro ac gs u hb hg hi h
        have e99 : ac.tmps[99]?.getD undef = .bool true := h.tm 31 99 rfl rfl
        refine opFree rfl ?_
        exact relAssignT _ rfl e99 (okPs rfl hg rfl)
      intro vs gs u ⟨hb, hj⟩ hg hr
      have r0 : vs 0 = .slice vo N vc8 := hr 0 (by decide)
      have r1 : vs 1 = .int .i64 N := hr 1 (by decide)
      have r2 : vs 2 = .int .i64 N := hr 2 (by decide)
      have r3 : vs 3 = .bool true := hr 3 (by decide)
      have r4 : vs 4 = .bool true := hr 4 (by decide)
      have r5 : vs 5 = .pointer (some ⟨gb, 0, none⟩) := hr 5 (by decide)
      have r6 : vs 6 = .int .i64 0 := hr 6 (by decide)
      have r7 : vs 7 = .bool true := hr 7 (by decide)
      have r8 : vs 8 = .bool true := hr 8 (by decide)
      have r9 : vs 9 = .bool true := hr 9 (by decide)
      have r10 : vs 10 = .pointer (some ⟨gb, 0, none⟩) := hr 10 (by decide)
      have r11 : vs 11 = .pointer (some ⟨pb, 0, none⟩) := hr 11 (by decide)
      have r12 : vs 12 = .int .i64 now := hr 12 (by decide)
      have r13 := hr 13 (by decide)
      have r14 : vs 14 = .int .i64 0 := hr 14 (by decide)
      have r15 : vs 15 = .bool true := hr 15 (by decide)
      have r16 : vs 16 = .bool true := hr 16 (by decide)
      have r17 : vs 17 = .bool true := hr 17 (by decide)
      have r18 : vs 18 = .pointer (some ⟨gb, 0, none⟩) := hr 18 (by decide)
      have r19 : vs 19 = .pointer (some ⟨pb, 0, none⟩) := hr 19 (by decide)
      have r20 : vs 20 = .int .i64 now := hr 20 (by decide)
      have r21 := hr 21 (by decide)
      have r22 : vs 22 = .int .i64 0 := hr 22 (by decide)
      have r23 : vs 23 = .bool true := hr 23 (by decide)
      have r24 : vs 24 = .bool true := hr 24 (by decide)
      have r25 : vs 25 = .bool true := hr 25 (by decide)
      have r26 : vs 26 = .pointer (some ⟨pb, 0, none⟩) := hr 26 (by decide)
      have r27 : vs 27 = .int .i64 p1.ms.length := hr 27 (by decide)
      have r28 : vs 28 = .pointer (some ⟨kb, 7, none⟩) := hr 28 (by decide)
      have r29 : vs 29 = .int .i64 kg.hold := hr 29 (by decide)
      have r30 : vs 30 = .bool true := hr 30 (by decide)
      have r31 : vs 31 = .bool true := hr 31 (by decide)
      have r32 : vs 32 = .bool true := hr 32 (by decide)
      simp only [List.take_succ_cons, List.take_zero, List.drop_succ_cons, List.drop_zero, putOps, r0, r1, r2, r3, r4, r5, r6, r7, r8, r9, r10, r11, r12, r14, r15, r16, r17, r18, r19, r20, r22, r23, r24, r25, r26, r27, r28, r29, r30, r31, r32]
      simp only [Act.put, List.setIfInBounds_toArray, List.set_cons_succ, List.set_cons_zero]
      clear hr r0 r1 r2 r3 r4 r5 r6 r7 r8 r9 r10 r11 r12 r14 r15 r16 r17 r18 r19 r20 r22 r23 r24 r25 r26 r27 r28 r29 r30 r31 r32
      refine wpList_nil ?_
      -- GER
      have hfin := hid (show Below w.heap.size w u from hBw8.out.trans (hb.toBelow hBw8.out.size hge8.out))
      clear hb hg hj
      go_wp2
      go_ret
      exact ⟨rfl, hfin.out⟩
end Go.Proofs.Ytggfallodkbgcaa.Ro
