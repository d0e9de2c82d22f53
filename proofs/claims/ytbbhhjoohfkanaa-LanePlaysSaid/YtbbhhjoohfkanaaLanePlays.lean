/- DERIVED. The walk over the statement LanePlays: lanes, in whatever row. -/
import Derived.Test.YtbbhhjoohfkanaaLanePlaysA
namespace Go.Proofs.Ytbbhhjoohfkanaa.La
set_option linter.unusedVariables false
set_option linter.unusedSimpArgs false
open Go.RowKit Go.Proofs.Ytbbhhjoohfkanaa.K Go.Proofs.Ytbbhhjoohfkanaa.Sp Go.Proofs.Ytbbhhjoohfkanaa.Lb Go.Proofs.Ytbbhhjoohfkanaa.So Go.Proofs.Ytbbhhjoohfkanaa.Rl
/-- Step i as it reads later; its words stand where they stood. -/
theorem StepsAt.atC {w0 w : World} {ao : Option Addr} {n cap : Nat} {qs : List (Value × St)} (h : StepsAt w0 (.slice ao n cap) qs) (hb : Below w0.heap.size w0 w) {i : Nat} (hi : i < qs.length) : ∃ g o a c, ao = some ⟨g, o, none⟩ ∧ g < w.heap.size ∧ IntsAt (fun b => b < w0.heap.size) w (.slice a qs[i].2.m.words.length c) qs[i].2.m.words ∧
    w.cell? ⟨g, o + i * 7, none⟩ = some (.int .i64 qs[i].2.k) ∧ w.cell? ⟨g, o + i * 7 + 1, none⟩ = some (.int .i64 qs[i].2.n) ∧ w.cell? ⟨g, o + i * 7 + 2, none⟩ = some (.slice a qs[i].2.m.words.length c) ∧ w.cell? ⟨g, o + i * 7 + 3, none⟩ = some (.int .i64 qs[i].2.m.lane) ∧ w.cell? ⟨g, o + i * 7 + 4, none⟩ = some (.int .i64 qs[i].2.m.stamp) ∧ w.cell? ⟨g, o + i * 7 + 5, none⟩ = some (.int .i64 qs[i].2.m.late) ∧ w.cell? ⟨g, o + i * 7 + 6, none⟩ = some (.int .i64 qs[i].2.m.seq) := by
  obtain ⟨g, o, a, c, e, hg, hw, d0, d1, d2, d3, d4, d5, d6⟩ := h.at_ hi
  exact ⟨g, o, a, c, e, Nat.lt_of_lt_of_le hg hb.size, hw.below hb, (hb.cell (p := ⟨g, _, none⟩) hg).trans d0, (hb.cell (p := ⟨g, _, none⟩) hg).trans d1, (hb.cell (p := ⟨g, _, none⟩) hg).trans d2, (hb.cell (p := ⟨g, _, none⟩) hg).trans d3, (hb.cell (p := ⟨g, _, none⟩) hg).trans d4, (hb.cell (p := ⟨g, _, none⟩) hg).trans d5, (hb.cell (p := ⟨g, _, none⟩) hg).trans d6⟩
theorem ofM_snd (k : Int) (ps : List (Value × Msg)) : (ps.filter (fun p => p.2.lane == k)).map Prod.snd = ofM k (ps.map Prod.snd) := by
  unfold ofM; rw [List.filter_map]; rfl
theorem sortM_len (ms : List Msg) : (sortM ms).length = ms.length := sortL_len ms
theorem filt_snd (f : Msg → Bool) (ps : List (Value × Msg)) : (ps.filter (fun p => f p.2)).map Prod.snd = (ps.map Prod.snd).filter f := by
  rw [List.filter_map]; rfl
theorem kind8 {K : Int} (h : 0 ≤ K ∧ K < 8) : K = 0 ∨ K = 1 ∨ K = 2 ∨ K = 3 ∨ K = 4 ∨ K = 5 ∨ K = 6 ∨ K = 7 := by omega
set_option maxHeartbeats 1000000 in
set_option maxRecDepth 100000 in
theorem plays_c {w : World} {vs : Value} (lanes places : Int) {qs : List (Value × St)} (hs : StepsAt w vs qs) : Calls Try.prog 6 #[.int .i64 lanes, .int .i64 places, vs] w (LivesPost w) := by
  obtain ⟨a2, c2, rfl⟩ := hs.shape
  replace hs := hid hs
  have hl3 : 1 ≤ lnT lanes ∧ lnT lanes ≤ 3 := by unfold lnT; omega
  have hp8 : 1 ≤ plT places ∧ plT places ≤ 8 := by unfold plT; omega
  generalize hln : lnT lanes = ln at hl3
  generalize hpn : plT places = pn at hp8
  replace hl3 := hid hl3
  replace hp8 := hid hp8
  replace hln := hid hln
  replace hpn := hid hpn
  go_enter Try.func6, Try.ntmps6
  go_upto_region 4 with (first | (go_at_call 11; (with_reducible refine (lives_c _).mono ?_); rintro e w1 ⟨rfl, hb1⟩; replace hb1 := hid hb1) | (go_at_call 12; (with_reducible refine (La.new_c w1 lanes places).mono ?_); rintro e w2 ⟨lb, rfl, hL, hb⟩; rw [hln.out, hpn.out] at hL; have hL2 := hid hL; have hW2 := hid (show Wd w.heap.size w w2 (fun b => w1.heap.size ≤ b ∧ b < w2.heap.size) from ⟨Below.next hb1.out hb hb1.out.size, fun b h => Nat.le_trans hb1.out.size h.1, fun b h => h.2, Nat.le_trans hb1.out.size hb.size⟩); clear hL hb) | (go_at_call 23; (with_reducible refine (Rl.new_c w2 lanes places).mono ?_); rw [hln.out, hpn.out]; rintro e w3 ⟨rfl, hb3⟩; replace hb3 := hid hb3))
  have hbA := (Below.refl w3.heap.size w3).alloc (Nat.le_refl _) (.cells #[.int .i64 ln, .int .i64 pn, .slice none 0 0] 49)
  have hP0 := hid (show PS w.heap.size w (w3.alloc (.cells #[.int .i64 ln, .int .i64 pn, .slice none 0 0] 49)) (fun b => w1.heap.size ≤ b ∧ b < w2.heap.size) lb w3.heap.size ln pn [] (.slice none 0 0) [] from
    ⟨(hL2.out.below hb3.out).below hbA, (hW2.out.next hb3.out).next hbA, pts.newA w3 _ _, fun h => by have := hb3.out.size; have := h.2; omega, Nat.le_trans hW2.out.le hb3.out.size, ⟨none, 0, rfl, ⟨Nat.le_refl _, by unfold maxLen; omega, fun _ => rfl⟩, WordsIn.nil _ _, .inl rfl⟩, Plain.nil⟩)
  generalize w3.alloc (.cells #[.int .i64 ln, .int .i64 pn, .slice none 0 0] 49) = W0 at hP0 ⊢
  generalize w3.heap.size = rb at hP0 ⊢
  generalize (fun b => w1.heap.size ≤ b ∧ b < w2.heap.size) = M0 at hP0 hL2 hW2
  clear hL2 hW2 hb1 hbA
  go_wp2_with (first | (go_at_call 13; (with_reducible refine (early_c _ hs.out).mono ?_); rintro e w' ⟨v', rfl, hv', rfl⟩; have hl80 := hid (show (qs.take 80).length ≤ 80 by simp; omega); generalize qs.take 80 = ys at hv' hl80; obtain ⟨a3, c3, rfl⟩ := hv'.shape; replace hv' := hid hv'))
  have hl80 := hl80.out
  clear hs hb3
  go_loopg [9] ys.length (fun g i wr => ∃ (k : Nat) (ms : List Msg) (M : Nat → Prop) (rv : Value) (ps : List (Value × Msg)), k ≤ ys.length ∧ g = ys.length - k ∧ i = .int .i64 k ∧ PS w.heap.size w wr M lb rb ln pn ms rv ps ∧ ps.map Prod.snd = sortM ms)
  case atStart => exact ⟨0, [], M0, _, [], Nat.zero_le _, rfl, rfl, hP0.out, rfl⟩
  case round =>
    clear hP0
    obtain ⟨k, ms, M, rv, ps, hk, hgk, rfl, hP, he⟩ := hrel
    by_cases hlt : k < ys.length
    · obtain ⟨-, hcl, hcm, -⟩ := (RecsAt.below goodS_below hv'.out hP.W.below).get
      obtain ⟨g, o, a, c, rfl, hg, hwi, d0, d1, d2, d3, d4, d5, d6⟩ := StepsAt.atC hv'.out hP.W.below hlt
      generalize ys[k].2 = q at hwi d0 d1 d2 d3 d4 d5 d6
      obtain ⟨ra, rc, rfl⟩ := hP.q.shape
      have hbB := (Below.refl wr.heap.size wr).alloc (Nat.le_refl _) (.cells #[.int .i64 q.k, .int .i64 q.n, .slice a q.m.words.length c, .int .i64 q.m.lane, .int .i64 q.m.stamp, .int .i64 q.m.late, .int .i64 q.m.seq] 32)
      have hP1 := hid (hP.next hbB)
      have hw1 := hid (hwi.below hbB)
      have hS1 := hid (pts.newA wr #[.int .i64 q.k, .int .i64 q.n, .slice a q.m.words.length c, .int .i64 q.m.lane, .int .i64 q.m.stamp, .int .i64 q.m.late, .int .i64 q.m.seq] 32)
      have hsn := hid (show ¬ M wr.heap.size ∧ wr.heap.size ≠ rb from ⟨fun h => by have := hP.W.lt _ h; omega, fun e => by have := hP.r.lt; omega⟩)
      replace hP := hid hP
      replace he := hid he
      go_upto_region 9 with fail
      clear d0 d1 d2 d3 d4 d5 d6 hg hbB hP hwi
      generalize wr.alloc (.cells #[.int .i64 q.k, .int .i64 q.n, .slice a q.m.words.length c, .int .i64 q.m.lane, .int .i64 q.m.stamp, .int .i64 q.m.late, .int .i64 q.m.seq] 32) = W1 at hP1 hw1 hS1 ⊢
      generalize wr.heap.size = sb at hS1 hsn ⊢
      have s0 := hS1.out.cell 0
      have s1 := hS1.out.cell 1
      have s2 := hS1.out.cell 2
      have s3 := hS1.out.cell 3
      have s4 := hS1.out.cell 4
      have s5 := hS1.out.cell 5
      have s6 := hS1.out.cell 6
      have sl := hS1.out.lt
      simp only [List.getElem?_cons_zero, List.getElem?_cons_succ] at s0 s1 s2 s3 s4 s5 s6
      have hkd := hid (kindT_lt q.k)
      go_upto_block 2 with (first | (go_at_call 14; (with_reducible refine (kind_c _ _ _ _ _).mono ?_); rintro e W3 ⟨rfl, hb3⟩; have hP3 := hid (hP1.out.next hb3); have hw3 := hid (hw1.out.below hb3); have hS3 := hid (hS1.out.below hb3); clear hb3))
      clear s0 s1 s2 s3 s4 s5 s6 sl hS1 hw1 hP1
      generalize kindT q.k = K at hkd ⊢
      go_cut [11, 12, 13, 14, 15, 16, 17, 18, 19, 20, 21, 22] from 46 to 130 (fun v u12 u13 u14 u15 u16 u17 u18 u19 u20 u21 u22 wx => v = .bool true ∧ ∃ (ms : List Msg) (M : Nat → Prop) (rv : Value) (ps : List (Value × Msg)), PS w.heap.size w wx M lb rb ln pn ms rv ps ∧ ps.map Prod.snd = sortM ms)
      case first =>
        clear hv' hl80
        by_cases hK4 : K < 4
        · -- Put
          go_upto_if 46 with fail
          go_cut [46] from 46 to 51 (fun v wx => v = .bool true ∧ W3 = wx)
          case first =>
            rcases (show K = 0 ∨ K = 1 ∨ K = 2 ∨ K = 3 by have := hkd.out; omega) with rfl | rfl | rfl | rfl
            all_goals go_wp2
            all_goals go_meet
            all_goals exact ⟨rfl, rfl⟩
          case rest =>
            obtain ⟨rfl, rfl⟩ := hcut
            have hsz := hid (show ps.length < 1000 by have e1 := congrArg List.length he.out; rw [List.length_map, sortM_len] at e1; have := hP3.out.L.inv.len; omega)
            go_upto_region 15 with fail
            -- REG empennage/empennagelaw10.LanePlays|15|LanePlays.15
            refine region_tab 8 [Sp.eq (.agg #[.int .i64 ln, .int .i64 pn, .slice ra ps.length rc]), Sp.eq (.agg #[.int .i64 q.k, .int .i64 q.n, .slice a q.m.words.length c, .int .i64 q.m.lane, .int .i64 q.m.stamp, .int .i64 q.m.late, .int .i64 q.m.seq]), Sp.eq (.agg #[.slice a (cut8 q.m).words.length c, .int .i64 q.m.lane, .int .i64 q.m.stamp, .int .i64 q.m.late, .int .i64 q.m.seq]), ⟨fun v gs u => PRes w.heap.size M rb ln pn (sortM (putL ln pn ms (cut8 q.m))) (putE ln pn ms (cut8 q.m)) gs u v, fun v gs w gs' w' h hs => h.st hs⟩, ⟨fun v gs u => PRes w.heap.size M rb ln pn (sortM (putL ln pn ms (cut8 q.m))) (putE ln pn ms (cut8 q.m)) gs u v, fun v gs w gs' w' h hs => h.st hs⟩, ⟨fun v gs u => LRes w.heap.size M rb ln pn (sortM (putL ln pn ms (cut8 q.m))) gs u v, fun v gs w gs' w' h hs => h.st hs⟩, Sp.eq (.int .i64 (putE ln pn ms (cut8 q.m))), Sp.box 49 [.int .i64 0, .int .i64 0, .slice none 0 0]] (fun _ _ _ _ _ h => h) (by kernel_rfl) (by kernel_rfl) ⟨?_, ?_, ?_, ?_, ?_, ?_, ?_, ?_, trivial⟩ ?_
            · intro ac gs u hb hg h
              have e8 : ac.tmps[8]?.getD undef = .pointer (some ⟨rb, 0, none⟩) := h.inm 8 rfl rfl
              refine opFree rfl ?_
              exact relRun (v := .agg #[.int .i64 ln, .int .i64 pn, .slice ra ps.length rc]) (w' := u) (by simp [go_sem, e8, ((hP3.out.next hb).r.cell 0), ((hP3.out.next hb).r.cell 1), ((hP3.out.next hb).r.cell 2)]) (okP hg rfl)
            · intro ac gs u hb hg h
              have e10 : ac.tmps[10]?.getD undef = .pointer (some ⟨sb, 0, none⟩) := h.inm 10 rfl rfl
              refine opFree rfl ?_
              exact relRun (v := .agg #[.int .i64 q.k, .int .i64 q.n, .slice a q.m.words.length c, .int .i64 q.m.lane, .int .i64 q.m.stamp, .int .i64 q.m.late, .int .i64 q.m.seq]) (w' := u) (by simp [go_sem, e10, ((hS3.out.below hb).cell 0), ((hS3.out.below hb).cell 1), ((hS3.out.below hb).cell 2), ((hS3.out.below hb).cell 3), ((hS3.out.below hb).cell 4), ((hS3.out.below hb).cell 5), ((hS3.out.below hb).cell 6)]) (okP hg rfl)
            · intro ac gs u hb hg h
              have e53 : ac.tmps[53]?.getD undef = .agg #[.int .i64 q.k, .int .i64 q.n, .slice a q.m.words.length c, .int .i64 q.m.lane, .int .i64 q.m.stamp, .int .i64 q.m.late, .int .i64 q.m.seq] := h.tm 1 53 rfl rfl
              refine opFree rfl ?_
              refine relCall (f := _) (args := #[.agg #[.int .i64 q.k, .int .i64 q.n, .slice a q.m.words.length c, .int .i64 q.m.lane, .int .i64 q.m.stamp, .int .i64 q.m.late, .int .i64 q.m.seq]]) (by simp [go_sem, e53]; rfl) ?_
              refine (message_c q (hw3.out.below hb)).mono ?_
              rintro e w' ⟨rfl, hb'⟩
              exact ⟨_, rfl, okB hg hb' rfl⟩
            · intro ac gs u hb hg h
              have e52 : ac.tmps[52]?.getD undef = .agg #[.int .i64 ln, .int .i64 pn, .slice ra ps.length rc] := h.tm 0 52 rfl rfl
              have e54 : ac.tmps[54]?.getD undef = .agg #[.slice a (cut8 q.m).words.length c, .int .i64 q.m.lane, .int .i64 q.m.stamp, .int .i64 q.m.late, .int .i64 q.m.seq] := h.tm 2 54 rfl rfl
              refine opFree rfl ?_
              refine relCall (f := _) (args := #[.agg #[.int .i64 ln, .int .i64 pn, .slice ra ps.length rc], .agg #[.slice a (cut8 q.m).words.length c, .int .i64 q.m.lane, .int .i64 q.m.stamp, .int .i64 q.m.late, .int .i64 q.m.seq]]) (by simp [go_sem, e52, e54]; rfl) ?_
              refine (Rl.put_any (m := cut8 q.m) ((hP3.out.q.mono (ok' := (fun b => (w.heap.size ≤ b ∧ ¬ M b ∧ b ≠ rb) ∧ b < W3.heap.size)) (okw' := fun b => b < w.heap.size) (fun b h hlt => ⟨h, hlt⟩) (fun b h _ => h)).below hb) hP3.out.pv (show IntsAt (fun b => b < w.heap.size) u (.slice a (cut8 q.m).words.length c) (cut8 q.m).words from (hw3.out.below hb).cut 8) he.out hsz.out hl3.out hp8.out).mono ?_
              rintro e w' hp
              obtain ⟨v, rfl, hv, hb'⟩ := PRes.of hP3.out hb hg hp
              exact ⟨_, rfl, okB hg hb' hv⟩
            · intro ac gs u hb hg h
              have e55 := h.tm 3 55 rfl rfl
              refine opFree rfl ?_
              exact relMoveT _ rfl rfl (okP hg e55)
            · intro ac gs u hb hg h
              have e51 := h.tm 4 51 rfl rfl
              refine opFree rfl ?_
              obtain ⟨x, hx, hl⟩ := e51
              exact relRun (v := x) (w' := u) (by simp [go_sem, hx]) (okP hg hl)
            · intro ac gs u hb hg h
              have e51 := h.tm 4 51 rfl rfl
              refine opFree rfl ?_
              obtain ⟨x, hx, hl⟩ := e51
              exact relRun (v := .int .i64 (putE ln pn ms (cut8 q.m))) (w' := u) (by simp [go_sem, hx]) (okP hg rfl)
            · intro ac gs u hb hg h
              refine opFree rfl ?_
              exact relRun (v := .pointer (some ⟨u.heap.size, 0, none⟩)) (w' := u.alloc (.cells #[.int .i64 0, .int .i64 0, .slice none 0 0] 49)) (by simp [go_sem]) (okA _ hg ⟨_, rfl, List.mem_cons_self, pts.newA u _ _⟩)
            intro vs gs u hb hg hr
            have r0 : vs 0 = .agg #[.int .i64 ln, .int .i64 pn, .slice ra ps.length rc] := hr 0 (by decide)
            have r1 : vs 1 = .agg #[.int .i64 q.k, .int .i64 q.n, .slice a q.m.words.length c, .int .i64 q.m.lane, .int .i64 q.m.stamp, .int .i64 q.m.late, .int .i64 q.m.seq] := hr 1 (by decide)
            have r2 : vs 2 = .agg #[.slice a (cut8 q.m).words.length c, .int .i64 q.m.lane, .int .i64 q.m.stamp, .int .i64 q.m.late, .int .i64 q.m.seq] := hr 2 (by decide)
            have r3 := hr 3 (by decide)
            have r4 := hr 4 (by decide)
            have r5 := hr 5 (by decide)
            have r6 : vs 6 = .int .i64 (putE ln pn ms (cut8 q.m)) := hr 6 (by decide)
            have r7 := hr 7 (by decide)
            obtain ⟨nb, e12, hnb, hbx⟩ := r7
            obtain ⟨rv', ps', e56, hps, hpl, hnb', hq, hb'⟩ := r5.box hP3.out.W.le hb hg hnb hbx
            obtain ⟨xa, xc, rfl⟩ := hq.shape
            simp only [List.take_succ_cons, List.take_zero, List.drop_succ_cons, List.drop_zero, putOps, r0, r1, r2, r6, e12, e56]
            simp only [Act.put, List.setIfInBounds_toArray, List.set_cons_succ, List.set_cons_zero]
            clear hr r0 r1 r2 r6 e12 e56
            -- GER
            clear r3 r4 r5 hb hg hnb
            have b0 := hbx.cell 0
            have b1 := hbx.cell 1
            have b2 := hbx.cell 2
            have f0 := hbx.frozen 0
            have f1 := hbx.frozen 1
            have f2 := hbx.frozen 2
            have bl := hbx.lt
            clear hbx
            simp only [List.getElem?_cons_zero, List.getElem?_cons_succ] at b0 b1 b2
            have hP4 := hP3.out.next hb'
            have hS4 := hid (hS3.out.below hb')
            have hw4 := hid (hw3.out.below hb')
            have hP5 := hid (hP4.setR hq hpl)
            have hrb := hid hP4.hr
            have g0 := hP4.r.frozen 0
            have g1 := hP4.r.frozen 1
            have g2 := hP4.r.frozen 2
            have x0 := hP4.r.cell 0
            have x1 := hP4.r.cell 1
            have x2 := hP4.r.cell 2
            have xl := hP4.r.lt
            have y0 := hnb'.cell 0
            have y1 := hnb'.cell 1
            have y2 := hnb'.cell 2
            have yl := hnb'.lt
            simp only [List.getElem?_cons_zero, List.getElem?_cons_succ] at x0 x1 x2 y0 y1 y2
            clear hP4 hb' hnb' hq hpl
            replace hP3 := hid hP3
            replace hps := hid hps
            go_upto_region 16 with fail
            change Code.wp _ _ _ _ (set3 u nb ln pn (.slice xa ps'.length xc))
            clear b0 b1 b2 f0 f1 f2 bl
            generalize set3 u nb ln pn (.slice xa ps'.length xc) = W4 at hP5 hS4 hw4 g0 g1 g2 x0 x1 x2 xl y0 y1 y2 yl ⊢
            go_upto_region 17 with fail
            have hS5 : pts (set3 W4 rb ln pn (.slice xa ps'.length xc)) sb _ 32 := hS4.out.of (set3_other _ _ _ _ _ hsn.out.2)
            have hw5 := hid (hw4.out.kept (w' := set3 W4 rb ln pn (.slice xa ps'.length xc)) (by rw [set3_size]; exact Nat.le_refl _) (fun b hb _ => set3_other _ _ _ _ _ (fun e => by have := hrb.out; omega)))
            change Code.wp _ _ _ _ (set3 W4 rb ln pn (.slice xa ps'.length xc))
            clear g0 g1 g2 x0 x1 x2 xl y0 y1 y2 yl
            generalize set3 W4 rb ln pn (.slice xa ps'.length xc) = W5 at hP5 hS5 hw5 ⊢
            have t0 := hS5.cell 0
            have t1 := hS5.cell 1
            have t2 := hS5.cell 2
            have t3 := hS5.cell 3
            have t4 := hS5.cell 4
            have t5 := hS5.cell 5
            have t6 := hS5.cell 6
            have tl := hS5.lt
            simp only [List.getElem?_cons_zero, List.getElem?_cons_succ] at t0 t1 t2 t3 t4 t5 t6
            clear hS5
            have hmsg5 := hid (message_c q hw5.out)
            have hput5 := hid (fun (u : World) (h : LanesM u M lb ln pn ms) (hw : IntsAt (fun b => b < w.heap.size) u (.slice a (cut8 q.m).words.length c) (cut8 q.m).words) => (show Calls Try.prog 16 #[.pointer (some ⟨lb, 0, none⟩), .agg #[.slice a (cut8 q.m).words.length c, .int .i64 q.m.lane, .int .i64 q.m.stamp, .int .i64 q.m.late, .int .i64 q.m.seq]] u (PutPost u M lb ln pn ms (cut8 q.m)) from La.put_any h hw (by have := cut8_len q.m; omega)))
            generalize hE : putE ln pn ms (cut8 q.m) = E at ⊢
            unfold PutPost at hput5
            rw [hE] at hput5
            replace hE := hid hE
            go_wp2_with (first | (go_at_call 20; (with_reducible refine (hmsg5.out).mono ?_); rintro e w6 ⟨rfl, hb6⟩; have hP6 := hid (hP5.out.next hb6); have hc6 := hid (show IntsAt (fun b => b < w.heap.size) w6 (.slice a (cut8 q.m).words.length c) (cut8 q.m).words from (hw5.out.below hb6).cut 8); clear hb6) | (go_at_call 16; (with_reducible refine (hput5.out _ hP6.out.L hc6.out).mono ?_); rintro e w7 ⟨rfl, hL7, hC7⟩; have hP7 := hid (hP6.out.stepL hC7 hL7); clear hL7 hC7))
            go_meet
            exact ⟨rfl, _, _, _, _, hP7.out, hps.out⟩
        · have q0 : (K == 0) = false := by simp; omega
          have q1 : (K == 1) = false := by simp; omega
          have q2 : (K == 2) = false := by simp; omega
          have q3 : (K == 3) = false := by simp; omega
          by_cases hK6 : K < 6
          · -- Take
            go_upto_if 65 with fail
            go_cut [65] from 65 to 68 (fun v wx => v = .bool true ∧ W3 = wx)
            case first =>
              rcases (show K = 4 ∨ K = 5 by omega) with rfl | rfl
              all_goals go_wp2
              all_goals go_meet
              all_goals exact ⟨rfl, rfl⟩
            case rest =>
              obtain ⟨rfl, rfl⟩ := hcut
              clear q0 q1 q2 q3
              have x0 := hP3.out.r.cell 0
              have x1 := hP3.out.r.cell 1
              have x2 := hP3.out.r.cell 2
              have xl := hP3.out.r.lt
              simp only [List.getElem?_cons_zero, List.getElem?_cons_succ] at x0 x1 x2
              have hrt := rtake_any (ln := ln) (pl := pn) hP3.out.q hP3.out.pv
              have hpk := fun (u : World) (h : LanesM u M lb ln pn ms) => peek_any h
              have htk := fun (u : World) (h : LanesM u M lb ln pn ms) => take_any h
              unfold RTake at hrt
              obtain ⟨pt, hpt⟩ : ∃ pt, pt = ps.tail := ⟨_, rfl⟩
              rw [← hpt] at hrt
              replace hpt := hid hpt
              unfold HandAny at hpk htk
              rw [he.out] at hrt
              generalize hdM (sortM ms) = m0 at hrt hpk htk
              generalize (!(sortM ms).isEmpty) = bb at hrt hpk htk
              replace hrt := hid hrt
              replace hpk := hid hpk
              replace htk := hid htk
              go_upto_region 21 with (first | (go_at_call 25; (with_reducible refine (hrt.out).mono ?_); rintro e w4 ⟨⟨rv1, a1, c1, rfl, hq1, hpv1, hi1⟩, hb4⟩; obtain ⟨xa, xc, rfl⟩ := hq1.shape; have hP4 := hid (hP3.out.next hb4); clear hb4))
              have hbA := ((Below.refl w4.heap.size w4).alloc (Nat.le_refl _) (.cells #[.int .i64 ln, .int .i64 pn, .slice xa pt.length xc] 49)).alloc (by simp) (.cells #[.slice a1 m0.words.length c1, .int .i64 m0.lane, .int .i64 m0.stamp, .int .i64 m0.late, .int .i64 m0.seq] 30)
              have hP5 := hP4.out.next hbA
              have hP6 := hid (hP5.setR (hq1.below hbA) hpv1)
              have hi5 := hi1.below hbA
              have hB0 := (pts.newA w4 #[.int .i64 ln, .int .i64 pn, .slice xa pt.length xc] 49).alloc (.cells #[.slice a1 m0.words.length c1, .int .i64 m0.lane, .int .i64 m0.stamp, .int .i64 m0.late, .int .i64 m0.seq] 30)
              have hB1 := pts.newA (w4.alloc (.cells #[.int .i64 ln, .int .i64 pn, .slice xa pt.length xc] 49)) #[.slice a1 m0.words.length c1, .int .i64 m0.lane, .int .i64 m0.stamp, .int .i64 m0.late, .int .i64 m0.seq] 30
              rw [show (w4.alloc (.cells #[.int .i64 ln, .int .i64 pn, .slice xa pt.length xc] 49)).heap.size = w4.heap.size + 1 from by simp] at hB1
              have hn1 := hid (show w4.heap.size + 1 ≠ rb ∧ ¬ M (w4.heap.size + 1) from ⟨by have := hP4.out.r.lt; omega, fun hm => by have := hP4.out.W.lt _ hm; omega⟩)
              clear hbA hq1 hpv1 hi1
              generalize (w4.alloc (.cells #[.int .i64 ln, .int .i64 pn, .slice xa pt.length xc] 49)).alloc (.cells #[.slice a1 m0.words.length c1, .int .i64 m0.lane, .int .i64 m0.stamp, .int .i64 m0.late, .int .i64 m0.seq] 30) = W5 at hP5 hP6 hi5 hB0 hB1 ⊢
              generalize w4.heap.size + 1 = b1 at hB1 hn1 ⊢
              generalize w4.heap.size = b0 at hB0 ⊢
              have y0 := hB0.cell 0
              have y1 := hB0.cell 1
              have y2 := hB0.cell 2
              have yl := hB0.lt
              have z0 := hP5.r.cell 0
              have z1 := hP5.r.cell 1
              have z2 := hP5.r.cell 2
              have zl := hP5.r.lt
              have f0 := hP5.r.frozen 0
              have f1 := hP5.r.frozen 1
              have f2 := hP5.r.frozen 2
              simp only [List.getElem?_cons_zero, List.getElem?_cons_succ] at y0 y1 y2 z0 z1 z2
              have hrb := hid hP5.hr
              replace hP5 := hid hP5
              replace hB0 := hid hB0
              replace hB1 := hid hB1
              clear x0 x1 x2 xl
              go_upto_region 22 with fail
              have hB1' : pts (set3 W5 rb ln pn (.slice xa pt.length xc)) b1 _ 30 := hB1.out.of (set3_other _ _ _ _ _ hn1.out.1)
              have hi1 := hi5.kept (w' := set3 W5 rb ln pn (.slice xa pt.length xc)) (by rw [set3_size]; exact Nat.le_refl _) (fun b hb _ => set3_other _ _ _ _ _ (fun e => by have := hrb.out; omega))
              change Code.wp _ _ _ _ (set3 W5 rb ln pn (.slice xa pt.length xc))
              generalize set3 W5 rb ln pn (.slice xa pt.length xc) = W6 at hB1' hi1 hP6 ⊢
              clear y0 y1 y2 yl z0 z1 z2 zl f0 f1 f2 hi5 hP5 hB0 hB1 hrb
              replace hi1 := hid hi1
              replace hB1 := hid hB1'
              clear hB1'
              go_upto_region 23 with (first | (go_at_call 26; (with_reducible refine (hpk.out _ hP6.out.L).mono ?_); rintro e w7 ⟨⟨ax2, cx2, rfl, hi2⟩, hb7⟩))
              have hbA := (Below.refl w7.heap.size w7).alloc (Nat.le_refl _) (.cells #[.slice ax2 m0.words.length cx2, .int .i64 m0.lane, .int .i64 m0.stamp, .int .i64 m0.late, .int .i64 m0.seq] 30)
              have hP7 := hid ((hP6.out.next hb7).next hbA)
              replace hi1 := hid ((hi1.out.below hb7).below hbA)
              replace hB1 := hid ((hB1.out.below hb7).below hbA)
              have hi2 := hid (hi2.below hbA)
              have hB2 := hid (pts.newA w7 #[.slice ax2 m0.words.length cx2, .int .i64 m0.lane, .int .i64 m0.stamp, .int .i64 m0.late, .int .i64 m0.seq] 30)
              have hn2 := hid (show ¬ M w7.heap.size from fun hm => by have := (hP6.out.next hb7).W.lt _ hm; omega)
              have hn3 := hid (show ∀ b, M b → b < W6.heap.size from hP6.out.W.lt)
              clear hbA hb7
              generalize w7.alloc (.cells #[.slice ax2 m0.words.length cx2, .int .i64 m0.lane, .int .i64 m0.stamp, .int .i64 m0.late, .int .i64 m0.seq] 30) = W7 at hP7 hi1 hB1 hi2 hB2 ⊢
              generalize w7.heap.size = b2 at hB2 hn2 ⊢
              go_upto_region 24 with (first | (go_at_call 18; (with_reducible refine (htk.out _ hP7.out.L).mono ?_); rintro e w8 ⟨⟨a3, cx3, rfl, hi3⟩, hL8, hC8⟩))
              have hbA := (Below.refl w8.heap.size w8).alloc (Nat.le_refl _) (.cells #[.slice a3 m0.words.length cx3, .int .i64 m0.lane, .int .i64 m0.stamp, .int .i64 m0.late, .int .i64 m0.seq] 30)
              have hP8 := hid ((hP7.out.stepL hC8 hL8).next hbA)
              replace hi1 := hid ((hi1.out.kept hC8.size (fun b hb hlt => hC8.block b hlt (fun hm => by have := hP7.out.W.ge b hm; omega))).below hbA)
              replace hi2 := hid ((hi2.out.kept hC8.size (fun b hb hlt => hC8.block b hlt (fun hm => by have := hn3.out b hm; omega))).below hbA)
              replace hB1 := hid ((hB1.out.chg hC8 hn1.out.2).below hbA)
              replace hB2 := hid ((hB2.out.chg hC8 hn2.out).below hbA)
              replace hi3 := hid (hi3.below hbA)
              have hB3 := hid (pts.newA w8 #[.slice a3 m0.words.length cx3, .int .i64 m0.lane, .int .i64 m0.stamp, .int .i64 m0.late, .int .i64 m0.seq] 30)
              clear hbA hL8 hC8
              generalize w8.alloc (.cells #[.slice a3 m0.words.length cx3, .int .i64 m0.lane, .int .i64 m0.stamp, .int .i64 m0.late, .int .i64 m0.seq] 30) = W8 at hP8 hi1 hi2 hB1 hB2 hi3 hB3 ⊢
              generalize w8.heap.size = b3 at hB3 ⊢
              -- REG empennage/empennagelaw10.LanePlays|24|LanePlays.24
              refine region_tab 19 [Sp.eq (.agg #[.slice a1 m0.words.length c1, .int .i64 m0.lane, .int .i64 m0.stamp, .int .i64 m0.late, .int .i64 m0.seq]), Sp.eq (.agg #[.slice a3 m0.words.length cx3, .int .i64 m0.lane, .int .i64 m0.stamp, .int .i64 m0.late, .int .i64 m0.seq]), Sp.eq (.bool true), Sp.eq (.bool true), Sp.eq (.agg #[.slice a1 m0.words.length c1, .int .i64 m0.lane, .int .i64 m0.stamp, .int .i64 m0.late, .int .i64 m0.seq]), Sp.eq (.agg #[.slice ax2 m0.words.length cx2, .int .i64 m0.lane, .int .i64 m0.stamp, .int .i64 m0.late, .int .i64 m0.seq]), Sp.eq (.bool true), Sp.eq (.bool true), Sp.eq (.bool true), Sp.eq (.bool bb), Sp.eq (.bool bb), Sp.eq (.bool true), Sp.eq (.bool true), Sp.eq (.bool true), Sp.eq (.bool bb), Sp.eq (.bool bb), Sp.eq (.bool true), Sp.eq (.bool true), Sp.eq (.bool true)] (fun _ _ _ _ _ h => h) (by kernel_rfl) (by kernel_rfl) ⟨?_, ?_, ?_, ?_, ?_, ?_, ?_, ?_, ?_, ?_, ?_, ?_, ?_, ?_, ?_, ?_, ?_, ?_, ?_, trivial⟩ ?_
              · intro ac gs u hb hg h
                have e15 : ac.tmps[15]?.getD undef = .pointer (some ⟨b1, 0, none⟩) := h.inm 15 rfl rfl
                refine opFree rfl ?_
                exact relRun (v := .agg #[.slice a1 m0.words.length c1, .int .i64 m0.lane, .int .i64 m0.stamp, .int .i64 m0.late, .int .i64 m0.seq]) (w' := u) (by simp [go_sem, e15, ((hB1.out.below hb).cell 0), ((hB1.out.below hb).cell 1), ((hB1.out.below hb).cell 2), ((hB1.out.below hb).cell 3), ((hB1.out.below hb).cell 4)]) (okP hg rfl)
              · intro ac gs u hb hg h
                have e19 : ac.tmps[19]?.getD undef = .pointer (some ⟨b3, 0, none⟩) := h.inm 19 rfl rfl
                refine opFree rfl ?_
                exact relRun (v := .agg #[.slice a3 m0.words.length cx3, .int .i64 m0.lane, .int .i64 m0.stamp, .int .i64 m0.late, .int .i64 m0.seq]) (w' := u) (by simp [go_sem, e19, ((hB3.out.below hb).cell 0), ((hB3.out.below hb).cell 1), ((hB3.out.below hb).cell 2), ((hB3.out.below hb).cell 3), ((hB3.out.below hb).cell 4)]) (okP hg rfl)
              · intro ac gs u hb hg h
                have e85 : ac.tmps[85]?.getD undef = .agg #[.slice a1 m0.words.length c1, .int .i64 m0.lane, .int .i64 m0.stamp, .int .i64 m0.late, .int .i64 m0.seq] := h.tm 0 85 rfl rfl
                have e86 : ac.tmps[86]?.getD undef = .agg #[.slice a3 m0.words.length cx3, .int .i64 m0.lane, .int .i64 m0.stamp, .int .i64 m0.late, .int .i64 m0.seq] := h.tm 1 86 rfl rfl
                refine opFree rfl ?_
                refine relCall (f := _) (args := #[.agg #[.slice a1 m0.words.length c1, .int .i64 m0.lane, .int .i64 m0.stamp, .int .i64 m0.late, .int .i64 m0.seq], .agg #[.slice a3 m0.words.length cx3, .int .i64 m0.lane, .int .i64 m0.stamp, .int .i64 m0.late, .int .i64 m0.seq]]) (by simp [go_sem, e85, e86]; rfl) ?_
                refine (R2.one_eq (hi1.out.below hb) (hi3.out.below hb) rfl).mono ?_
                rintro e w' ⟨rfl, hb'⟩
                exact ⟨_, rfl, okB hg hb' rfl⟩
              · intro ac gs u hb hg h
                have e87 : ac.tmps[87]?.getD undef = .bool true := h.tm 2 87 rfl rfl
                refine opFree rfl ?_
                exact relMoveT _ rfl e87 (okP hg rfl)
              · intro ac gs u hb hg h
                have e88 : ac.tmps[88]?.getD undef = .bool true := h.tm 3 88 rfl rfl
                have e15 : ac.tmps[15]?.getD undef = .pointer (some ⟨b1, 0, none⟩) := h.inm 15 rfl rfl
                refine opWant 3 88 rfl rfl e88 ?_
                exact relRun (v := .agg #[.slice a1 m0.words.length c1, .int .i64 m0.lane, .int .i64 m0.stamp, .int .i64 m0.late, .int .i64 m0.seq]) (w' := u) (by simp [go_sem, e88, e15, ((hB1.out.below hb).cell 0), ((hB1.out.below hb).cell 1), ((hB1.out.below hb).cell 2), ((hB1.out.below hb).cell 3), ((hB1.out.below hb).cell 4)]) (okP hg rfl)
              · intro ac gs u hb hg h
                have e88 : ac.tmps[88]?.getD undef = .bool true := h.tm 3 88 rfl rfl
                have e17 : ac.tmps[17]?.getD undef = .pointer (some ⟨b2, 0, none⟩) := h.inm 17 rfl rfl
                refine opWant 3 88 rfl rfl e88 ?_
                exact relRun (v := .agg #[.slice ax2 m0.words.length cx2, .int .i64 m0.lane, .int .i64 m0.stamp, .int .i64 m0.late, .int .i64 m0.seq]) (w' := u) (by simp [go_sem, e88, e17, ((hB2.out.below hb).cell 0), ((hB2.out.below hb).cell 1), ((hB2.out.below hb).cell 2), ((hB2.out.below hb).cell 3), ((hB2.out.below hb).cell 4)]) (okP hg rfl)
              · intro ac gs u hb hg h
                have e88 : ac.tmps[88]?.getD undef = .bool true := h.tm 3 88 rfl rfl
                have e89 : ac.tmps[89]?.getD undef = .agg #[.slice a1 m0.words.length c1, .int .i64 m0.lane, .int .i64 m0.stamp, .int .i64 m0.late, .int .i64 m0.seq] := h.tm 4 89 rfl rfl
                have e90 : ac.tmps[90]?.getD undef = .agg #[.slice ax2 m0.words.length cx2, .int .i64 m0.lane, .int .i64 m0.stamp, .int .i64 m0.late, .int .i64 m0.seq] := h.tm 5 90 rfl rfl
                refine opWant 3 88 rfl rfl e88 ?_
                refine relCall (f := _) (args := #[.agg #[.slice a1 m0.words.length c1, .int .i64 m0.lane, .int .i64 m0.stamp, .int .i64 m0.late, .int .i64 m0.seq], .agg #[.slice ax2 m0.words.length cx2, .int .i64 m0.lane, .int .i64 m0.stamp, .int .i64 m0.late, .int .i64 m0.seq]]) (by simp [go_sem, e88, e89, e90]; rfl) ?_
                refine (R2.one_eq (hi1.out.below hb) (hi2.out.below hb) rfl).mono ?_
                rintro e w' ⟨rfl, hb'⟩
                exact ⟨_, rfl, okB hg hb' rfl⟩
              · intro ac gs u hb hg h
                have e88 : ac.tmps[88]?.getD undef = .bool true := h.tm 3 88 rfl rfl
                have e91 : ac.tmps[91]?.getD undef = .bool true := h.tm 6 91 rfl rfl
                refine opFree rfl ?_
                exact relRun (v := .bool true) (w' := u) (by simp [go_sem, e88, e91]) (okP hg rfl)
              · intro ac gs u hb hg h
                have e92 : ac.tmps[92]?.getD undef = .bool true := h.tm 7 92 rfl rfl
                refine opFree rfl ?_
                exact relMoveT _ rfl e92 (okP hg rfl)
              · intro ac gs u hb hg h
                have e93 : ac.tmps[93]?.getD undef = .bool true := h.tm 8 93 rfl rfl
                have e20 : ac.tmps[20]?.getD undef = .bool bb := h.inm 20 rfl rfl
                refine opWant 8 93 rfl rfl e93 ?_
                exact relMoveT _ rfl e20 (okP hg rfl)
              · intro ac gs u hb hg h
                have e93 : ac.tmps[93]?.getD undef = .bool true := h.tm 8 93 rfl rfl
                have e16 : ac.tmps[16]?.getD undef = .bool bb := h.inm 16 rfl rfl
                refine opWant 8 93 rfl rfl e93 ?_
                exact relMoveT _ rfl e16 (okP hg rfl)
              · intro ac gs u hb hg h
                have e93 : ac.tmps[93]?.getD undef = .bool true := h.tm 8 93 rfl rfl
                have e94 : ac.tmps[94]?.getD undef = .bool bb := h.tm 9 94 rfl rfl
                have e95 : ac.tmps[95]?.getD undef = .bool bb := h.tm 10 95 rfl rfl
                refine opWant 8 93 rfl rfl e93 ?_
                exact relRun (v := .bool true) (w' := u) (by simp [go_sem, e93, e94, e95]) (okP hg rfl)
              · intro ac gs u hb hg h
                have e93 : ac.tmps[93]?.getD undef = .bool true := h.tm 8 93 rfl rfl
                have e96 : ac.tmps[96]?.getD undef = .bool true := h.tm 11 96 rfl rfl
                refine opFree rfl ?_
                exact relRun (v := .bool true) (w' := u) (by simp [go_sem, e93, e96]) (okP hg rfl)
              · intro ac gs u hb hg h
                have e97 : ac.tmps[97]?.getD undef = .bool true := h.tm 12 97 rfl rfl
                refine opFree rfl ?_
                exact relMoveT _ rfl e97 (okP hg rfl)
              · intro ac gs u hb hg h
                have e98 : ac.tmps[98]?.getD undef = .bool true := h.tm 13 98 rfl rfl
                have e18 : ac.tmps[18]?.getD undef = .bool bb := h.inm 18 rfl rfl
                refine opWant 13 98 rfl rfl e98 ?_
                exact relMoveT _ rfl e18 (okP hg rfl)
              · intro ac gs u hb hg h
                have e98 : ac.tmps[98]?.getD undef = .bool true := h.tm 13 98 rfl rfl
                have e16 : ac.tmps[16]?.getD undef = .bool bb := h.inm 16 rfl rfl
                refine opWant 13 98 rfl rfl e98 ?_
                exact relMoveT _ rfl e16 (okP hg rfl)
              · intro ac gs u hb hg h
                have e98 : ac.tmps[98]?.getD undef = .bool true := h.tm 13 98 rfl rfl
                have e99 : ac.tmps[99]?.getD undef = .bool bb := h.tm 14 99 rfl rfl
                have e100 : ac.tmps[100]?.getD undef = .bool bb := h.tm 15 100 rfl rfl
                refine opWant 13 98 rfl rfl e98 ?_
                exact relRun (v := .bool true) (w' := u) (by simp [go_sem, e98, e99, e100]) (okP hg rfl)
              · intro ac gs u hb hg h
                have e98 : ac.tmps[98]?.getD undef = .bool true := h.tm 13 98 rfl rfl
                have e101 : ac.tmps[101]?.getD undef = .bool true := h.tm 16 101 rfl rfl
                refine opFree rfl ?_
                exact relRun (v := .bool true) (w' := u) (by simp [go_sem, e98, e101]) (okP hg rfl)
              · intro ac gs u hb hg h
                have e102 : ac.tmps[102]?.getD undef = .bool true := h.tm 17 102 rfl rfl
                refine opFree rfl ?_
                exact relAssignT _ rfl e102 (okP hg rfl)
              intro vs gs u hb hg hr
              have r0 : vs 0 = .agg #[.slice a1 m0.words.length c1, .int .i64 m0.lane, .int .i64 m0.stamp, .int .i64 m0.late, .int .i64 m0.seq] := hr 0 (by decide)
              have r1 : vs 1 = .agg #[.slice a3 m0.words.length cx3, .int .i64 m0.lane, .int .i64 m0.stamp, .int .i64 m0.late, .int .i64 m0.seq] := hr 1 (by decide)
              have r2 : vs 2 = .bool true := hr 2 (by decide)
              have r3 : vs 3 = .bool true := hr 3 (by decide)
              have r4 : vs 4 = .agg #[.slice a1 m0.words.length c1, .int .i64 m0.lane, .int .i64 m0.stamp, .int .i64 m0.late, .int .i64 m0.seq] := hr 4 (by decide)
              have r5 : vs 5 = .agg #[.slice ax2 m0.words.length cx2, .int .i64 m0.lane, .int .i64 m0.stamp, .int .i64 m0.late, .int .i64 m0.seq] := hr 5 (by decide)
              have r6 : vs 6 = .bool true := hr 6 (by decide)
              have r7 : vs 7 = .bool true := hr 7 (by decide)
              have r8 : vs 8 = .bool true := hr 8 (by decide)
              have r9 : vs 9 = .bool bb := hr 9 (by decide)
              have r10 : vs 10 = .bool bb := hr 10 (by decide)
              have r11 : vs 11 = .bool true := hr 11 (by decide)
              have r12 : vs 12 = .bool true := hr 12 (by decide)
              have r13 : vs 13 = .bool true := hr 13 (by decide)
              have r14 : vs 14 = .bool bb := hr 14 (by decide)
              have r15 : vs 15 = .bool bb := hr 15 (by decide)
              have r16 : vs 16 = .bool true := hr 16 (by decide)
              have r17 : vs 17 = .bool true := hr 17 (by decide)
              have r18 : vs 18 = .bool true := hr 18 (by decide)
              simp only [List.take_succ_cons, List.take_zero, List.drop_succ_cons, List.drop_zero, putOps, r0, r1, r2, r3, r4, r5, r6, r7, r8, r9, r10, r11, r12, r13, r14, r15, r16, r17, r18]
              simp only [Act.put, List.setIfInBounds_toArray, List.set_cons_succ, List.set_cons_zero]
              clear hr r0 r1 r2 r3 r4 r5 r6 r7 r8 r9 r10 r11 r12 r13 r14 r15 r16 r17 r18
              refine wpList_nil ?_
              -- GER
              go_wp2
              go_meet
              exact ⟨rfl, _, _, _, _, hP8.out.next hb, by rw [sortM_tail, ← he.out, hpt.out, List.map_tail]⟩
          · by_cases hK7 : K < 7
            · -- Sweep
              obtain rfl : K = 6 := by omega
              clear q0 q1 q2 q3
              have x0 := hP3.out.r.cell 0
              have x1 := hP3.out.r.cell 1
              have x2 := hP3.out.r.cell 2
              have xl := hP3.out.r.lt
              have tn := hS3.out.cell 1
              have tl := hS3.out.lt
              simp only [List.getElem?_cons_zero, List.getElem?_cons_succ] at x0 x1 x2 tn
              have hsz := show ps.length < 1000 by have e1 := congrArg List.length he.out; rw [List.length_map, sortM_len] at e1; have := hP3.out.L.inv.len; omega
              have hsw := Rl.sweep_c (ln := ln) (pl := pn) hP3.out.q (Nat.lt_trans hsz (by omega)) q.n
              clear hsz
              unfold SweepPost at hsw
              have hpr := filt_snd (fun m => !lateT q.n m.late) ps
              have hpo := filt_snd (fun m => lateT q.n m.late) ps
              rw [he.out] at hpr hpo
              change ((ps.filter (fun p => !lateV q.n p)).map Prod.snd = _) at hpr
              change ((ps.filter (lateV q.n)).map Prod.snd = _) at hpo
              generalize ps.filter (fun p => !lateV q.n p) = pr at hsw hpr
              generalize ps.filter (lateV q.n) = po at hsw hpo
              replace hsw := hid hsw
              replace hpr := hid hpr
              replace hpo := hid hpo
              go_upto_region 27 with (first | (go_at_call 28; (with_reducible refine (hsw.out).mono ?_); rintro e w4 ⟨v1, v2, rfl, hq1, hpv1, hq2, hb4⟩; obtain ⟨xa, xc, rfl⟩ := hq1.shape; obtain ⟨ya, yc, rfl⟩ := hq2.shape; have hP4 := hid (hP3.out.next hb4); have hS4 := hid (hS3.out.below hb4); have hlt4 := hid hb4.size; clear hb4))
              have hbA := (Below.refl w4.heap.size w4).alloc (Nat.le_refl _) (.cells #[.int .i64 ln, .int .i64 pn, .slice xa pr.length xc] 49)
              have hP5 := hP4.out.next hbA
              have hP6 := hid (hP5.setR ((hq1.mono (fun b h _ => (show w.heap.size ≤ b ∧ ¬ M b ∧ b ≠ rb from ⟨Nat.le_trans hP3.out.W.le h, fun hm => by have := hP3.out.W.lt b hm; omega, fun e => by have := hP3.out.r.lt; omega⟩)) (fun b h _ => h)).below hbA) hpv1)
              have hq5 := (hq2.mono (fun b h _ => (show ¬ M b ∧ b ≠ rb from ⟨fun hm => by have := hP3.out.W.lt b hm; omega, fun e => by have := hP3.out.r.lt; omega⟩)) (fun b h _ => h)).below hbA
              have hB0 := pts.newA w4 #[.int .i64 ln, .int .i64 pn, .slice xa pr.length xc] 49
              have hS5 := hid (hS4.out.below hbA)
              clear hbA hq1 hpv1 hq2
              generalize w4.alloc (.cells #[.int .i64 ln, .int .i64 pn, .slice xa pr.length xc] 49) = W5 at hP5 hP6 hq5 hB0 hS5 ⊢
              generalize w4.heap.size = b0 at hB0 hlt4 ⊢
              have y0 := hB0.cell 0
              have y1 := hB0.cell 1
              have y2 := hB0.cell 2
              have yl := hB0.lt
              have z0 := hP5.r.cell 0
              have z1 := hP5.r.cell 1
              have z2 := hP5.r.cell 2
              have zl := hP5.r.lt
              have f0 := hP5.r.frozen 0
              have f1 := hP5.r.frozen 1
              have f2 := hP5.r.frozen 2
              simp only [List.getElem?_cons_zero, List.getElem?_cons_succ] at y0 y1 y2 z0 z1 z2
              have hrb := hid hP5.hr
              have hge := hid hP5.W.ge
              clear hP5 hB0 x0 x1 x2 xl tn tl
              go_upto_region 28 with fail
              have hS6 : pts (set3 W5 rb ln pn (.slice xa pr.length xc)) sb _ 32 := hS5.out.of (set3_other _ _ _ _ _ hsn.out.2)
              have hq6 := hq5.kept (w' := set3 W5 rb ln pn (.slice xa pr.length xc)) (by rw [set3_size]; exact Nat.le_refl _) (fun b hb _ => set3_other _ _ _ _ _ (fun e => by rcases hb with hb | hb; exact hb.2 e; exact (by have := hrb.out; omega)))
              change Code.wp _ _ _ _ (set3 W5 rb ln pn (.slice xa pr.length xc))
              generalize set3 W5 rb ln pn (.slice xa pr.length xc) = W6 at hS6 hq6 hP6 ⊢
              clear y0 y1 y2 yl z0 z1 z2 zl f0 f1 f2 hq5
              have tn := hS6.cell 1
              have tl := hS6.lt
              simp only [List.getElem?_cons_zero, List.getElem?_cons_succ] at tn
              clear hS6
              replace hq6 := hid hq6
              have hswp := hid (sweepTell hP6.out.L q.n)
              go_wp2_with (first | (go_at_call 21; (with_reducible refine (hswp.out).mono ?_); rintro e w7 ⟨v7, rfl, ⟨p7, hp7, hv7⟩, hL7, hC7⟩; obtain ⟨za, zc, rfl⟩ := hv7.shape; have hP7 := hid (hP6.out.stepL hC7 hL7); have hq7 := hid (hq6.out.kept hC7.size (fun b hb hlt => hC7.block b hlt (fun hm => by rcases hb with hb | hb; exact hb.1 hm; exact (by have := hge.out b hm; omega)))); have hsame := hid (R2.same_eq hv7 hq7.out (hp7.trans hpo.out.symm)); clear hL7 hC7 hv7 hp7) | (go_at_call 29; (with_reducible refine (hsame.out).mono ?_); rintro e w8 ⟨rfl, hb8⟩; have hP8 := hid (hP7.out.next hb8); clear hb8))
              go_meet
              exact ⟨rfl, _, _, _, _, hP8.out, by rw [sortM_filter, hpr.out]⟩
            · -- Flush
              obtain rfl : K = 7 := by have := hkd.out; omega
              clear q0 q1 q2 q3
              have tn := hS3.out.cell 1
              have tl := hS3.out.lt
              simp only [List.getElem?_cons_zero, List.getElem?_cons_succ] at tn
              go_upto_region 31 with fail
              · -- REG empennage/empennagelaw10.LanePlays|31|LanePlays.31
                refine region_chg 6 (M) 1 (fun u => PS w.heap.size w u M lb rb ln pn ms (.slice ra ps.length rc) ps) [Sp.eq (.pointer (some ⟨lb, 0, none⟩)), Sp.of (fun v u => MsgsR (fun _ => True) u v (sortM ms) ∧ ∃ M', PS w.heap.size w u M' lb rb ln pn [] (.slice ra ps.length rc) ps) (fun v w w' h hb => (show _ ∧ _ from ⟨h.1.below hb, h.2.imp (fun _ h2 => h2.next hb)⟩)), Sp.eq (.pointer (some ⟨rb, 2, none⟩)), Sp.eq (.slice ra ps.length rc), Sp.eq (.bool true), Sp.eq (.bool true)] (fun _ _ _ _ _ h => h) (by kernel_rfl) (by kernel_rfl) (hP3.out) (fun _ _ h hb => h.next hb) (fun j hj => match j with | 0 => fun _ _ _ _ h _ => h | 1 => absurd rfl hj | 2 => fun _ _ _ _ h _ => h | 3 => fun _ _ _ _ h _ => h | 4 => fun _ _ _ _ h _ => h | 5 => fun _ _ _ _ h _ => h | _ + 6 => fun _ _ _ _ h _ => h) ⟨?_, ?_, ?_, ?_, ?_, ?_, trivial⟩ ?_
                · intro ac gs u hb hg hi h
                  have e7 : ac.tmps[7]?.getD undef = .pointer (some ⟨lb, 0, none⟩) := h.inm 7 rfl rfl
                  refine opFree rfl ?_
                  exact relMoveT _ rfl e7 (okPc rfl hg rfl)
                · intro ac gs u hb hg hi h
                  have e125 : ac.tmps[125]?.getD undef = .pointer (some ⟨lb, 0, none⟩) := h.tm 0 125 rfl rfl
                  refine opFree rfl ?_
                  refine relCall (f := _) (args := #[.pointer (some ⟨lb, 0, none⟩)]) (by simp [go_sem, e125]; rfl) ?_
                  refine (La.flushTell (hi rfl).L).mono ?_
                  rintro e w' ⟨v, rfl, hv, hL, hC⟩
                  exact ⟨_, rfl, okC hg hC ⟨hv.mono (fun _ _ _ => trivial), _, (hi rfl).stepL hC hL⟩⟩
                · intro ac gs u hb hg hi h
                  have e8 : ac.tmps[8]?.getD undef = .pointer (some ⟨rb, 0, none⟩) := h.inm 8 rfl rfl
                  refine opFree rfl ?_
                  exact relRun (v := .pointer (some ⟨rb, 2, none⟩)) (w' := u) (by simp [go_sem, e8]) (okPc rfl hg rfl)
                · intro ac gs u hb hg hi h
                  have e127 : ac.tmps[127]?.getD undef = .pointer (some ⟨rb, 2, none⟩) := h.tm 2 127 rfl rfl
                  refine opFree rfl ?_
                  exact relRun (v := .slice ra ps.length rc) (w' := u) (by simp [go_sem, e127, ((hP3.out.r.chg hb hP3.out.nr).cell 2)]) (okPc rfl hg rfl)
                · intro ac gs u hb hg hi h
                  have e126 := h.tm 1 126 rfl rfl
                  have e128 : ac.tmps[128]?.getD undef = .slice ra ps.length rc := h.tm 3 128 rfl rfl
                  refine opFree rfl ?_
                  obtain ⟨⟨q1, hq, hqm⟩, M', hPS⟩ := e126
                  refine relCall (f := _) (args := #[ac.tmps[126]?.getD undef, .slice ra ps.length rc]) (by simp [go_sem, e128]; rfl) ?_
                  refine (R2.same_eq hqm hPS.q (by rw [hq, he.out])).mono ?_
                  rintro e w' ⟨rfl, hb'⟩
                  exact ⟨_, rfl, okBc rfl hg hb' rfl⟩
                · intro ac gs u hb hg hi h
                  have e129 : ac.tmps[129]?.getD undef = .bool true := h.tm 4 129 rfl rfl
                  refine opFree rfl ?_
                  exact relAssignT _ rfl e129 (okPc rfl hg rfl)
                intro vs gs u hb hg hr
                have r0 : vs 0 = .pointer (some ⟨lb, 0, none⟩) := hr 0 (by decide)
                have r1 := hr 1 (by decide)
                have r2 : vs 2 = .pointer (some ⟨rb, 2, none⟩) := hr 2 (by decide)
                have r3 : vs 3 = .slice ra ps.length rc := hr 3 (by decide)
                have r4 : vs 4 = .bool true := hr 4 (by decide)
                have r5 : vs 5 = .bool true := hr 5 (by decide)
                simp only [List.take_succ_cons, List.take_zero, List.drop_succ_cons, List.drop_zero, putOps, r0, r2, r3, r4, r5]
                simp only [Act.put, List.setIfInBounds_toArray, List.set_cons_succ, List.set_cons_zero]
                clear hr r0 r2 r3 r4 r5
                refine wpList_nil ?_
                -- GER
                obtain ⟨-, M', hPS⟩ := r1
                have x0 := hPS.r.cell 0
                have x1 := hPS.r.cell 1
                have x2 := hPS.r.cell 2
                have xl := hPS.r.lt
                have f2 := hPS.r.frozen 2
                simp only [List.getElem?_cons_zero, List.getElem?_cons_succ] at x0 x1 x2
                have hP9 := hid (La.PS.set0 hPS)
                clear hPS hb hg
                go_wp2
                go_meet
                exact ⟨rfl, _, _, _, _, hP9.out, rfl⟩
              · go_wp2
                go_meet
                exact ⟨rfl, _, _, _, _, hP3.out, he.out⟩
      case rest =>
        obtain ⟨rfl, ms2, M2, rv2, ps2, hP6, he6⟩ := hcut
        obtain ⟨ra2, rc2, rfl⟩ := hP6.q.shape
        replace hP6 := hid hP6
        replace he6 := hid he6
        have hsm2 := hid (show ps2.length < 1000 by have e1 := congrArg List.length he6.out; have e2 := hP6.out.L.inv.sort.len; rw [List.length_map] at e1; omega)
        have hlen2 := hid (show (ms2.length : Int) = ps2.length by have e1 := congrArg List.length he6.out; rw [List.length_map, sortM_len] at e1; rw [e1])
        go_upto_region 33 with fail
        replace hlen2 := hlen2.out
        -- REG empennage/empennagelaw10.LanePlays|33|LanePlays.33
        refine region_tab 18 [Sp.eq (.bool true), Sp.eq (.bool false), Sp.eq (.bool false), Sp.eq (.pointer (some ⟨lb, 0, none⟩)), Sp.eq (.int .i64 ms2.length), Sp.eq (.pointer (some ⟨rb, 2, none⟩)), Sp.eq (.slice ra2 ps2.length rc2), Sp.eq (.int .i64 ps2.length), Sp.eq (.bool false), Sp.eq (.bool false), Sp.eq (.bool false), Sp.eq (.pointer (some ⟨lb, 0, none⟩)), Sp.of (fun v u => MsgsR (fun _ => True) u v (sortM ms2)) (fun v w w' h hb => MsgsR.below h hb), Sp.eq (.pointer (some ⟨rb, 2, none⟩)), Sp.eq (.slice ra2 ps2.length rc2), Sp.eq (.bool true), Sp.eq (.bool false), Sp.eq (.bool false)] (fun _ _ _ _ _ h => h) (by kernel_rfl) (by kernel_rfl) ⟨?_, ?_, ?_, ?_, ?_, ?_, ?_, ?_, ?_, ?_, ?_, ?_, ?_, ?_, ?_, ?_, ?_, ?_, trivial⟩ ?_
        · intro ac gs u hb hg h
          have e11 : ac.tmps[11]?.getD undef = .bool true := h.inm 11 rfl rfl
          refine opFree rfl ?_
          exact relMoveT _ rfl e11 (okP hg rfl)
        · intro ac gs u hb hg h
          have e131 : ac.tmps[131]?.getD undef = .bool true := h.tm 0 131 rfl rfl
          refine opFree rfl ?_
          exact relRun (v := .bool false) (w' := u) (by simp [go_sem, e131]) (okP hg rfl)
        · intro ac gs u hb hg h
          have e132 : ac.tmps[132]?.getD undef = .bool false := h.tm 1 132 rfl rfl
          refine opFree rfl ?_
          exact relMoveT _ rfl e132 (okP hg rfl)
        · intro ac gs u hb hg h
          have e133 : ac.tmps[133]?.getD undef = .bool false := h.tm 2 133 rfl rfl
          have e7 : ac.tmps[7]?.getD undef = .pointer (some ⟨lb, 0, none⟩) := h.inm 7 rfl rfl
          refine opWant 2 133 rfl rfl e133 ?_
          exact relMoveT _ rfl e7 (okP hg rfl)
        · intro ac gs u hb hg h
          have e133 : ac.tmps[133]?.getD undef = .bool false := h.tm 2 133 rfl rfl
          have e134 : ac.tmps[134]?.getD undef = .pointer (some ⟨lb, 0, none⟩) := h.tm 3 134 rfl rfl
          refine opWant 2 133 rfl rfl e133 ?_
          refine relCall (f := _) (args := #[.pointer (some ⟨lb, 0, none⟩)]) (by simp [go_sem, e133, e134]; rfl) ?_
          refine (La.len_c (hP6.out.next hb).L).mono ?_
          rintro e w' ⟨rfl, rfl⟩
          exact ⟨_, rfl, okP hg rfl⟩
        · intro ac gs u hb hg h
          have e133 : ac.tmps[133]?.getD undef = .bool false := h.tm 2 133 rfl rfl
          have e8 : ac.tmps[8]?.getD undef = .pointer (some ⟨rb, 0, none⟩) := h.inm 8 rfl rfl
          refine opWant 2 133 rfl rfl e133 ?_
          exact relRun (v := .pointer (some ⟨rb, 2, none⟩)) (w' := u) (by simp [go_sem, e133, e8]) (okP hg rfl)
        · intro ac gs u hb hg h
          have e133 : ac.tmps[133]?.getD undef = .bool false := h.tm 2 133 rfl rfl
          have e136 : ac.tmps[136]?.getD undef = .pointer (some ⟨rb, 2, none⟩) := h.tm 5 136 rfl rfl
          refine opWant 2 133 rfl rfl e133 ?_
          exact relRun (v := .slice ra2 ps2.length rc2) (w' := u) (by simp [go_sem, e133, e136, ((hP6.out.next hb).r.cell 2)]) (okP hg rfl)
        · intro ac gs u hb hg h
          have e133 : ac.tmps[133]?.getD undef = .bool false := h.tm 2 133 rfl rfl
          have e137 : ac.tmps[137]?.getD undef = .slice ra2 ps2.length rc2 := h.tm 6 137 rfl rfl
          refine opWant 2 133 rfl rfl e133 ?_
          exact relRun (v := .int .i64 ps2.length) (w' := u) (by simp [go_sem, e133, e137]) (okP hg rfl)
        · intro ac gs u hb hg h
          have e133 : ac.tmps[133]?.getD undef = .bool false := h.tm 2 133 rfl rfl
          have e135 : ac.tmps[135]?.getD undef = .int .i64 ms2.length := h.tm 4 135 rfl rfl
          have e138 : ac.tmps[138]?.getD undef = .int .i64 ps2.length := h.tm 7 138 rfl rfl
          refine opWant 2 133 rfl rfl e133 ?_
          exact relRun (v := .bool false) (w' := u) (by simp [go_sem, e133, e135, e138, hlen2]) (okP hg rfl)
        · intro ac gs u hb hg h
          have e133 : ac.tmps[133]?.getD undef = .bool false := h.tm 2 133 rfl rfl
          have e139 : ac.tmps[139]?.getD undef = .bool false := h.tm 8 139 rfl rfl
          refine opFree rfl ?_
          exact relRun (v := .bool false) (w' := u) (by simp [go_sem, e133, e139]) (okP hg rfl)
        · intro ac gs u hb hg h
          have e140 : ac.tmps[140]?.getD undef = .bool false := h.tm 9 140 rfl rfl
          refine opFree rfl ?_
          exact relMoveT _ rfl e140 (okP hg rfl)
        · intro ac gs u hb hg h
          have e141 : ac.tmps[141]?.getD undef = .bool false := h.tm 10 141 rfl rfl
          have e7 : ac.tmps[7]?.getD undef = .pointer (some ⟨lb, 0, none⟩) := h.inm 7 rfl rfl
          refine opWant 10 141 rfl rfl e141 ?_
          exact relMoveT _ rfl e7 (okP hg rfl)
        · intro ac gs u hb hg h
          have e141 : ac.tmps[141]?.getD undef = .bool false := h.tm 10 141 rfl rfl
          have e142 : ac.tmps[142]?.getD undef = .pointer (some ⟨lb, 0, none⟩) := h.tm 11 142 rfl rfl
          refine opWant 10 141 rfl rfl e141 ?_
          refine relCall (f := _) (args := #[.pointer (some ⟨lb, 0, none⟩)]) (by simp [go_sem, e141, e142]; rfl) ?_
          refine (La.all_r (hP6.out.next hb).L).mono ?_
          rintro e w' ⟨v, rfl, hv, hb'⟩
          exact ⟨_, rfl, okB hg hb' (hv.mono (fun b h _ => trivial))⟩
        · intro ac gs u hb hg h
          have e141 : ac.tmps[141]?.getD undef = .bool false := h.tm 10 141 rfl rfl
          have e8 : ac.tmps[8]?.getD undef = .pointer (some ⟨rb, 0, none⟩) := h.inm 8 rfl rfl
          refine opWant 10 141 rfl rfl e141 ?_
          exact relRun (v := .pointer (some ⟨rb, 2, none⟩)) (w' := u) (by simp [go_sem, e141, e8]) (okP hg rfl)
        · intro ac gs u hb hg h
          have e141 : ac.tmps[141]?.getD undef = .bool false := h.tm 10 141 rfl rfl
          have e144 : ac.tmps[144]?.getD undef = .pointer (some ⟨rb, 2, none⟩) := h.tm 13 144 rfl rfl
          refine opWant 10 141 rfl rfl e141 ?_
          exact relRun (v := .slice ra2 ps2.length rc2) (w' := u) (by simp [go_sem, e141, e144, ((hP6.out.next hb).r.cell 2)]) (okP hg rfl)
        · intro ac gs u hb hg h
          have e141 : ac.tmps[141]?.getD undef = .bool false := h.tm 10 141 rfl rfl
          have e143 := h.tm 12 143 rfl rfl
          have e145 : ac.tmps[145]?.getD undef = .slice ra2 ps2.length rc2 := h.tm 14 145 rfl rfl
          refine opWant 10 141 rfl rfl e141 ?_
          obtain ⟨qs, hq, hqm⟩ := e143
          refine relCall (f := _) (args := #[ac.tmps[143]?.getD undef, .slice ra2 ps2.length rc2]) (by simp [go_sem, e145]; rfl) ?_
          refine (R2.same_eq hqm (hP6.out.next hb).q (by rw [hq, he6.out])).mono ?_
          rintro e w' ⟨rfl, hb'⟩
          exact ⟨_, rfl, okB hg hb' rfl⟩
        · intro ac gs u hb hg h
          have e141 : ac.tmps[141]?.getD undef = .bool false := h.tm 10 141 rfl rfl
          have e146 : ac.tmps[146]?.getD undef = .bool true := h.tm 15 146 rfl rfl
          refine opWant 10 141 rfl rfl e141 ?_
          exact relRun (v := .bool false) (w' := u) (by simp [go_sem, e141, e146]) (okP hg rfl)
        · intro ac gs u hb hg h
          have e141 : ac.tmps[141]?.getD undef = .bool false := h.tm 10 141 rfl rfl
          have e147 : ac.tmps[147]?.getD undef = .bool false := h.tm 16 147 rfl rfl
          refine opFree rfl ?_
          exact relRun (v := .bool false) (w' := u) (by simp [go_sem, e141, e147]) (okP hg rfl)
        intro vs gs u hb hg hr
        have r0 : vs 0 = .bool true := hr 0 (by decide)
        have r1 : vs 1 = .bool false := hr 1 (by decide)
        have r2 : vs 2 = .bool false := hr 2 (by decide)
        have r3 : vs 3 = .pointer (some ⟨lb, 0, none⟩) := hr 3 (by decide)
        have r4 : vs 4 = .int .i64 ms2.length := hr 4 (by decide)
        have r5 : vs 5 = .pointer (some ⟨rb, 2, none⟩) := hr 5 (by decide)
        have r6 : vs 6 = .slice ra2 ps2.length rc2 := hr 6 (by decide)
        have r7 : vs 7 = .int .i64 ps2.length := hr 7 (by decide)
        have r8 : vs 8 = .bool false := hr 8 (by decide)
        have r9 : vs 9 = .bool false := hr 9 (by decide)
        have r10 : vs 10 = .bool false := hr 10 (by decide)
        have r11 : vs 11 = .pointer (some ⟨lb, 0, none⟩) := hr 11 (by decide)
        have r12 := hr 12 (by decide)
        have r13 : vs 13 = .pointer (some ⟨rb, 2, none⟩) := hr 13 (by decide)
        have r14 : vs 14 = .slice ra2 ps2.length rc2 := hr 14 (by decide)
        have r15 : vs 15 = .bool true := hr 15 (by decide)
        have r16 : vs 16 = .bool false := hr 16 (by decide)
        have r17 : vs 17 = .bool false := hr 17 (by decide)
        simp only [List.take_succ_cons, List.take_zero, List.drop_succ_cons, List.drop_zero, putOps, r0, r1, r2, r3, r4, r5, r6, r7, r8, r9, r10, r11, r13, r14, r15, r16, r17]
        simp only [Act.put, List.setIfInBounds_toArray, List.set_cons_succ, List.set_cons_zero]
        clear hr r0 r1 r2 r3 r4 r5 r6 r7 r8 r9 r10 r11 r13 r14 r15 r16 r17
        refine wpList_nil ?_
        -- GER
        clear r12 hlen2
        have hP7 := hid (hP6.out.next hb)
        clear hb hg hP6
        clear hP3 hw3 hS3
        generalize u = W7 at hP7 ⊢
        go_wp2
        go_loopg [23] 5 (fun g i wx => ∃ j : Nat, j ≤ 5 ∧ g = 5 - j ∧ i = .int .i64 ((j : Int) - 1) ∧ Below W7.heap.size W7 wx)
        case atStart => exact ⟨0, by omega, rfl, rfl, Below.refl _ _⟩
        case round =>
          obtain ⟨j, hj, hgj, rfl, hbj⟩ := hrel
          replace hP7 := hid (hP7.out.next hbj)
          replace hbj := hid hbj
          by_cases hj5 : j < 5
          · obtain ⟨κ, hκ⟩ : ∃ κ : Int, κ = (j : Int) - 1 := ⟨_, rfl⟩
            have hκ4 : κ < 4 := by omega
            have hκ1 : -1 ≤ κ := by omega
            replace hκ := hid hκ
            rw [← hκ.out]
            go_upto_region 38 with fail
            -- REG empennage/empennagelaw10.LanePlays|38|LanePlays.38
            refine region_tab 17 [Sp.eq (.pointer (some ⟨lb, 0, none⟩)), Sp.eq (.int .i64 κ), Sp.eq (.int .i64 (roomT ln pn ms2 κ)), Sp.eq (.agg #[.int .i64 ln, .int .i64 pn, .slice ra2 ps2.length rc2]), Sp.eq (.int .i64 κ), Sp.eq (.int .i64 (roomT ln pn ms2 κ)), Sp.eq (.bool false), Sp.eq (.bool false), Sp.eq (.pointer (some ⟨lb, 0, none⟩)), Sp.eq (.int .i64 κ), Sp.of (fun v u => MsgsR (fun _ => True) u v (ofM κ ms2)) (fun v w w' h hb => MsgsR.below h hb), Sp.eq (.agg #[.int .i64 ln, .int .i64 pn, .slice ra2 ps2.length rc2]), Sp.eq (.int .i64 κ), Sp.of (fun v u => MsgsR (fun _ => True) u v (ofM κ ms2)) (fun v w w' h hb => MsgsR.below h hb), Sp.eq (.bool true), Sp.eq (.bool false), Sp.eq (.bool false)] (fun _ _ _ _ _ h => h) (by kernel_rfl) (by kernel_rfl) ⟨?_, ?_, ?_, ?_, ?_, ?_, ?_, ?_, ?_, ?_, ?_, ?_, ?_, ?_, ?_, ?_, ?_, trivial⟩ ?_
            · intro ac gs u hb hg h
              have e7 : ac.tmps[7]?.getD undef = .pointer (some ⟨lb, 0, none⟩) := h.inm 7 rfl rfl
              refine opFree rfl ?_
              exact relMoveT _ rfl e7 (okP hg rfl)
            · intro ac gs u hb hg h
              have e23 : ac.tmps[23]?.getD undef = .int .i64 κ := h.inm 23 rfl rfl
              refine opFree rfl ?_
              exact relMoveT _ rfl e23 (okP hg rfl)
            · intro ac gs u hb hg h
              have e153 : ac.tmps[153]?.getD undef = .pointer (some ⟨lb, 0, none⟩) := h.tm 0 153 rfl rfl
              have e154 : ac.tmps[154]?.getD undef = .int .i64 κ := h.tm 1 154 rfl rfl
              refine opFree rfl ?_
              refine relCall (f := _) (args := #[.pointer (some ⟨lb, 0, none⟩), .int .i64 κ]) (by simp [go_sem, e153, e154]; rfl) ?_
              refine (La.room_c (hP7.out.next hb).L κ).mono ?_
              rintro e w' ⟨rfl, hb'⟩
              exact ⟨_, rfl, okB hg hb' rfl⟩
            · intro ac gs u hb hg h
              have e8 : ac.tmps[8]?.getD undef = .pointer (some ⟨rb, 0, none⟩) := h.inm 8 rfl rfl
              refine opFree rfl ?_
              exact relRun (v := .agg #[.int .i64 ln, .int .i64 pn, .slice ra2 ps2.length rc2]) (w' := u) (by simp [go_sem, e8, ((hP7.out.next hb).r.cell 0), ((hP7.out.next hb).r.cell 1), ((hP7.out.next hb).r.cell 2)]) (okP hg rfl)
            · intro ac gs u hb hg h
              have e23 : ac.tmps[23]?.getD undef = .int .i64 κ := h.inm 23 rfl rfl
              refine opFree rfl ?_
              exact relMoveT _ rfl e23 (okP hg rfl)
            · intro ac gs u hb hg h
              have e156 : ac.tmps[156]?.getD undef = .agg #[.int .i64 ln, .int .i64 pn, .slice ra2 ps2.length rc2] := h.tm 3 156 rfl rfl
              have e157 : ac.tmps[157]?.getD undef = .int .i64 κ := h.tm 4 157 rfl rfl
              refine opFree rfl ?_
              refine relCall (f := _) (args := #[.agg #[.int .i64 ln, .int .i64 pn, .slice ra2 ps2.length rc2], .int .i64 κ]) (by simp [go_sem, e156, e157]; rfl) ?_
              refine (Rl.room_c (hP7.out.next hb).q hsm2.out hl3.out hp8.out κ).mono ?_
              rintro e w' ⟨rfl, hb'⟩
              exact ⟨_, rfl, okB hg hb' (show Value.int .i64 _ = Value.int .i64 _ from by rw [he6.out, room_sort])⟩
            · intro ac gs u hb hg h
              have e155 : ac.tmps[155]?.getD undef = .int .i64 (roomT ln pn ms2 κ) := h.tm 2 155 rfl rfl
              have e158 : ac.tmps[158]?.getD undef = .int .i64 (roomT ln pn ms2 κ) := h.tm 5 158 rfl rfl
              refine opFree rfl ?_
              exact relRun (v := .bool false) (w' := u) (by simp [go_sem, e155, e158]) (okP hg rfl)
            · intro ac gs u hb hg h
              have e159 : ac.tmps[159]?.getD undef = .bool false := h.tm 6 159 rfl rfl
              refine opFree rfl ?_
              exact relMoveT _ rfl e159 (okP hg rfl)
            · intro ac gs u hb hg h
              have e160 : ac.tmps[160]?.getD undef = .bool false := h.tm 7 160 rfl rfl
              have e7 : ac.tmps[7]?.getD undef = .pointer (some ⟨lb, 0, none⟩) := h.inm 7 rfl rfl
              refine opWant 7 160 rfl rfl e160 ?_
              exact relMoveT _ rfl e7 (okP hg rfl)
            · intro ac gs u hb hg h
              have e160 : ac.tmps[160]?.getD undef = .bool false := h.tm 7 160 rfl rfl
              have e23 : ac.tmps[23]?.getD undef = .int .i64 κ := h.inm 23 rfl rfl
              refine opWant 7 160 rfl rfl e160 ?_
              exact relMoveT _ rfl e23 (okP hg rfl)
            · intro ac gs u hb hg h
              have e160 : ac.tmps[160]?.getD undef = .bool false := h.tm 7 160 rfl rfl
              have e161 : ac.tmps[161]?.getD undef = .pointer (some ⟨lb, 0, none⟩) := h.tm 8 161 rfl rfl
              have e162 : ac.tmps[162]?.getD undef = .int .i64 κ := h.tm 9 162 rfl rfl
              refine opWant 7 160 rfl rfl e160 ?_
              refine relCall (f := _) (args := #[.pointer (some ⟨lb, 0, none⟩), .int .i64 κ]) (by simp [go_sem, e160, e161, e162]; rfl) ?_
              refine (La.of_c (hP7.out.next hb).L κ).mono ?_
              rintro e w' ⟨v, rfl, hv, hb'⟩
              exact ⟨_, rfl, okB hg hb' (hv.mono (fun b h _ => trivial))⟩
            · intro ac gs u hb hg h
              have e160 : ac.tmps[160]?.getD undef = .bool false := h.tm 7 160 rfl rfl
              have e8 : ac.tmps[8]?.getD undef = .pointer (some ⟨rb, 0, none⟩) := h.inm 8 rfl rfl
              refine opWant 7 160 rfl rfl e160 ?_
              exact relRun (v := .agg #[.int .i64 ln, .int .i64 pn, .slice ra2 ps2.length rc2]) (w' := u) (by simp [go_sem, e160, e8, ((hP7.out.next hb).r.cell 0), ((hP7.out.next hb).r.cell 1), ((hP7.out.next hb).r.cell 2)]) (okP hg rfl)
            · intro ac gs u hb hg h
              have e160 : ac.tmps[160]?.getD undef = .bool false := h.tm 7 160 rfl rfl
              have e23 : ac.tmps[23]?.getD undef = .int .i64 κ := h.inm 23 rfl rfl
              refine opWant 7 160 rfl rfl e160 ?_
              exact relMoveT _ rfl e23 (okP hg rfl)
            · intro ac gs u hb hg h
              have e160 : ac.tmps[160]?.getD undef = .bool false := h.tm 7 160 rfl rfl
              have e164 : ac.tmps[164]?.getD undef = .agg #[.int .i64 ln, .int .i64 pn, .slice ra2 ps2.length rc2] := h.tm 11 164 rfl rfl
              have e165 : ac.tmps[165]?.getD undef = .int .i64 κ := h.tm 12 165 rfl rfl
              refine opWant 7 160 rfl rfl e160 ?_
              refine relCall (f := _) (args := #[.agg #[.int .i64 ln, .int .i64 pn, .slice ra2 ps2.length rc2], .int .i64 κ]) (by simp [go_sem, e160, e164, e165]; rfl) ?_
              refine (Rl.of_c (hP7.out.next hb).q (Nat.lt_trans hsm2.out (by omega)) κ).mono ?_
              rintro e w' ⟨v, rfl, hv, hb'⟩
              exact ⟨_, rfl, okB hg hb' ⟨_, by rw [← La.ofM_sort, ← he6.out, ofM_snd], hv.mono (fun b h _ => trivial) (fun b h _ => trivial)⟩⟩
            · intro ac gs u hb hg h
              have e160 : ac.tmps[160]?.getD undef = .bool false := h.tm 7 160 rfl rfl
              have e163 := h.tm 10 163 rfl rfl
              have e166 := h.tm 13 166 rfl rfl
              refine opWant 7 160 rfl rfl e160 ?_
              obtain ⟨qs1, h1, m1⟩ := e163
              obtain ⟨qs2, h2, m2⟩ := e166
              refine relCall (f := _) (args := #[ac.tmps[163]?.getD undef, ac.tmps[166]?.getD undef]) (by simp [go_sem]; rfl) ?_
              refine (R2.same_eq m1 m2 (h1.trans h2.symm)).mono ?_
              rintro e w' ⟨rfl, hb'⟩
              exact ⟨_, rfl, okB hg hb' rfl⟩
            · intro ac gs u hb hg h
              have e160 : ac.tmps[160]?.getD undef = .bool false := h.tm 7 160 rfl rfl
              have e167 : ac.tmps[167]?.getD undef = .bool true := h.tm 14 167 rfl rfl
              refine opWant 7 160 rfl rfl e160 ?_
              exact relRun (v := .bool false) (w' := u) (by simp [go_sem, e160, e167]) (okP hg rfl)
            · intro ac gs u hb hg h
              have e160 : ac.tmps[160]?.getD undef = .bool false := h.tm 7 160 rfl rfl
              have e168 : ac.tmps[168]?.getD undef = .bool false := h.tm 15 168 rfl rfl
              refine opFree rfl ?_
              exact relRun (v := .bool false) (w' := u) (by simp [go_sem, e160, e168]) (okP hg rfl)
            intro vs gs u hb hg hr
            have r0 : vs 0 = .pointer (some ⟨lb, 0, none⟩) := hr 0 (by decide)
            have r1 : vs 1 = .int .i64 κ := hr 1 (by decide)
            have r2 : vs 2 = .int .i64 (roomT ln pn ms2 κ) := hr 2 (by decide)
            have r3 : vs 3 = .agg #[.int .i64 ln, .int .i64 pn, .slice ra2 ps2.length rc2] := hr 3 (by decide)
            have r4 : vs 4 = .int .i64 κ := hr 4 (by decide)
            have r5 : vs 5 = .int .i64 (roomT ln pn ms2 κ) := hr 5 (by decide)
            have r6 : vs 6 = .bool false := hr 6 (by decide)
            have r7 : vs 7 = .bool false := hr 7 (by decide)
            have r8 : vs 8 = .pointer (some ⟨lb, 0, none⟩) := hr 8 (by decide)
            have r9 : vs 9 = .int .i64 κ := hr 9 (by decide)
            have r10 := hr 10 (by decide)
            have r11 : vs 11 = .agg #[.int .i64 ln, .int .i64 pn, .slice ra2 ps2.length rc2] := hr 11 (by decide)
            have r12 : vs 12 = .int .i64 κ := hr 12 (by decide)
            have r13 := hr 13 (by decide)
            have r14 : vs 14 = .bool true := hr 14 (by decide)
            have r15 : vs 15 = .bool false := hr 15 (by decide)
            have r16 : vs 16 = .bool false := hr 16 (by decide)
            simp only [List.take_succ_cons, List.take_zero, List.drop_succ_cons, List.drop_zero, putOps, r0, r1, r2, r3, r4, r5, r6, r7, r8, r9, r11, r12, r14, r15, r16]
            simp only [Act.put, List.setIfInBounds_toArray, List.set_cons_succ, List.set_cons_zero]
            clear hr r0 r1 r2 r3 r4 r5 r6 r7 r8 r9 r11 r12 r14 r15 r16
            refine wpList_nil ?_
            -- GER
            go_wp2
            go_roundg (5 - (j + 1))
            case rel => exact ⟨j + 1, by omega, rfl, by rw [hκ.out]; go_num, Below.next hbj.out hb hbj.out.size⟩
            case measure => omega
          · obtain rfl : j = 5 := by omega
            go_wp2
            go_roundg (ys.length - (k + 1))
            case rel => exact ⟨k + 1, ms2, M2, _, ps2, by omega, rfl, by go_num, hP7.out, he6.out⟩
            case measure => omega
    · obtain rfl : k = ys.length := by omega
      replace hP := hid hP
      clear he
      go_wp2
      go_ret
      exact ⟨rfl, hP.out.W.below⟩
end Go.Proofs.Ytbbhhjoohfkanaa.La
