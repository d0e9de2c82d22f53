/- DERIVED. The walk over the statement GateDoors: a message judged right is let in just if its lane has room, and there is a token. -/
import Derived.Test.YtealopempjempaaGateDoorsP
import Derived.Test.YtealopempjempaaGateT
namespace Go.Proofs.Ytealopempjempaa.Gt
set_option linter.unusedVariables false
set_option linter.unusedSimpArgs false
open Go.RowKit Go.Proofs.Ytealopempjempaa.K Go.Proofs.Ytealopempjempaa.Lb Go.Proofs.Ytealopempjempaa.La Go.Proofs.Ytealopempjempaa.Cf
set_option maxHeartbeats 4000000 in
set_option maxRecDepth 100000 in
theorem gdoors_c {w : World} (k : Chan) {ao : Option Addr} {n0 c0 : Nat} {qs : List (Value × GSt)} (hs0 : GStepsAt w (.slice ao n0 c0) qs) : Calls Try.prog 5 #[aggC k, .slice ao n0 c0] w (LivesPost w) := by
  replace hs0 := hid hs0
  have hb0 := hid ((Below.refl w.heap.size w).alloc (Nat.le_refl _) (.cells #[.int .i64 k.kind, .int .i64 k.frm, .int .i64 k.to, .int .i64 k.words, .int .i64 k.refresh, .int .i64 k.lanes, .int .i64 k.depth, .int .i64 k.hold, .int .i64 k.life, .int .i64 k.rate, .int .i64 k.cap] 23))
  have hK0 := hid (pts.newA w #[.int .i64 k.kind, .int .i64 k.frm, .int .i64 k.to, .int .i64 k.words, .int .i64 k.refresh, .int .i64 k.lanes, .int .i64 k.depth, .int .i64 k.hold, .int .i64 k.life, .int .i64 k.rate, .int .i64 k.cap] 23)
  have hok := hid (goodK_ok k)
  have hgd := hid (fun w => good_c w k)
  generalize goodK k = kg at hok hgd
  obtain ⟨sb, hsb⟩ : ∃ sb, sb = w.heap.size := ⟨_, rfl⟩
  unfold aggC at *
  go_enter Try.func5, Try.ntmps5
  go_upto_region 3 with (first | (go_at_call 10; (with_reducible refine (lives_c _).mono ?_); rintro e W1 ⟨rfl, hb⟩; have hK1 := hid (hK0.out.below hb); have hB1 := hid (Below.next hb0.out hb hb0.out.size); have hL1 := hid (Nat.le_trans hb0.out.size hb.size); clear hb))
  rw [← hsb] at hK1 ⊢
  replace hsb := hid hsb
  have y0 := (hK1.out).cell 0
  have y1 := (hK1.out).cell 1
  have y2 := (hK1.out).cell 2
  have y3 := (hK1.out).cell 3
  have y4 := (hK1.out).cell 4
  have y5 := (hK1.out).cell 5
  have y6 := (hK1.out).cell 6
  have y7 := (hK1.out).cell 7
  have y8 := (hK1.out).cell 8
  have y9 := (hK1.out).cell 9
  have y10 := (hK1.out).cell 10
  have yl := (hK1.out).lt
  have yf := fun o => (hK1.out).frozen o
  simp only [List.getElem?_cons_zero, List.getElem?_cons_succ] at y0 y1 y2 y3 y4 y5 y6 y7 y8 y9 y10
  go_upto_region 4 with (first | (go_at_call 11; (with_reducible refine (hgd.out _).mono ?_); rintro e W2 ⟨rfl, hb⟩; have hK2 := hid (hK1.out.below hb); have hB2 := hid (Below.next hB1.out hb hL1.out); have hL2 := hid (Nat.le_trans hL1.out hb.size); clear hb; have x0 := (hK2.out).cell 0; have x1 := (hK2.out).cell 1; have x2 := (hK2.out).cell 2; have x3 := (hK2.out).cell 3; have x4 := (hK2.out).cell 4; have x5 := (hK2.out).cell 5; have x6 := (hK2.out).cell 6; have x7 := (hK2.out).cell 7; have x8 := (hK2.out).cell 8; have x9 := (hK2.out).cell 9; have x10 := (hK2.out).cell 10; have xl := (hK2.out).lt; have xf := fun o => (hK2.out).frozen o; simp only [List.getElem?_cons_zero, List.getElem?_cons_succ] at x0 x1 x2 x3 x4 x5 x6 x7 x8 x9 x10))
  clear y0 y1 y2 y3 y4 y5 y6 y7 y8 y9 y10 yl yf
  have hsw : w.heap.size ≤ sb := by have := hsb.out; omega
  have hset := (((((((((((hK2.out.set 0 (.int .i64 kg.kind)).set 1 (.int .i64 kg.frm)).set 2 (.int .i64 kg.to)).set 3 (.int .i64 kg.words)).set 4 (.int .i64 kg.refresh)).set 5 (.int .i64 kg.lanes)).set 6 (.int .i64 kg.depth)).set 7 (.int .i64 kg.hold)).set 8 (.int .i64 kg.life)).set 9 (.int .i64 kg.rate)).set 10 (.int .i64 kg.cap))
  simp only [List.set_cons_zero, List.set_cons_succ] at hset
  have hbs := (Below.setCell (p := ⟨sb, 10, none⟩) (Below.setCell (p := ⟨sb, 9, none⟩) (Below.setCell (p := ⟨sb, 8, none⟩) (Below.setCell (p := ⟨sb, 7, none⟩) (Below.setCell (p := ⟨sb, 6, none⟩) (Below.setCell (p := ⟨sb, 5, none⟩) (Below.setCell (p := ⟨sb, 4, none⟩) (Below.setCell (p := ⟨sb, 3, none⟩) (Below.setCell (p := ⟨sb, 2, none⟩) (Below.setCell (p := ⟨sb, 1, none⟩) (Below.setCell (p := ⟨sb, 0, none⟩) hB2.out hsw (.int .i64 kg.kind)) hsw (.int .i64 kg.frm)) hsw (.int .i64 kg.to)) hsw (.int .i64 kg.words)) hsw (.int .i64 kg.refresh)) hsw (.int .i64 kg.lanes)) hsw (.int .i64 kg.depth)) hsw (.int .i64 kg.hold)) hsw (.int .i64 kg.life)) hsw (.int .i64 kg.rate)) hsw (.int .i64 kg.cap))
  have hK3 := hid hset
  have hB3 := hid hbs
  have hL3 := hid (show w.heap.size ≤ ((((((((((((W2.setCell ⟨sb, 0, none⟩ (.int .i64 kg.kind)).setCell ⟨sb, 1, none⟩ (.int .i64 kg.frm)).setCell ⟨sb, 2, none⟩ (.int .i64 kg.to)).setCell ⟨sb, 3, none⟩ (.int .i64 kg.words)).setCell ⟨sb, 4, none⟩ (.int .i64 kg.refresh)).setCell ⟨sb, 5, none⟩ (.int .i64 kg.lanes)).setCell ⟨sb, 6, none⟩ (.int .i64 kg.depth)).setCell ⟨sb, 7, none⟩ (.int .i64 kg.hold)).setCell ⟨sb, 8, none⟩ (.int .i64 kg.life)).setCell ⟨sb, 9, none⟩ (.int .i64 kg.rate)).setCell ⟨sb, 10, none⟩ (.int .i64 kg.cap))).heap.size by simpa using hL2.out)
  generalize (((((((((((W2.setCell ⟨sb, 0, none⟩ (.int .i64 kg.kind)).setCell ⟨sb, 1, none⟩ (.int .i64 kg.frm)).setCell ⟨sb, 2, none⟩ (.int .i64 kg.to)).setCell ⟨sb, 3, none⟩ (.int .i64 kg.words)).setCell ⟨sb, 4, none⟩ (.int .i64 kg.refresh)).setCell ⟨sb, 5, none⟩ (.int .i64 kg.lanes)).setCell ⟨sb, 6, none⟩ (.int .i64 kg.depth)).setCell ⟨sb, 7, none⟩ (.int .i64 kg.hold)).setCell ⟨sb, 8, none⟩ (.int .i64 kg.life)).setCell ⟨sb, 9, none⟩ (.int .i64 kg.rate)).setCell ⟨sb, 10, none⟩ (.int .i64 kg.cap)) = W3 at hset hbs hK3 hB3 hL3 ⊢
  clear hset hbs hK1 hB1 hL1 hK2 hB2 hL2 hK0 hb0 hgd
  clear x0 x1 x2 x3 x4 x5 x6 x7 x8 x9 x10 xl xf
  clear hsw
  have x0 := (hK3.out).cell 0
  have x1 := (hK3.out).cell 1
  have x2 := (hK3.out).cell 2
  have x3 := (hK3.out).cell 3
  have x4 := (hK3.out).cell 4
  have x5 := (hK3.out).cell 5
  have x6 := (hK3.out).cell 6
  have x7 := (hK3.out).cell 7
  have x8 := (hK3.out).cell 8
  have x9 := (hK3.out).cell 9
  have x10 := (hK3.out).cell 10
  have xl := (hK3.out).lt
  have xf := fun o => (hK3.out).frozen o
  simp only [List.getElem?_cons_zero, List.getElem?_cons_succ] at x0 x1 x2 x3 x4 x5 x6 x7 x8 x9 x10
  have hnw := hid (gnew_c W3 kg)
  unfold aggC at hnw
  go_upto_region 5 with (first | (go_at_call 15; (with_reducible refine (hnw.out).mono ?_); rintro e w4 ⟨gb, rfl, hG, hb⟩; have hG4 := hid hG; have hW4 := hid (show Wd W3.heap.size W3 w4 (fun b => W3.heap.size ≤ b ∧ b < w4.heap.size) from ⟨hb, fun b h => h.1, fun b h => h.2, hb.size⟩); clear hG hb; generalize (fun b => W3.heap.size ≤ b ∧ b < w4.heap.size) = M4 at hG4 hW4))
  clear x0 x1 x2 x3 x4 x5 x6 x7 x8 x9 x10 xl xf
  go_wp2_with (first | (go_at_call 20; (with_reducible refine (gearly_c (w0 := w) _ hs0.out).mono ?_); rintro e w' ⟨v', rfl, hv', rfl⟩; have hl80 := hid (show (qs.take 80).length ≤ 80 by simp; omega); generalize qs.take 80 = ys at hv' hl80; obtain ⟨a3, c3, rfl⟩ := hv'.shape; replace hv' := hid hv'))
  go_loopg [7, 6, 8, 9, 10, 11, 12, 13, 14, 15] ys.length (fun gg si sr s8 s9 s10 s11 s12 s13 s14 s15 wr => ∃ (i : Nat) (r : Int) (g : Gte) (M : Nat → Prop), i ≤ ys.length ∧ gg = ys.length - i ∧ si = .int .i64 i ∧ sr = .int .i64 r ∧ 0 ≤ r ∧ r ≤ i ∧ g.k = kg ∧ g.seq ≤ i ∧ GateM wr M gb g ∧ Wd W3.heap.size W3 wr M)
  case atStart => exact ⟨0, 0, _, M4, by omega, rfl, rfl, rfl, by omega, by simp, rfl, by simp, hG4.out, hW4.out⟩
  case round =>
    clear hG4 hW4 hnw
    obtain ⟨i, r, g, M, hi, hgg, rfl, rfl, hr0, hri, hgk, hsq, hG, hW⟩ := hrel
    have hBw := hid (hB3.out.trans (hW.below.mono hL3.out))
    have hend := hid (show LivesPost w (.returned (.bool true)) wr from ⟨rfl, hBw.out⟩)
    by_cases hlt : i < ys.length
    · obtain ⟨xg, xo, xa, xc, rfl, xl, -, c0, c1, c2, c3', c4, c5⟩ := hv'.out.atC hBw.out hlt
      have hi80 : i < 80 := Nat.lt_of_lt_of_le hlt hl80.out
      have d1 : decide ((i : Int) < ys.length) = true := decide_eq_true (by omega)
      obtain ⟨d, hd, ed⟩ := cut2d (x := ys[i].2.round) (r := r) ⟨hr0, by omega⟩
      obtain ⟨y, hy0, hy1, ey⟩ := lane_of (x := ys[i].2.lane) (l := kg.lanes) hok.out.lanes
      have hbb := (Below.refl wr.heap.size wr).alloc (Nat.le_refl _) (.cells #[.int .i64 ys[i].2.k, .int .i64 ys[i].2.mode, .int .i64 ys[i].2.lane, .int .i64 ys[i].2.n, .int .i64 ys[i].2.round, .slice xa ys[i].2.ws.length xc] 26)
      have hP := hid (pts.newA wr #[.int .i64 ys[i].2.k, .int .i64 ys[i].2.mode, .int .i64 ys[i].2.lane, .int .i64 ys[i].2.n, .int .i64 ys[i].2.round, .slice xa ys[i].2.ws.length xc] 26)
      have hKw := hid ((hK3.out.below hW.below).below hbb)
      have hG1 := hid (hG.below hbb)
      have hW1 := hid (hW.next hbb)
      have hnb := hid (fun hm => hG.lt wr.heap.size hm)
      clear hG hW hbb
      go_upto_region 11 with fail
      generalize wr.alloc (.cells #[.int .i64 ys[i].2.k, .int .i64 ys[i].2.mode, .int .i64 ys[i].2.lane, .int .i64 ys[i].2.n, .int .i64 ys[i].2.round, .slice xa ys[i].2.ws.length xc] 26) = w5 at hP hKw hG1 hW1 ⊢
      obtain ⟨pb, hpb⟩ : ∃ pb, pb = wr.heap.size := ⟨_, rfl⟩
      rw [← hpb] at hP hnb ⊢
      replace hpb := hid hpb
      clear c0 c1 c2 c3' c4 c5 xl d1
      have p2 := hP.out.cell 2
      have p4 := hP.out.cell 4
      have x5 := hKw.out.cell 5
      simp only [List.getElem?_cons_zero, List.getElem?_cons_succ] at p2 p4 x5
      go_upto_region 12 with fail
      rw [ed]
      replace ed := hid ed
      have hz : (IntKind.u64.wrap kg.lanes == 0) = false := by have := hok.out.lanes; rw [IntKind.wrap_u64]; simp; omega
      have hz2 : IntKind.u64.wrap kg.lanes ≠ 0 := by have := hok.out.lanes; rw [IntKind.wrap_u64]; omega
      go_upto_region 13 with fail
      rw [ey]
      replace ey := hid ey
      clear hz hz2
      go_upto_region 15 with (first | (go_at_call 21; (with_reducible refine (gall_c hG1.out).mono ?_); rintro e w6 ⟨v6, rfl, hv, hb⟩; have hv6 := hid hv; have hG6 := hid (hG1.out.below hb); have hW6 := hid (hW1.out.next hb); have hP6 := hid (hP.out.below hb); have hK6 := hid (hKw.out.below hb); clear hv hb))
      clear p2 p4 x5
      obtain ⟨ps, hps, hms⟩ := hv6.out
      obtain ⟨a6, c6, rfl⟩ := hms.shape
      replace hms := hid hms
      replace hps := hid hps
      clear hv6
      go_wp2
      have hcnt : (ps.filter (fun p => p.2.lane == y)).length = (ofM y g.ms).length := by
        rw [← La.ofM_sort y g.ms, ← hps.out]; unfold ofM; rw [List.filter_map, List.length_map]; rfl
      have hms' := hms
      replace hcnt := hid hcnt
      go_loopg [12, 10] ps.length (fun g2 sj sn w7 => ∃ j : Nat, j ≤ ps.length ∧ g2 = ps.length - j ∧ sj = .int .i64 j ∧ sn = .int .i64 (((ps.take j).filter (fun p => p.2.lane == y)).length : Nat) ∧ w7 = w6)
      case atStart => exact ⟨0, by omega, rfl, rfl, by simp, rfl⟩
      case round =>
        obtain ⟨j, hj, hg2, rfl, rfl, rfl⟩ := hrel
        by_cases hjl : j < ps.length
        · obtain ⟨eg, eo, ea, ec, rfl, -, -, h5, -⟩ := hms'.out.at5 hjl
          have e1 := h5.c1
          have el := h5.lt
          clear h5
          have dj : decide ((j : Int) < ps.length) = true := decide_eq_true (by omega)
          have hstep : (ps.take (j + 1)).filter (fun p => p.2.lane == y) = (ps.take j).filter (fun p => p.2.lane == y) ++ (if ps[j].2.lane = y then [ps[j]] else []) := by
            rw [List.take_succ_eq_append_getElem hjl, List.filter_append]
            congr 1
            by_cases h : ps[j].2.lane = y <;> simp [h]
          have hle : ((ps.take j).filter (fun p => p.2.lane == y)).length ≤ j := Nat.le_trans (List.length_filter_le _ _) (by simp; omega)
          have hmx := hms'.out.get.2.1
          have hmx2 := hms'.out.get.2.2.1
          generalize hc1 : ((ps.take j).filter (fun p => p.2.lane == y)).length = c1 at hle
          by_cases hly : ps[j].2.lane = y
          · have dl : (ps[j].2.lane == y) = true := by simpa using hly
            have hlen : ((ps.take (j + 1)).filter (fun p => p.2.lane == y)).length = c1 + 1 := by rw [hstep, if_pos hly, List.length_append, hc1]; rfl
            replace hlen := hid hlen
            replace hc1 := hid hc1
            replace hly := hid hly
            clear hstep
            go_wp2
            go_roundg (ps.length - (j + 1))
            case rel => exact ⟨j + 1, by omega, rfl, by go_num, by rw [hlen.out]; go_num, rfl⟩
            case measure => omega
          · have dl : (ps[j].2.lane == y) = false := by simpa using hly
            have hlen : ((ps.take (j + 1)).filter (fun p => p.2.lane == y)).length = c1 := by rw [hstep, if_neg hly, List.append_nil, hc1]
            replace hlen := hid hlen
            replace hc1 := hid hc1
            replace hly := hid hly
            clear hstep
            go_wp2
            go_roundg (ps.length - (j + 1))
            case rel => exact ⟨j + 1, by omega, rfl, by go_num, by rw [hlen.out], rfl⟩
            case measure => omega
        · obtain rfl : j = ps.length := by omega
          have dj : decide ((ps.length : Int) < ps.length) = false := decide_eq_false (by omega)
          rw [List.take_length, hcnt.out]
          have hw' := hid hW6
          have hinv := hG6.out.inv
          have hfew : ((ofM y g.ms).length : Int) ≤ plT g.k.depth := hinv.few y
          have hok2 := hok.out
          have hpl : plT g.k.depth = kg.depth := by rw [hgk]; have := hok2.depth; unfold plT; omega
          rw [hpl] at hfew
          have hdo := door_offer (g := g) (by rw [hgk]; exact hok2) hy0 (by rw [hgk]; exact hy1) (i : Int) ys[i].2.n (r + d) ⟨by omega, by omega⟩
          rw [hgk] at hdo
          have x6 := hK6.out.cell 6
          simp only [List.getElem?_cons_zero, List.getElem?_cons_succ] at x6
          have p3 := (hP6.out.alloc (.cells #[.int .i64 i] 3)).cell 3
          simp only [List.getElem?_cons_zero, List.getElem?_cons_succ] at p3
          generalize hcn : (ofM y g.ms).length = cn at hfew hdo hcnt
          replace hcn := hid hcn
          clear hinv hpl hw'
          by_cases hfull : (cn : Int) < kg.depth
          · have dn : decide ((cn : Int) < kg.depth) = true := decide_eq_true hfull
            have htk := gtokens_c hG6.out (r + d)
            unfold GTok at htk
            have hbok : g.b.Ok := by obtain ⟨_, _, _, hA, _, _⟩ := hG6.out; exact hA.ok
            have hdo2 := door_offer (g := { g with b := comeB g.b (r + d) }) (show GoodK g.k by rw [hgk]; exact hok2) hy0 (show y < g.k.lanes by rw [hgk]; exact hy1) (i : Int) ys[i].2.n (r + d) ⟨by omega, by omega⟩
            simp only [comeB_idem hbok] at hdo2
            have hkd : g.k.depth = kg.depth := by rw [hgk]
            rw [if_neg (by rw [hcn.out, hkd]; omega)] at hdo2
            replace hkd := hid hkd
            clear hdo
            have hbt := (comeB_ok hbok (r + d)).t
            generalize htv : (comeB g.b (r + d)).tokens = tk at htk hdo2 hbt
            replace htv := hid htv
            replace htk := hid htk
            replace hfew := hid hfew
            have hrd : 0 ≤ r + d ∧ r + d ≤ (i : Int) + 1 := by omega
            by_cases ht : tk = 0
            · rw [if_pos ht] at hdo2
              have dt : decide (0 < tk) = false := decide_eq_false (by omega)
              have hofl := hid (fun (w1 : World) (M1 : Nat → Prop) (h : GateM w1 M1 gb { g with b := comeB g.b (r + d) }) => show Calls Try.prog 16 #[.pointer (some ⟨gb, 0, none⟩), .int .i64 0, .int .i64 y, .slice (some ⟨w1.heap.size, 0, none⟩) 1 1, .int .i64 ys[i].2.n, .int .i64 (r + d)] (w1.alloc (.cells #[.int .i64 i] 3)) (OfferPost w1 M1 gb ({ g with b := comeB g.b (r + d) }, zeroMsg, 2)) from by
                have := offerLit h (i : Int) 0 y ys[i].2.n (r + d) (show g.seq < 1000000 by omega) rfl
                rw [hdo2] at this; exact this)
              clear hdo2 p3
              by_cases hk4 : 4 < kindT ys[i].2.k
              · have dk : decide (4 < kindT ys[i].2.k) = true := decide_eq_true hk4
                go_wp2_with (first | (go_at_call 22; (with_reducible refine (htk.out).mono ?_); rintro e w7 ⟨rfl, hG, hC⟩; have hG7 := hid hG; have hW7 := hid (hW6.out.chg hC); have hP7 := hid (hP6.out.chg hC (fun hm => Nat.lt_irrefl _ (hnb.out hm))); have hn7 := hid (show ¬ grow M wr w7 pb from fun hm => by rcases hm with hm | hm; exact Nat.lt_irrefl _ (hnb.out hm); have := hP6.out.lt; omega); have p3 := (hP7.out.alloc (.cells #[.int .i64 i] 3)).cell 3; simp only [List.getElem?_cons_zero, List.getElem?_cons_succ] at p3; clear hG hC) | (go_at_call 16; (with_reducible refine (hofl.out _ _ hG7.out).mono ?_); rintro e w8 ⟨a8, c8, rfl, -, hG, hC⟩; simp only [zeroMsg, List.length_nil]; have hb8 := (Below.refl w8.heap.size w8).alloc (Nat.le_refl _) (.cells #[.slice a8 0 c8, .int .i64 0, .int .i64 0, .int .i64 0, .int .i64 0] 37); have hG8 := hid (hG.below hb8); have hW8 := hid ((hW7.out.chg hC).next hb8); have hP8 := hid ((hP7.out.chg hC hn7.out).below hb8); have z0 := hP8.out.cell 0; have z1 := hP8.out.cell 1; have z2 := hP8.out.cell 2; have z3 := hP8.out.cell 3; have z4 := hP8.out.cell 4; have z5 := hP8.out.cell 5; simp only [List.getElem?_cons_zero, List.getElem?_cons_succ] at z0 z1 z2 z3 z4 z5; clear hG hC hb8) | (go_at_call 23; (with_reducible refine (gkind_c _ ys[i].2 _ _ _).mono ?_); rintro e w9 ⟨rfl, hb⟩; have hG9 := hid (hG8.out.below hb); have hW9 := hid (hW8.out.next hb); clear hb) | (go_at_call 24; (with_reducible refine (gtake_c hG9.out).mono ?_); rintro e wA ⟨⟨a9, c9, rfl, -⟩, hG, hC⟩; have hGA := hid hG; have hWA := hid (hW9.out.chg hC); clear hG hC))
                go_roundg (ys.length - (i + 1))
                case rel => exact ⟨i + 1, r + d, { ({ g with b := comeB g.b (r + d) } : Gte) with ms := (sortM ({ g with b := comeB g.b (r + d) } : Gte).ms).tail }, _, by omega, rfl, by go_num, rfl, hrd.1, by omega, hgk, by show g.seq ≤ ((i + 1 : Nat) : Int); omega, hGA.out, hWA.out⟩
                case measure => omega
              · have dk : decide (4 < kindT ys[i].2.k) = false := decide_eq_false hk4
                go_wp2_with (first | (go_at_call 22; (with_reducible refine (htk.out).mono ?_); rintro e w7 ⟨rfl, hG, hC⟩; have hG7 := hid hG; have hW7 := hid (hW6.out.chg hC); have hP7 := hid (hP6.out.chg hC (fun hm => Nat.lt_irrefl _ (hnb.out hm))); have hn7 := hid (show ¬ grow M wr w7 pb from fun hm => by rcases hm with hm | hm; exact Nat.lt_irrefl _ (hnb.out hm); have := hP6.out.lt; omega); have p3 := (hP7.out.alloc (.cells #[.int .i64 i] 3)).cell 3; simp only [List.getElem?_cons_zero, List.getElem?_cons_succ] at p3; clear hG hC) | (go_at_call 16; (with_reducible refine (hofl.out _ _ hG7.out).mono ?_); rintro e w8 ⟨a8, c8, rfl, -, hG, hC⟩; simp only [zeroMsg, List.length_nil]; have hb8 := (Below.refl w8.heap.size w8).alloc (Nat.le_refl _) (.cells #[.slice a8 0 c8, .int .i64 0, .int .i64 0, .int .i64 0, .int .i64 0] 37); have hG8 := hid (hG.below hb8); have hW8 := hid ((hW7.out.chg hC).next hb8); have hP8 := hid ((hP7.out.chg hC hn7.out).below hb8); have z0 := hP8.out.cell 0; have z1 := hP8.out.cell 1; have z2 := hP8.out.cell 2; have z3 := hP8.out.cell 3; have z4 := hP8.out.cell 4; have z5 := hP8.out.cell 5; simp only [List.getElem?_cons_zero, List.getElem?_cons_succ] at z0 z1 z2 z3 z4 z5; clear hG hC hb8) | (go_at_call 23; (with_reducible refine (gkind_c _ ys[i].2 _ _ _).mono ?_); rintro e w9 ⟨rfl, hb⟩; have hG9 := hid (hG8.out.below hb); have hW9 := hid (hW8.out.next hb); clear hb))
                go_roundg (ys.length - (i + 1))
                case rel => exact ⟨i + 1, r + d, { g with b := comeB g.b (r + d) }, _, by omega, rfl, by go_num, rfl, hrd.1, by omega, hgk, by show g.seq ≤ ((i + 1 : Nat) : Int); omega, hG9.out, hW9.out⟩
                case measure => omega
            · rw [if_neg ht] at hdo2
              have dt : decide (0 < tk) = true := decide_eq_true (by omega)
              have hofl := hid (fun (w1 : World) (M1 : Nat → Prop) (h : GateM w1 M1 gb { g with b := comeB g.b (r + d) }) => show Calls Try.prog 16 #[.pointer (some ⟨gb, 0, none⟩), .int .i64 0, .int .i64 y, .slice (some ⟨w1.heap.size, 0, none⟩) 1 1, .int .i64 ys[i].2.n, .int .i64 (r + d)] (w1.alloc (.cells #[.int .i64 i] 3)) (OfferPost w1 M1 gb ({ g with ms := g.ms ++ [(⟨[(i : Int)], y, cutT ys[i].2.n, addT ys[i].2.n g.k.life, g.seq + 1⟩ : Msg)], b := useB (comeB g.b (r + d)), seq := g.seq + 1 }, (⟨[(i : Int)], y, cutT ys[i].2.n, addT ys[i].2.n g.k.life, g.seq + 1⟩ : Msg), 0)) from by
                have := offerLit h (i : Int) 0 y ys[i].2.n (r + d) (show g.seq < 1000000 by omega) rfl
                rw [hdo2] at this; exact this)
              clear hdo2 p3
              by_cases hk4 : 4 < kindT ys[i].2.k
              · have dk : decide (4 < kindT ys[i].2.k) = true := decide_eq_true hk4
                go_wp2_with (first | (go_at_call 22; (with_reducible refine (htk.out).mono ?_); rintro e w7 ⟨rfl, hG, hC⟩; have hG7 := hid hG; have hW7 := hid (hW6.out.chg hC); have hP7 := hid (hP6.out.chg hC (fun hm => Nat.lt_irrefl _ (hnb.out hm))); have hn7 := hid (show ¬ grow M wr w7 pb from fun hm => by rcases hm with hm | hm; exact Nat.lt_irrefl _ (hnb.out hm); have := hP6.out.lt; omega); have p3 := (hP7.out.alloc (.cells #[.int .i64 i] 3)).cell 3; simp only [List.getElem?_cons_zero, List.getElem?_cons_succ] at p3; clear hG hC) | (go_at_call 16; (with_reducible refine (hofl.out _ _ hG7.out).mono ?_); rintro e w8 ⟨a8, c8, rfl, -, hG, hC⟩; simp only [List.length_singleton]; have hb8 := (Below.refl w8.heap.size w8).alloc (Nat.le_refl _) (.cells #[.slice a8 1 c8, .int .i64 y, .int .i64 (cutT ys[i].2.n), .int .i64 (addT ys[i].2.n kg.life), .int .i64 (g.seq + 1)] 37); have hG8 := hid (hG.below hb8); have hW8 := hid ((hW7.out.chg hC).next hb8); have hP8 := hid ((hP7.out.chg hC hn7.out).below hb8); have z0 := hP8.out.cell 0; have z1 := hP8.out.cell 1; have z2 := hP8.out.cell 2; have z3 := hP8.out.cell 3; have z4 := hP8.out.cell 4; have z5 := hP8.out.cell 5; simp only [List.getElem?_cons_zero, List.getElem?_cons_succ] at z0 z1 z2 z3 z4 z5; clear hG hC hb8) | (go_at_call 23; (with_reducible refine (gkind_c _ ys[i].2 _ _ _).mono ?_); rintro e w9 ⟨rfl, hb⟩; have hG9 := hid (hG8.out.below hb); have hW9 := hid (hW8.out.next hb); clear hb) | (go_at_call 24; (with_reducible refine (gtake_c hG9.out).mono ?_); rintro e wA ⟨⟨a9, c9, rfl, -⟩, hG, hC⟩; have hGA := hid hG; have hWA := hid (hW9.out.chg hC); clear hG hC))
                go_roundg (ys.length - (i + 1))
                case rel => exact ⟨i + 1, r + d, { ({ g with ms := g.ms ++ [(⟨[(i : Int)], y, cutT ys[i].2.n, addT ys[i].2.n g.k.life, g.seq + 1⟩ : Msg)], b := useB (comeB g.b (r + d)), seq := g.seq + 1 } : Gte) with ms := (sortM ({ g with ms := g.ms ++ [(⟨[(i : Int)], y, cutT ys[i].2.n, addT ys[i].2.n g.k.life, g.seq + 1⟩ : Msg)], b := useB (comeB g.b (r + d)), seq := g.seq + 1 } : Gte).ms).tail }, _, by omega, rfl, by go_num, rfl, hrd.1, by omega, hgk, by show g.seq + 1 ≤ ((i + 1 : Nat) : Int); omega, hGA.out, hWA.out⟩
                case measure => omega
              · have dk : decide (4 < kindT ys[i].2.k) = false := decide_eq_false hk4
                go_wp2_with (first | (go_at_call 22; (with_reducible refine (htk.out).mono ?_); rintro e w7 ⟨rfl, hG, hC⟩; have hG7 := hid hG; have hW7 := hid (hW6.out.chg hC); have hP7 := hid (hP6.out.chg hC (fun hm => Nat.lt_irrefl _ (hnb.out hm))); have hn7 := hid (show ¬ grow M wr w7 pb from fun hm => by rcases hm with hm | hm; exact Nat.lt_irrefl _ (hnb.out hm); have := hP6.out.lt; omega); have p3 := (hP7.out.alloc (.cells #[.int .i64 i] 3)).cell 3; simp only [List.getElem?_cons_zero, List.getElem?_cons_succ] at p3; clear hG hC) | (go_at_call 16; (with_reducible refine (hofl.out _ _ hG7.out).mono ?_); rintro e w8 ⟨a8, c8, rfl, -, hG, hC⟩; simp only [List.length_singleton]; have hb8 := (Below.refl w8.heap.size w8).alloc (Nat.le_refl _) (.cells #[.slice a8 1 c8, .int .i64 y, .int .i64 (cutT ys[i].2.n), .int .i64 (addT ys[i].2.n kg.life), .int .i64 (g.seq + 1)] 37); have hG8 := hid (hG.below hb8); have hW8 := hid ((hW7.out.chg hC).next hb8); have hP8 := hid ((hP7.out.chg hC hn7.out).below hb8); have z0 := hP8.out.cell 0; have z1 := hP8.out.cell 1; have z2 := hP8.out.cell 2; have z3 := hP8.out.cell 3; have z4 := hP8.out.cell 4; have z5 := hP8.out.cell 5; simp only [List.getElem?_cons_zero, List.getElem?_cons_succ] at z0 z1 z2 z3 z4 z5; clear hG hC hb8) | (go_at_call 23; (with_reducible refine (gkind_c _ ys[i].2 _ _ _).mono ?_); rintro e w9 ⟨rfl, hb⟩; have hG9 := hid (hG8.out.below hb); have hW9 := hid (hW8.out.next hb); clear hb))
                go_roundg (ys.length - (i + 1))
                case rel => exact ⟨i + 1, r + d, { g with ms := g.ms ++ [(⟨[(i : Int)], y, cutT ys[i].2.n, addT ys[i].2.n g.k.life, g.seq + 1⟩ : Msg)], b := useB (comeB g.b (r + d)), seq := g.seq + 1 }, _, by omega, rfl, by go_num, rfl, hrd.1, by omega, hgk, by show g.seq + 1 ≤ ((i + 1 : Nat) : Int); omega, hG9.out, hW9.out⟩
                case measure => omega
          · have dn : decide ((cn : Int) < kg.depth) = false := decide_eq_false hfull
            rw [if_pos (by omega)] at hdo
            have hofl := hid (show Calls Try.prog 16 #[.pointer (some ⟨gb, 0, none⟩), .int .i64 0, .int .i64 y, .slice (some ⟨wr.heap.size, 0, none⟩) 1 1, .int .i64 ys[i].2.n, .int .i64 (r + d)] (wr.alloc (.cells #[.int .i64 i] 3)) (OfferPost wr M gb (g, zeroMsg, 2)) from by
              have := offerLit hG6.out (i : Int) 0 y ys[i].2.n (r + d) (by omega) rfl
              rw [hdo] at this; exact this)
            clear hdo
            replace hfew := hid hfew
            have hrd : 0 ≤ r + d ∧ r + d ≤ (i : Int) + 1 := by omega
            by_cases hk4 : 4 < kindT ys[i].2.k
            · have dk : decide (4 < kindT ys[i].2.k) = true := decide_eq_true hk4
              go_wp2_with (first | (go_at_call 16; (with_reducible refine (hofl.out).mono ?_); rintro e w7 ⟨a7, c7, rfl, -, hG, hC⟩; simp only [zeroMsg, List.length_nil]; have hb7 := (Below.refl w7.heap.size w7).alloc (Nat.le_refl _) (.cells #[.slice a7 0 c7, .int .i64 0, .int .i64 0, .int .i64 0, .int .i64 0] 37); have hG7 := hid (hG.below hb7); have hW7 := hid ((hW6.out.chg hC).next hb7); have hP7 := hid ((hP6.out.chg hC (fun hm => Nat.lt_irrefl _ (hnb.out hm))).below hb7); have z0 := hP7.out.cell 0; have z1 := hP7.out.cell 1; have z2 := hP7.out.cell 2; have z3 := hP7.out.cell 3; have z4 := hP7.out.cell 4; have z5 := hP7.out.cell 5; simp only [List.getElem?_cons_zero, List.getElem?_cons_succ] at z0 z1 z2 z3 z4 z5; clear hG hC hb7) | (go_at_call 23; (with_reducible refine (gkind_c _ ys[i].2 _ _ _).mono ?_); rintro e w8 ⟨rfl, hb⟩; have hG8 := hid (hG7.out.below hb); have hW8 := hid (hW7.out.next hb); clear hb) | (go_at_call 24; (with_reducible refine (gtake_c hG8.out).mono ?_); rintro e w9 ⟨⟨a9, c9, rfl, -⟩, hG, hC⟩; have hG9 := hid hG; have hW9 := hid (hW8.out.chg hC); clear hG hC))
              go_roundg (ys.length - (i + 1))
              case rel => exact ⟨i + 1, r + d, { g with ms := (sortM g.ms).tail }, _, by omega, rfl, by go_num, rfl, hrd.1, by omega, hgk, by show g.seq ≤ ((i + 1 : Nat) : Int); omega, hG9.out, hW9.out⟩
              case measure => omega
            · have dk : decide (4 < kindT ys[i].2.k) = false := decide_eq_false hk4
              go_wp2_with (first | (go_at_call 16; (with_reducible refine (hofl.out).mono ?_); rintro e w7 ⟨a7, c7, rfl, -, hG, hC⟩; simp only [zeroMsg, List.length_nil]; have hb7 := (Below.refl w7.heap.size w7).alloc (Nat.le_refl _) (.cells #[.slice a7 0 c7, .int .i64 0, .int .i64 0, .int .i64 0, .int .i64 0] 37); have hG7 := hid (hG.below hb7); have hW7 := hid ((hW6.out.chg hC).next hb7); have hP7 := hid ((hP6.out.chg hC (fun hm => Nat.lt_irrefl _ (hnb.out hm))).below hb7); have z0 := hP7.out.cell 0; have z1 := hP7.out.cell 1; have z2 := hP7.out.cell 2; have z3 := hP7.out.cell 3; have z4 := hP7.out.cell 4; have z5 := hP7.out.cell 5; simp only [List.getElem?_cons_zero, List.getElem?_cons_succ] at z0 z1 z2 z3 z4 z5; clear hG hC hb7) | (go_at_call 23; (with_reducible refine (gkind_c _ ys[i].2 _ _ _).mono ?_); rintro e w8 ⟨rfl, hb⟩; have hG8 := hid (hG7.out.below hb); have hW8 := hid (hW7.out.next hb); clear hb))
              go_roundg (ys.length - (i + 1))
              case rel => exact ⟨i + 1, r + d, g, _, by omega, rfl, by go_num, rfl, hrd.1, by omega, hgk, by show g.seq ≤ ((i + 1 : Nat) : Int); omega, hG8.out, hW8.out⟩
              case measure => omega
    · have d1 : decide ((i : Int) < ys.length) = false := decide_eq_false (by omega)
      clear hG hW
      go_wp2
      go_ret
      exact hend.out
end Go.Proofs.Ytealopempjempaa.Gt
