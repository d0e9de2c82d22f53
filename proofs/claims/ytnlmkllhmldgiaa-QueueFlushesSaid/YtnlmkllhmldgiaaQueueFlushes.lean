/- DERIVED. The walk over the statement QueueFlushes (under way): behind a Flush. -/
import Derived.Test.YtnlmkllhmldgiaaQueueFlushesP
import Derived.Test.YtnlmkllhmldgiaaQueueI
import Derived.Test.YtnlmkllhmldgiaaRegR
import Derived.Test.YtnlmkllhmldgiaaRefMsg
import Derived.Test.YtnlmkllhmldgiaaRef01
namespace Go.Proofs.Ytnlmkllhmldgiaa.Qu
set_option linter.unusedVariables false
set_option linter.unusedSimpArgs false
open Go.RowKit Go.Maps Go.Proofs.Ytnlmkllhmldgiaa.K Go.Proofs.Ytnlmkllhmldgiaa.Lb Go.Proofs.Ytnlmkllhmldgiaa.Wh
theorem TwoP.new {w w1 w2 w3 : World} {pa pb : Nat} {p q : Prt} {Ma Mb : Nat → Prop} (h1 : Below w.heap.size w w1) (ha : PortF w2 Ma (fun _ => False) pa p) (hMa : ∀ b, Ma b → w1.heap.size ≤ b) (hb1 : Below w1.heap.size w1 w2) (hb : PortF w3 Mb (fun _ => False) pb q) (hMb : ∀ b, Mb b → w2.heap.size ≤ b) (hb2 : Below w2.heap.size w2 w3) :
    TwoP w.heap.size w w3 pa pb p q Ma (fun _ => False) Mb (fun _ => False) := by
  have hB2 := Below.next h1 hb1 h1.size
  have hB3 := Below.next hB2 hb2 hB2.size
  refine ⟨ha.below hb2, hb, ⟨hB3, fun b h => Nat.le_trans h1.size (hMa b h), fun b h => Nat.lt_of_lt_of_le (ha.lt b (.inl h)) hb2.size, hB3.size⟩, ⟨hB3, fun b h => Nat.le_trans hB2.size (hMb b h), fun b h => hb.lt b (.inl h), hB3.size⟩, fun x hx hy => ?_, fun _ _ h => h, fun _ _ h => h⟩
  have := ha.lt x (.inl hx)
  have := hMb x hy
  omega
set_option maxHeartbeats 4000000 in
set_option maxRecDepth 100000 in
theorem flushes_c {w : World} {v1 v2 : Value} (hold : Int) {qs rs : List (Value × St)} (hs : StepsAt w v1 qs) (hqi : ∀ q ∈ qs, isInt q.2.p) (hr : StepsAt w v2 rs) (hri : ∀ q ∈ rs, isInt q.2.p) : Calls Try.prog 5 #[.int .i64 hold, v1, v2] w (LivesPost w) := by
  have hs0 := hid hs
  have hr0 := hid hr
  obtain ⟨a1, c1, rfl⟩ := hs.shape
  obtain ⟨a2, c2, rfl⟩ := hr.shape
  clear hs hr
  replace hqi := hid hqi
  replace hri := hid hri
  go_enter Try.func5, Try.ntmps5
  go_upto_region 5 with (first | (go_at_call 8; (with_reducible refine (lives_c _).mono ?_); rintro e w1 ⟨rfl, hb1⟩; have hb1 := hid hb1) | (go_at_call 9; (with_reducible refine (new_x w1 hold).mono ?_); rintro e w2 ⟨pa, Ma, rfl, hPa, hMa, hb2⟩; have hPa := hid hPa; have hMa := hid hMa; have hb2 := hid hb2) | (go_at_call 9; (with_reducible refine (new_x w2 hold).mono ?_); rintro e w3 ⟨pb, Mb, rfl, hPb, hMb, hb3⟩; have hT3 := hid (TwoP.new hb1.out hPa.out hMa.out hb2.out hPb hMb hb3); clear hPb hMb hb3) | (go_at_call 14; (with_reducible refine (early_c _ hs0.out).mono ?_); rintro e w' ⟨v', rfl, hv', rfl⟩; have hl80 := hid (show (qs.take 80).length ≤ 80 by simp; omega); have hyi := hid (show ∀ q ∈ qs.take 80, isInt q.2.p from fun q hq => hqi.out q (List.mem_of_mem_take hq)); generalize qs.take 80 = ys at hv' hl80 hyi; obtain ⟨a3, c3, rfl⟩ := hv'.shape; have hys := hid hv'; clear hv') | (go_at_call 14; (with_reducible refine (early_c _ hr0.out).mono ?_); rintro e w' ⟨v', rfl, hv', rfl⟩; have hm80 := hid (show (rs.take 80).length ≤ 80 by simp; omega); have hzi := hid (show ∀ q ∈ rs.take 80, isInt q.2.p from fun q hq => hri.out q (List.mem_of_mem_take hq)); generalize rs.take 80 = zs at hv' hm80 hzi; obtain ⟨a4, c4, rfl⟩ := hv'.shape; have hzs := hid hv'; clear hv'))
  clear hs0 hr0 hb1 hqi hri hPa hMa hb2
  go_wp2_with fail
  go_loopg [9] ys.length (fun gg si wr => ∃ (i : Nat) (p : Prt) (M W : Nat → Prop), i ≤ ys.length ∧ gg = ys.length - i ∧ si = .int .i64 i ∧ TwoP w.heap.size w wr pa pb p (newP hold) M W Mb (fun _ => False) ∧ p.hold = holdT hold ∧ p.s ≤ i ∧ (p.row.length : Int) ≤ i)
  case atStart => exact ⟨0, _, _, _, by omega, by omega, rfl, hT3.out, rfl, Int.le_refl _, Int.le_refl _⟩
  case round =>
    clear hT3
    obtain ⟨i, p, M, W, hi, hgg, rfl, hT, hph, hps, hpr⟩ := hrel
    by_cases hlt : i < ys.length
    · have hi80 : i < 80 := Nat.lt_of_lt_of_le hlt hl80.out
      have dlt : decide ((i : Int) < ys.length) = true := decide_eq_true (by omega)
      obtain ⟨-, hcl, hcm, hget⟩ := (hys.out.below hT.wa.below).cells
      obtain ⟨g, o, rfl, hg, ⟨asv, nsv, csv, hsv⟩, hwi, d0, d1, d2, d3, d4, d5, d6, d7, d8⟩ := hget i hlt
      obtain ⟨asw, csw, hsw⟩ := hwi.shape
      rw [hsw] at hwi d4
      have hxi := hid (hyi.out _ (List.getElem_mem hlt))
      clear hget hsv hsw
      generalize ys[i].2 = q at d0 d1 d2 d3 d4 d5 d6 d7 d8 hwi hxi
      have h8l := hid (show (cut8 q.m).words.length ≤ 17592186044416 by unfold cut8; simp; omega)
      have hw1 := hid hwi
      clear hwi
      have hT := hid hT
      have hph := hid hph
      have hps := hid hps
      have hpr := hid hpr
      go_upto_if 47 with (first | (go_at_call 15; (with_reducible refine (kind_c _ q _ _ _).mono ?_); rintro e w6 ⟨rfl, hb⟩; have hT6 := hid (hT.out.below hb); have hw6 := hid (hw1.out.below hb); have e0 := (hb.cell (p := ⟨g, o + i * 9, none⟩) hg).trans d0; have e1 := (hb.cell (p := ⟨g, o + i * 9 + 1, none⟩) hg).trans d1; have e2 := (hb.cell (p := ⟨g, o + i * 9 + 2, none⟩) hg).trans d2; have e3 := (hb.cell (p := ⟨g, o + i * 9 + 3, none⟩) hg).trans d3; have e4 := (hb.cell (p := ⟨g, o + i * 9 + 4, none⟩) hg).trans d4; have e5 := (hb.cell (p := ⟨g, o + i * 9 + 5, none⟩) hg).trans d5; have e6 := (hb.cell (p := ⟨g, o + i * 9 + 6, none⟩) hg).trans d6; have e7 := (hb.cell (p := ⟨g, o + i * 9 + 7, none⟩) hg).trans d7; have e8 := (hb.cell (p := ⟨g, o + i * 9 + 8, none⟩) hg).trans d8; have hg6 := Nat.lt_of_lt_of_le hg hb.size; clear hb))
      clear d0 d1 d2 d3 d4 d5 d6 d7 d8 hg hT hw1
      generalize kindT q.k = K
      by_cases hK : K < 3
      · go_wp2_with (first | (go_at_call 16; (with_reducible refine (message_c q hw6.out).mono ?_); rintro e w7 ⟨rfl, hb⟩; have hT7 := hid (hT6.out.below hb); have hpt : Calls Try.prog 12 #[.pointer (some ⟨pa, 0, none⟩), .agg #[.slice asw (cut8 q.m).words.length csw, .int .i64 q.m.lane, .int .i64 q.m.stamp, .int .i64 q.m.late, .int .i64 q.m.seq]] w7 _ := put_x (m := cut8 q.m) hT7.out.a ((IntsAt.cut (hw6.out.mono (fun b _ h => h)) 8).below hb) h8l.out; have hpt := hid hpt; clear hb) | (go_at_call 12; (with_reducible refine (hpt.out).mono ?_); rintro e w8 ⟨rfl, hst⟩; have hst := hid hst))
        go_roundg (ys.length - (i + 1))
        case rel =>
          obtain ⟨M', W', hT', -, -⟩ := hT7.out.stepA hst.out
          have h1 := putP_of p (cut8 q.m)
          exact ⟨i + 1, _, M', W', by omega, rfl, by go_num, hT', by rw [h1.1]; exact hph.out, by have := hps.out; push_cast; omega, by have := hpr.out; push_cast; omega⟩
        case measure => omega
      · replace hK : 3 ≤ K := by omega
        go_upto_region 10 with fail
        have hix : (i : Int) < (ys.length : Int) := by omega
        -- REG empennage/empennagelaw18.QueueFlushes|10|QFlushes.10
        refine region_tab 16 [Sp.eq (.pointer (some ⟨pa, 0, none⟩)), Sp.eq (.slice (some ⟨g, o, none⟩) ys.length c3), Sp.eq (.int .i64 i), Sp.eq (.pointer (some ⟨g, o + i * 9, none⟩)), Sp.eq (.pointer (some ⟨g, o + i * 9 + 1, none⟩)), Sp.eq (.int .i64 q.p), Sp.eq (.slice (some ⟨g, o, none⟩) ys.length c3), Sp.eq (.int .i64 i), Sp.eq (.pointer (some ⟨g, o + i * 9, none⟩)), Sp.eq (.pointer (some ⟨g, o + i * 9 + 2, none⟩)), Sp.eq (.int .i64 q.u), Sp.eq (.slice (some ⟨g, o, none⟩) ys.length c3), Sp.eq (.int .i64 i), Sp.eq (.pointer (some ⟨g, o + i * 9, none⟩)), Sp.eq (.pointer (some ⟨g, o + i * 9 + 3, none⟩)), Sp.eq (.int .i64 q.n)] (fun _ _ _ _ _ h => h) (by kernel_rfl) (by kernel_rfl) ⟨?_, ?_, ?_, ?_, ?_, ?_, ?_, ?_, ?_, ?_, ?_, ?_, ?_, ?_, ?_, ?_, trivial⟩ ?_
        · intro ac gs u hb hg h
          have e7 : ac.tmps[7]?.getD undef = .pointer (some ⟨pa, 0, none⟩) := h.inm 7 rfl rfl
          refine opFree rfl ?_
          exact relMoveT _ rfl e7 (okP hg rfl)
        · intro ac gs u hb hg h
          have e1 : ac.tmps[1]?.getD undef = .slice (some ⟨g, o, none⟩) ys.length c3 := h.inm 1 rfl rfl
          refine opFree rfl ?_
          exact relMoveT _ rfl e1 (okP hg rfl)
        · intro ac gs u hb hg h
          have e9 : ac.tmps[9]?.getD undef = .int .i64 i := h.inm 9 rfl rfl
          refine opFree rfl ?_
          exact relMoveT _ rfl e9 (okP hg rfl)
        · intro ac gs u hb hg h
          have e56 : ac.tmps[56]?.getD undef = .slice (some ⟨g, o, none⟩) ys.length c3 := h.tm 1 56 rfl rfl
          have e57 : ac.tmps[57]?.getD undef = .int .i64 i := h.tm 2 57 rfl rfl
          refine opFree rfl ?_
          exact relRun (v := .pointer (some ⟨g, o + i * 9, none⟩)) (w' := u) (by simp [go_sem, e56, e57, hix]) (okP hg rfl)
        · intro ac gs u hb hg h
          have e58 : ac.tmps[58]?.getD undef = .pointer (some ⟨g, o + i * 9, none⟩) := h.tm 3 58 rfl rfl
          refine opFree rfl ?_
          exact relRun (v := .pointer (some ⟨g, o + i * 9 + 1, none⟩)) (w' := u) (by simp [go_sem, e58]) (okP hg rfl)
        · intro ac gs u hb hg h
          have e59 : ac.tmps[59]?.getD undef = .pointer (some ⟨g, o + i * 9 + 1, none⟩) := h.tm 4 59 rfl rfl
          refine opFree rfl ?_
          exact relRun (v := .int .i64 q.p) (w' := u) (by simp [go_sem, e59, ((hb.cell (p := ⟨g, o + i * 9 + 1, none⟩) hg6).trans e1)]) (okP hg rfl)
        · intro ac gs u hb hg h
          have e1 : ac.tmps[1]?.getD undef = .slice (some ⟨g, o, none⟩) ys.length c3 := h.inm 1 rfl rfl
          refine opFree rfl ?_
          exact relMoveT _ rfl e1 (okP hg rfl)
        · intro ac gs u hb hg h
          have e9 : ac.tmps[9]?.getD undef = .int .i64 i := h.inm 9 rfl rfl
          refine opFree rfl ?_
          exact relMoveT _ rfl e9 (okP hg rfl)
        · intro ac gs u hb hg h
          have e61 : ac.tmps[61]?.getD undef = .slice (some ⟨g, o, none⟩) ys.length c3 := h.tm 6 61 rfl rfl
          have e62 : ac.tmps[62]?.getD undef = .int .i64 i := h.tm 7 62 rfl rfl
          refine opFree rfl ?_
          exact relRun (v := .pointer (some ⟨g, o + i * 9, none⟩)) (w' := u) (by simp [go_sem, e61, e62, hix]) (okP hg rfl)
        · intro ac gs u hb hg h
          have e63 : ac.tmps[63]?.getD undef = .pointer (some ⟨g, o + i * 9, none⟩) := h.tm 8 63 rfl rfl
          refine opFree rfl ?_
          exact relRun (v := .pointer (some ⟨g, o + i * 9 + 2, none⟩)) (w' := u) (by simp [go_sem, e63]) (okP hg rfl)
        · intro ac gs u hb hg h
          have e64 : ac.tmps[64]?.getD undef = .pointer (some ⟨g, o + i * 9 + 2, none⟩) := h.tm 9 64 rfl rfl
          refine opFree rfl ?_
          exact relRun (v := .int .i64 q.u) (w' := u) (by simp [go_sem, e64, ((hb.cell (p := ⟨g, o + i * 9 + 2, none⟩) hg6).trans e2)]) (okP hg rfl)
        · intro ac gs u hb hg h
          have e1 : ac.tmps[1]?.getD undef = .slice (some ⟨g, o, none⟩) ys.length c3 := h.inm 1 rfl rfl
          refine opFree rfl ?_
          exact relMoveT _ rfl e1 (okP hg rfl)
        · intro ac gs u hb hg h
          have e9 : ac.tmps[9]?.getD undef = .int .i64 i := h.inm 9 rfl rfl
          refine opFree rfl ?_
          exact relMoveT _ rfl e9 (okP hg rfl)
        · intro ac gs u hb hg h
          have e66 : ac.tmps[66]?.getD undef = .slice (some ⟨g, o, none⟩) ys.length c3 := h.tm 11 66 rfl rfl
          have e67 : ac.tmps[67]?.getD undef = .int .i64 i := h.tm 12 67 rfl rfl
          refine opFree rfl ?_
          exact relRun (v := .pointer (some ⟨g, o + i * 9, none⟩)) (w' := u) (by simp [go_sem, e66, e67, hix]) (okP hg rfl)
        · intro ac gs u hb hg h
          have e68 : ac.tmps[68]?.getD undef = .pointer (some ⟨g, o + i * 9, none⟩) := h.tm 13 68 rfl rfl
          refine opFree rfl ?_
          exact relRun (v := .pointer (some ⟨g, o + i * 9 + 3, none⟩)) (w' := u) (by simp [go_sem, e68]) (okP hg rfl)
        · intro ac gs u hb hg h
          have e69 : ac.tmps[69]?.getD undef = .pointer (some ⟨g, o + i * 9 + 3, none⟩) := h.tm 14 69 rfl rfl
          refine opFree rfl ?_
          exact relRun (v := .int .i64 q.n) (w' := u) (by simp [go_sem, e69, ((hb.cell (p := ⟨g, o + i * 9 + 3, none⟩) hg6).trans e3)]) (okP hg rfl)
        intro vs gs u hb hg hr
        have r0 : vs 0 = .pointer (some ⟨pa, 0, none⟩) := hr 0 (by decide)
        have r1 : vs 1 = .slice (some ⟨g, o, none⟩) ys.length c3 := hr 1 (by decide)
        have r2 : vs 2 = .int .i64 i := hr 2 (by decide)
        have r3 : vs 3 = .pointer (some ⟨g, o + i * 9, none⟩) := hr 3 (by decide)
        have r4 : vs 4 = .pointer (some ⟨g, o + i * 9 + 1, none⟩) := hr 4 (by decide)
        have r5 : vs 5 = .int .i64 q.p := hr 5 (by decide)
        have r6 : vs 6 = .slice (some ⟨g, o, none⟩) ys.length c3 := hr 6 (by decide)
        have r7 : vs 7 = .int .i64 i := hr 7 (by decide)
        have r8 : vs 8 = .pointer (some ⟨g, o + i * 9, none⟩) := hr 8 (by decide)
        have r9 : vs 9 = .pointer (some ⟨g, o + i * 9 + 2, none⟩) := hr 9 (by decide)
        have r10 : vs 10 = .int .i64 q.u := hr 10 (by decide)
        have r11 : vs 11 = .slice (some ⟨g, o, none⟩) ys.length c3 := hr 11 (by decide)
        have r12 : vs 12 = .int .i64 i := hr 12 (by decide)
        have r13 : vs 13 = .pointer (some ⟨g, o + i * 9, none⟩) := hr 13 (by decide)
        have r14 : vs 14 = .pointer (some ⟨g, o + i * 9 + 3, none⟩) := hr 14 (by decide)
        have r15 : vs 15 = .int .i64 q.n := hr 15 (by decide)
        simp only [List.take_succ_cons, List.take_zero, List.drop_succ_cons, List.drop_zero, putOps, r0, r1, r2, r3, r4, r5, r6, r7, r8, r9, r10, r11, r12, r13, r14, r15]
        simp only [Act.put, List.setIfInBounds_toArray, List.set_cons_succ, List.set_cons_zero]
        clear hr r0 r1 r2 r3 r4 r5 r6 r7 r8 r9 r10 r11 r12 r13 r14 r15
        -- GER
        have hT7 := hid (hT6.out.below hb)
        have hak := hid (ask_x hT7.out.a hxi.out q.u q.n (by have := hps.out; omega) (by have := hpr.out; omega))
        unfold AskX at hak
        clear hb hg
        go_wp2_with (first | (go_at_call 10; (with_reducible refine (hak.out).mono ?_); rintro e w8 ⟨a8, c8, rfl, -, hst⟩; have hst := hid hst))
        go_roundg (ys.length - (i + 1))
        case rel =>
          obtain ⟨M', W', hT', -, -⟩ := hT7.out.stepA hst.out
          have h1 := askP_of p q.p q.u q.n
          exact ⟨i + 1, _, M', W', by omega, rfl, by go_num, hT', by rw [h1.1]; exact hph.out, by have := hps.out; push_cast; omega, by have := hpr.out; push_cast; omega⟩
        case measure => omega
    · have dlt : decide ((i : Int) < ys.length) = false := decide_eq_false (by omega)
      obtain ⟨wA, rfl⟩ : ∃ x, x = wr := ⟨_, rfl⟩
      have hi80 : i ≤ 80 := Nat.le_trans hi hl80.out
      have hone := hid hT.a.inv.one
      have hsz := hid hT.wa.le
      have hMl := hid (fun b h => hT.a.lt b (.inl h) : ∀ b, M b → b < wA.heap.size)
      have hT := hid hT
      have hph := hid hph
      have hps := hid hps
      have hrl : p.row.length ≤ 17592186044416 := by omega
      replace hpr := hid hpr
      go_upto_region 13 with (first | (go_at_call 20; (with_reducible refine (all_x hT.out.a).mono ?_); rintro e w5 ⟨v5, q5, rfl, hq5, hm5, hb⟩; obtain ⟨a5, c5, rfl⟩ := hm5.shape; have hl5 : q5.length = p.ms.length := (by rw [← hq5, List.length_map]); rw [hl5] at hm5; rw [hl5]; replace hl5 := hid hl5; have hq5 := hid hq5; have hm5 := hid hm5; have hT5 := hid (hT.out.below hb); have hs5 := hid hb.size; clear hb) | (go_at_call 11; (with_reducible refine (waiting_x hT5.out.a hrl).mono ?_); rintro e w6 ⟨v6, rfl, hi6, hb⟩; obtain ⟨a6, c6, rfl⟩ := hi6.shape; have hi6 := hid hi6; have hm6 := hid (hm5.out.below hb); have hT6 := hid (hT5.out.below hb); have hs6 := hid hb.size; clear hb) | (go_at_call 21; (with_reducible refine (flush_x hT6.out.a hrl).mono ?_); rintro e w7 ⟨a7, c7, b7, d7, q7, rfl, hq7, hm7, hi7, hP7, hC⟩; have hT7 := hid (hT6.out.sameA hP7 hC); have hq7 := hid hq7; have hm7 := hid hm7; have hi7 := hid hi7; have hm67 := hid (hm6.out.kept hC.size (fun b hb _ => hC.block b (by assumption) (fun hm => by have := hMl.out b hm; omega))); have hi67 := hid (hi6.out.chg hC (fun b hb _ hm => by have := hMl.out b hm; have := hs5.out; omega)); clear hP7 hC))
      go_cut [100] from 81 to 100 (fun v wx => v = .bool false ∧ Below w7.heap.size w7 wx)
      case first =>
        obtain ⟨hold', ms, row, es, s⟩ := p
        have hone := hone.out
        have hsm := hid (R2.same_eq hm7.out hm67.out (by rw [hq7.out, hq5.out]))
        have hi7 := hid hi7.out
        have hi67 := hid hi67.out
        simp only at hone hsm hi7 hi67 ⊢
        rcases ms with _ | ⟨m, r⟩
        · clear hone
          simp only [List.length_nil] at hsm
          go_wp2_with (first | (go_at_call 22; (with_reducible refine (hsm.out).mono ?_); rintro e w8 ⟨rfl, hb8⟩; have hb8 := hid hb8) | (go_at_call 23; (with_reducible refine (R1.same_c (hi7.out.below hb8.out) (hi67.out.below hb8.out)).mono ?_); rw [decide_eq_true rfl]; rintro e w9 ⟨rfl, kk, rfl⟩))
          go_meet
          exact ⟨rfl, hb8.out.trans (drewN_below _ _ _)⟩
        · obtain rfl : row = [] := by rcases hone with h | h; cases h; exact h
          clear hone
          simp only [List.length_nil, List.length_cons] at hsm hi7 hi67
          go_wp2_with (first | (go_at_call 22; (with_reducible refine (hsm.out).mono ?_); rintro e w8 ⟨rfl, hb8⟩; have hb8 := hid hb8) | (go_at_call 23; (with_reducible refine (R1.same_c (hi7.out.below hb8.out) (hi67.out.below hb8.out)).mono ?_); rw [decide_eq_true rfl]; rintro e w9 ⟨rfl, kk, rfl⟩))
          go_meet
          exact ⟨rfl, hb8.out.trans (drewN_below _ _ _)⟩
      case rest =>
        obtain ⟨rfl, hbx⟩ := hcut
        have hT8 := hid (hT7.out.below hbx)
        have hSim : Sim (flushP p) (newP hold) := ⟨hph.out, rfl, rfl, rfl⟩
        have hs8 := hid (show (flushP p).s ≤ 80 by have := hps.out; show p.s ≤ 80; omega)
        generalize flushP p = p0 at hT8 hSim hs8
        have hr0 := hid (show p0.row.length ≤ 0 by rw [hSim.row]; exact Nat.le_refl _)
        replace hSim := hid hSim
        clear hT hT5 hT6 hT7 hbx hm5 hm6 hm7 hm67 hi6 hi7 hi67 hq5 hq7 hl5 hph hps hpr hMl hone hrl hs5 hs6 hsz
        go_wp2_with fail
        go_loopg [14, 15, 16, 17, 18, 19, 20, 21, 22, 23, 24, 25] zs.length (fun gg si u15 u16 u17 u18 u19 u20 u21 u22 u23 u24 u25 wr => ∃ (j : Nat) (p q : Prt) (M W M2 W2 : Nat → Prop), j ≤ zs.length ∧ gg = zs.length - j ∧ si = .int .i64 j ∧ TwoP w.heap.size w wr pa pb p q M W M2 W2 ∧ Sim p q ∧ p.s ≤ 80 + j ∧ q.s ≤ j ∧ (p.row.length : Int) ≤ j)
        case atStart => exact ⟨0, _, _, _, _, _, _, by omega, by omega, rfl, hT8.out, hSim.out, by have := hs8.out; omega, Int.le_refl _, by have := hr0.out; omega⟩
        case round =>
          clear hT8 hSim hs8 hr0
          obtain ⟨j, p, q, M, W, M2, W2, hj, hgj, rfl, hT, hS, hps, hqs, hpr⟩ := hrel
          by_cases hjl : j < zs.length
          · have dj1 : decide ((j : Int) < zs.length) = true := decide_eq_true (by omega)
            have hj80 : j < 80 := Nat.lt_of_lt_of_le hjl hm80.out
            obtain ⟨-, hcl, hcm, hget⟩ := (hzs.out.below hT.wa.below).cells
            obtain ⟨g, o, rfl, hg, ⟨asv, nsv, csv, hsv⟩, hwi, d0, d1, d2, d3, d4, d5, d6, d7, d8⟩ := hget j hjl
            obtain ⟨-, -, -, hget0⟩ := hzs.out.cells
            obtain ⟨_, _, -, -, -, hwi0, -⟩ := hget0 j hjl
            obtain ⟨asw, csw, hsw⟩ := hwi.shape
            rw [hsw] at hwi hwi0 d4
            clear hget0
            have hxi := hid (hzi.out _ (List.getElem_mem hjl))
            clear hget hsv hsw
            generalize zs[j].2 = r at d0 d1 d2 d3 d4 d5 d6 d7 d8 hwi hwi0 hxi
            have hwB := hid (hwi0.mono (ok' := fun b => b < w.heap.size) (fun b _ h => h))
            clear hwi0
            have h8l := hid (show (cut8 r.m).words.length ≤ 17592186044416 by unfold cut8; simp; omega)
            have hwc := IntsAt.cut (hwi.mono (fun b _ h => h)) 8
            have hbb := (Below.refl wr.heap.size wr).alloc (Nat.le_refl _) (.cells #[.int .i64 r.k, .int .i64 r.p, .int .i64 r.u, .int .i64 r.n, .slice asw r.m.words.length csw, .int .i64 r.m.lane, .int .i64 r.m.stamp, .int .i64 r.m.late, .int .i64 r.m.seq] 41)
            have hP := hid (pts.newA wr #[.int .i64 r.k, .int .i64 r.p, .int .i64 r.u, .int .i64 r.n, .slice asw r.m.words.length csw, .int .i64 r.m.lane, .int .i64 r.m.stamp, .int .i64 r.m.late, .int .i64 r.m.seq] 41)
            have hnb := hid (show ¬ M wr.heap.size ∧ ¬ M2 wr.heap.size from ⟨fun hm => Nat.lt_irrefl _ (hT.a.lt _ (.inl hm)), fun hm => Nat.lt_irrefl _ (hT.b.lt _ (.inl hm))⟩)
            have hT1 := hid (hT.below hbb)
            have hw1 := hid (hwi.below hbb)
            have hw8 := hid (hwc.below hbb)
            have hS := hid hS
            have hps := hid hps
            have hqs := hid hqs
            have hpr := hid hpr
            clear hT hwi hwc hbb
            go_upto_region 19 with fail
            generalize wr.alloc (.cells #[.int .i64 r.k, .int .i64 r.p, .int .i64 r.u, .int .i64 r.n, .slice asw r.m.words.length csw, .int .i64 r.m.lane, .int .i64 r.m.stamp, .int .i64 r.m.late, .int .i64 r.m.seq] 41) = w5 at hP hT1 hw1 hw8 ⊢
            generalize wr.heap.size = sb at hP hnb ⊢
            clear d0 d1 d2 d3 d4 d5 d6 d7 d8
            have y0 := hP.out.cell 0
            have y1 := hP.out.cell 1
            have y2 := hP.out.cell 2
            have y3 := hP.out.cell 3
            have y4 := hP.out.cell 4
            have y5 := hP.out.cell 5
            have y6 := hP.out.cell 6
            have y7 := hP.out.cell 7
            have y8 := hP.out.cell 8
            have yl := hP.out.lt
            simp only [List.getElem?_cons_zero, List.getElem?_cons_succ] at y0 y1 y2 y3 y4 y5 y6 y7 y8
            go_upto_if 113 with (first | (go_at_call 15; (with_reducible refine (kind_c _ r _ _ _).mono ?_); rintro e w6 ⟨rfl, hb⟩; have hT6 := hid (hT1.out.below hb); have hP6 := hid (hP.out.below hb); have hw6 := hid (hw1.out.below hb); have hw86 := hid (hw8.out.below hb); clear hb))
            clear y0 y1 y2 y3 y4 y5 y6 y7 y8 yl hT1 hw1 hP hw8
            generalize kindT r.k = K
            have y0 := hP6.out.cell 0
            have y1 := hP6.out.cell 1
            have y2 := hP6.out.cell 2
            have y3 := hP6.out.cell 3
            have y4 := hP6.out.cell 4
            have y5 := hP6.out.cell 5
            have y6 := hP6.out.cell 6
            have y7 := hP6.out.cell 7
            have y8 := hP6.out.cell 8
            have yl := hP6.out.lt
            simp only [List.getElem?_cons_zero, List.getElem?_cons_succ] at y0 y1 y2 y3 y4 y5 y6 y7 y8
            by_cases hK : K < 3
            · have hpu := hid (hS.out.put (cut8 r.m))
              have hq1 := hid (putP_of p (cut8 r.m))
              have hq2 := hid (putP_of q (cut8 r.m))
              go_upto_region 21 with (first | (go_at_call 16; (with_reducible refine (message_c r hw6.out).mono ?_); rintro e w7 ⟨rfl, hb⟩; have hT7 := hid (hT6.out.below hb); have hP7 := hid (hP6.out.below hb); have hpt : Calls Try.prog 12 #[.pointer (some ⟨pa, 0, none⟩), .agg #[.slice asw (cut8 r.m).words.length csw, .int .i64 r.m.lane, .int .i64 r.m.stamp, .int .i64 r.m.late, .int .i64 r.m.seq]] w7 _ := put_x (m := cut8 r.m) hT7.out.a (hw86.out.below hb) h8l.out; have hpt := hid hpt; clear hb) | (go_at_call 12; (with_reducible refine (hpt.out).mono ?_); rintro e w8 ⟨rfl, hst⟩; obtain ⟨M8, W8, hT8, hc8, -⟩ := hT7.out.stepA hst; have hP8 := hid (hP7.out.chg hc8 hnb.out.1); have hT8 := hid hT8; clear hst hc8))
              clear y0 y1 y2 y3 y4 y5 y6 y7 y8 yl
              have y0 := hP8.out.cell 0
              have y1 := hP8.out.cell 1
              have y2 := hP8.out.cell 2
              have y3 := hP8.out.cell 3
              have y4 := hP8.out.cell 4
              have y5 := hP8.out.cell 5
              have y6 := hP8.out.cell 6
              have y7 := hP8.out.cell 7
              have y8 := hP8.out.cell 8
              have yl := hP8.out.lt
              simp only [List.getElem?_cons_zero, List.getElem?_cons_succ] at y0 y1 y2 y3 y4 y5 y6 y7 y8
              have hwB8 := hid (hwB.out.kept hT8.out.wa.below.size (fun b h _ => hT8.out.wa.below.block b h))
              go_upto_region 22 with (first | (go_at_call 16; (with_reducible refine (message_c r hwB8.out).mono ?_); rintro e w9 ⟨rfl, hb⟩; have hT9 := hid (hT8.out.below hb); have hpt2 : Calls Try.prog 12 #[.pointer (some ⟨pb, 0, none⟩), .agg #[.slice asw (cut8 r.m).words.length csw, .int .i64 r.m.lane, .int .i64 r.m.stamp, .int .i64 r.m.late, .int .i64 r.m.seq]] w9 _ := put_x (m := cut8 r.m) hT9.out.b ((IntsAt.cut hwB8.out 8).below hb) h8l.out; unfold PutX at hpt2; rw [← hpu.out.1] at hpt2; have hpt2 := hid hpt2; clear hb) | (go_at_call 12; (with_reducible refine (hpt2.out).mono ?_); rintro e w10 ⟨rfl, hst⟩; obtain ⟨M10, W10, hT10, -, -⟩ := hT9.out.swap.stepA hst; have hT10 := hid hT10.swap; clear hst))
              clear y0 y1 y2 y3 y4 y5 y6 y7 y8 yl hpt hpt2
              generalize (putP p (cut8 r.m)).2 = R
              go_wp2
              go_roundg (zs.length - (j + 1))
              case rel => exact ⟨j + 1, _, _, M8, W8, M10, W10, by omega, rfl, by go_num, hT10.out, hpu.out.2, by have := hq1.out; have := hps.out; push_cast; omega, by have := hq2.out; have := hqs.out; push_cast; omega, by have := hq1.out; have := hpr.out; push_cast; omega⟩
              case measure => omega
            · replace hK : 3 ≤ K := by omega
              have has := hid (hS.out.ask r.p r.u r.n)
              have hq1 := hid (askP_of p r.p r.u r.n)
              have hq2 := hid (askP_of q r.p r.u r.n)
              have hak := ask_x hT6.out.a hxi.out r.u r.n (by have := hps.out; omega) (by have := hpr.out; omega)
              unfold AskX at hak
              have hak := hid hak
              go_upto_region 25 with (first | (go_at_call 10; (with_reducible refine (hak.out).mono ?_); rintro e w7 ⟨a7, c7, rfl, hi7, hst⟩; obtain ⟨M8, W8, hT7, hc7, hn8⟩ := hT6.out.stepA hst; have hns8 := hid (hn8 sb hP6.out.lt hnb.out.1); clear hn8; have hP7 := hid (hP6.out.chg hc7 hnb.out.1); have hT7 := hid hT7; have hi7 := hid hi7; clear hst hc7))
              clear y0 y1 y2 y3 y4 y5 y6 y7 y8 yl hak
              generalize (askP p r.p r.u r.n) = R at has hq1 hT7 hi7 ⊢
              generalize hRq : (askP q r.p r.u r.n) = R' at has hq2
              obtain ⟨p1, m1, c1'⟩ := R
              obtain ⟨q1, m2, c2'⟩ := R'
              obtain ⟨heq, hS1⟩ := has.out
              simp only [Prod.mk.injEq] at heq hS1 hi7 hT7 hq1 hq2 ⊢
              obtain ⟨rfl, rfl⟩ := heq
              replace hRq := hid hRq
              replace hS1 := hid hS1
              clear has
              have hbz := (Below.refl w7.heap.size w7).alloc (Nat.le_refl _) (.cells #[.slice a7 m1.words.length c7, .int .i64 m1.lane, .int .i64 m1.stamp, .int .i64 m1.late, .int .i64 m1.seq] 27)
              have hB1 := hid (pts.newA w7 #[.slice a7 m1.words.length c7, .int .i64 m1.lane, .int .i64 m1.stamp, .int .i64 m1.late, .int .i64 m1.seq] 27)
              have hn1 := hid (show ¬ M2 w7.heap.size from fun hm => Nat.lt_irrefl _ (hT7.out.b.lt _ (.inl hm)))
              have hn18 := hid (show ¬ M8 w7.heap.size from fun hm => Nat.lt_irrefl _ (hT7.out.a.lt _ (.inl hm)))
              have hT8 := hid (hT7.out.below hbz)
              have hP8 := hid (hP7.out.below hbz)
              have hi8 := hid (hi7.out.below hbz)
              clear hbz
              generalize w7.alloc (.cells #[.slice a7 m1.words.length c7, .int .i64 m1.lane, .int .i64 m1.stamp, .int .i64 m1.late, .int .i64 m1.seq] 27) = w8 at hB1 hT8 hP8 hi8 ⊢
              generalize w7.heap.size = b1 at hB1 hn1 hn18 ⊢
              have y0 := hP8.out.cell 0
              have y1 := hP8.out.cell 1
              have y2 := hP8.out.cell 2
              have y3 := hP8.out.cell 3
              have yl := hP8.out.lt
              simp only [List.getElem?_cons_zero, List.getElem?_cons_succ] at y0 y1 y2 y3
              have hak2 := ask_x hT8.out.b hxi.out r.u r.n (by have := hqs.out; omega) (by rw [← hS.out.row]; have := hpr.out; omega)
              unfold AskX at hak2
              rw [hRq.out] at hak2
              simp only at hak2
              replace hak2 := hid hak2
              go_upto_region 26 with (first | (go_at_call 10; (with_reducible refine (hak2.out).mono ?_); rintro e w9 ⟨a9, c9, rfl, hi9, hst⟩; obtain ⟨M10, W10, hT9, hc9, hn10⟩ := hT8.out.swap.stepA hst; have hns10 := hid (hn10 sb hP8.out.lt hnb.out.2); have hn110 := hid (hn10 b1 hB1.out.lt hn1.out); clear hn10; have hP9 := hid (hP8.out.chg hc9 hnb.out.2); have hB9 := hid (hB1.out.chg hc9 hn1.out); have hi89 := hid (hi8.out.chg hc9 (fun b hb _ hm => hT6.out.bw b hm hb)); have hT9 := hid hT9.swap; have hi9 := hid hi9; clear hst hc9))
              clear y0 y1 y2 y3 yl hak2
              have hbz := (Below.refl w9.heap.size w9).alloc (Nat.le_refl _) (.cells #[.slice a9 m1.words.length c9, .int .i64 m1.lane, .int .i64 m1.stamp, .int .i64 m1.late, .int .i64 m1.seq] 27)
              have hB2 := hid (pts.newA w9 #[.slice a9 m1.words.length c9, .int .i64 m1.lane, .int .i64 m1.stamp, .int .i64 m1.late, .int .i64 m1.seq] 27)
              have hnA := hid (show ¬ M8 w9.heap.size ∧ ¬ M10 w9.heap.size from ⟨fun hm => Nat.lt_irrefl _ (hT9.out.a.lt _ (.inl hm)), fun hm => Nat.lt_irrefl _ (hT9.out.b.lt _ (.inl hm))⟩)
              have hT10 := hid (hT9.out.below hbz)
              have hP10 := hid (hP9.out.below hbz)
              have hB10 := hid (hB9.out.below hbz)
              have hi10 := hid (hi89.out.below hbz)
              have hj10 := hid (hi9.out.below hbz)
              clear hbz
              generalize w9.alloc (.cells #[.slice a9 m1.words.length c9, .int .i64 m1.lane, .int .i64 m1.stamp, .int .i64 m1.late, .int .i64 m1.seq] 27) = w10 at hB2 hT10 hP10 hB10 hi10 hj10 ⊢
              generalize w9.heap.size = b2 at hB2 hnA ⊢
              have hTd := hid (hT10.out.below (w' := w10.drew) (Below.refl _ _).drew)
              have hid1 := hid (hi10.out.below (w' := w10.drew) (Below.refl _ _).drew)
              have hjd1 := hid (hj10.out.below (w' := w10.drew) (Below.refl _ _).drew)
              have hPd := hid (hP10.out.below (w' := w10.drew) (Below.refl _ _).drew)
              have hb1d := hid (hB10.out.below (w' := w10.drew) (Below.refl _ _).drew)
              have hb2d := hid (hB2.out.below (w' := w10.drew) (Below.refl _ _).drew)
              have hps1 : p1.s ≤ 1000000 ∧ p1.row.length ≤ 1000000 := by have := hq1.out; have := hps.out; have := hpr.out; omega
              have hqs1 : q1.s ≤ 1000000 ∧ q1.row.length ≤ 1000000 := by have := hq2.out; have := hqs.out; have := hpr.out; rw [← hS.out.row] at *; omega
              have hps1 := hid hps1
              have hqs1 := hid hqs1
              have x0 := hB10.out.cell 0
              have x1 := hB10.out.cell 1
              have x2 := hB10.out.cell 2
              have x3 := hB10.out.cell 3
              have x4 := hB10.out.cell 4
              have z0 := hB2.out.cell 0
              have z1 := hB2.out.cell 1
              have z2 := hB2.out.cell 2
              have z3 := hB2.out.cell 3
              have z4 := hB2.out.cell 4
              have y3 := hP10.out.cell 3
              have xl := hB10.out.lt
              have zl := hB2.out.lt
              have yl := hP10.out.lt
              simp only [List.getElem?_cons_zero, List.getElem?_cons_succ] at x0 x1 x2 x3 x4 z0 z1 z2 z3 z4 y3
              go_region_held3 (fun W => W.cell? ⟨b1, 0, none⟩ = some (.slice a7 m1.words.length c7) ∧ W.cell? ⟨b1, 1, none⟩ = some (.int .i64 m1.lane) ∧ W.cell? ⟨b1, 2, none⟩ = some (.int .i64 m1.stamp) ∧ W.cell? ⟨b1, 3, none⟩ = some (.int .i64 m1.late) ∧ W.cell? ⟨b1, 4, none⟩ = some (.int .i64 m1.seq) ∧ W.cell? ⟨b2, 0, none⟩ = some (.slice a9 m1.words.length c9) ∧ W.cell? ⟨b2, 1, none⟩ = some (.int .i64 m1.lane) ∧ W.cell? ⟨b2, 2, none⟩ = some (.int .i64 m1.stamp) ∧ W.cell? ⟨b2, 3, none⟩ = some (.int .i64 m1.late) ∧ W.cell? ⟨b2, 4, none⟩ = some (.int .i64 m1.seq) ∧ W.cell? ⟨sb, 3, none⟩ = some (.int .i64 r.n))
                (first | go_keep | ((try dsimp only); (repeat' apply And.intro) <;> go_keep))
                (first | (go_at_call 24; (with_reducible refine (R2.one_eq hid1.out hjd1.out rfl).mono ?_); rintro e w11 ⟨rfl, hb⟩; have hT11 := hid (hTd.out.below hb); have hP11 := hid (hPd.out.below hb); have s3 := hP11.out.cell 3; simp only [List.getElem?_cons_zero, List.getElem?_cons_succ] at s3; have hb1_11 := hid (hb1d.out.below hb); have hb2_11 := hid (hb2d.out.below hb); have u0 := hb1_11.out.cell 0; have u1 := hb1_11.out.cell 1; have u2 := hb1_11.out.cell 2; have u3 := hb1_11.out.cell 3; have u4 := hb1_11.out.cell 4; have u5 := hb2_11.out.cell 0; have u6 := hb2_11.out.cell 1; have u7 := hb2_11.out.cell 2; have u8 := hb2_11.out.cell 3; have u9 := hb2_11.out.cell 4; simp only [List.getElem?_cons_zero, List.getElem?_cons_succ] at u0 u1 u2 u3 u4 u5 u6 u7 u8 u9; have sl := hP11.out.lt; clear hb) | (go_at_call 13; (with_reducible refine (expire_x hT11.out.a r.n hps1.out.1 hps1.out.2).mono ?_); rintro e w12 ⟨v12, rfl, hv12, hP', hc⟩; obtain ⟨a12, c12, rfl⟩ := hv12.shape; have hT12 := hid (hT11.out.sameA hP' hc); have hP12 := hid (hP11.out.chg hc hns8.out); have t3 := hP12.out.cell 3; simp only [List.getElem?_cons_zero, List.getElem?_cons_succ] at t3; have hb1_12 := hid (hb1_11.out.chg hc hn18.out); have hb2_12 := hid (hb2_11.out.chg hc hnA.out.1); have k0 := hb1_12.out.cell 0; have k1 := hb1_12.out.cell 1; have k2 := hb1_12.out.cell 2; have k3 := hb1_12.out.cell 3; have k4 := hb1_12.out.cell 4; have k5 := hb2_12.out.cell 0; have k6 := hb2_12.out.cell 1; have k7 := hb2_12.out.cell 2; have k8 := hb2_12.out.cell 3; have k9 := hb2_12.out.cell 4; simp only [List.getElem?_cons_zero, List.getElem?_cons_succ] at k0 k1 k2 k3 k4 k5 k6 k7 k8 k9; have tl := hP12.out.lt; have hv12 := hid hv12; clear hP' hc) | (go_at_call 13; (with_reducible refine (expire_x hT12.out.b r.n hqs1.out.1 hqs1.out.2).mono ?_); rintro e w13 ⟨v13, rfl, hv13, hP', hc⟩; obtain ⟨a13, c13, rfl⟩ := hv13.shape; have hT13 := hid (hT12.out.swap.sameA hP' hc).swap; have hv123 := hid (hv12.out.chg hc (fun b hb _ hm => by have := hT11.out.b.lt b (.inl hm); omega)); have hP13 := hid (hP12.out.chg hc hns10.out); have q3 := hP13.out.cell 3; simp only [List.getElem?_cons_zero, List.getElem?_cons_succ] at q3; have hb1_13 := hid (hb1_12.out.chg hc hn110.out); have hb2_13 := hid (hb2_12.out.chg hc hnA.out.2); have l0 := hb1_13.out.cell 0; have l1 := hb1_13.out.cell 1; have l2 := hb1_13.out.cell 2; have l3 := hb1_13.out.cell 3; have l4 := hb1_13.out.cell 4; have l5 := hb2_13.out.cell 0; have l6 := hb2_13.out.cell 1; have l7 := hb2_13.out.cell 2; have l8 := hb2_13.out.cell 3; have l9 := hb2_13.out.cell 4; simp only [List.getElem?_cons_zero, List.getElem?_cons_succ] at l0 l1 l2 l3 l4 l5 l6 l7 l8 l9; have hv13 := hid hv13; clear hP' hc) | (go_at_call 23; (with_reducible refine (R1.same_c hv123.out hv13.out).mono ?_); rw [decide_eq_true (hS1.out.late r.n)]; rintro e w14 ⟨rfl, kk, rfl⟩))
              go_wp2
              go_roundg (zs.length - (j + 1))
              case rel =>
                have h1 := hq1.out
                have h2 := hq2.out
                have h3 := hps.out
                have h4 := hqs.out
                have h5 := hpr.out
                have h6 : (expP p1 r.n).row.length ≤ p1.row.length := by show ((keysE (p1.es.filter (lateE r.n))).foldl butT p1.row).length ≤ _; rw [foldBut]; exact List.length_filter_le _ _
                exact ⟨j + 1, expP p1 r.n, expP q1 r.n, M8, W8, M10, W10, by omega, rfl, by go_num, hT13.out.below (drewN_below _ _ _), hS1.out.exp r.n, by show p1.s ≤ _; push_cast; omega, by show q1.s ≤ _; push_cast; omega, by push_cast; omega⟩
              case measure => omega
          · have djl : decide ((j : Int) < zs.length) = false := decide_eq_false (by omega)
            have hl1 := hid (len_x hT.a)
            have hl2 := hid (len_x hT.b)
            have hme : (p.ms.length : Int) = q.ms.length := by rw [hS.ms]
            have hB := hid hT.wa.below
            rw [hS.ms] at hl1
            go_wp2_with (first | (go_at_call 18; (with_reducible refine (hl1.out).mono ?_); rintro e w' ⟨rfl, rfl⟩) | (go_at_call 18; (with_reducible refine (hl2.out).mono ?_); rintro e w' ⟨rfl, rfl⟩))
            go_ret
            exact ⟨by simp, hB.out⟩
end Go.Proofs.Ytnlmkllhmldgiaa.Qu
