/- DERIVED. The walk over the statement QueueHolds: who waits, and what is held. -/
import Derived.Test.YtnlmkllhmldgiaaQueueHoldsP
namespace Go.Proofs.Ytnlmkllhmldgiaa.Qu
set_option linter.unusedVariables false
set_option linter.unusedSimpArgs false
open Go.RowKit Go.Maps Go.Proofs.Ytnlmkllhmldgiaa.K Go.Proofs.Ytnlmkllhmldgiaa.Lb Go.Proofs.Ytnlmkllhmldgiaa.Wh
set_option maxHeartbeats 4000000 in
set_option maxRecDepth 100000 in
theorem holds_c {w : World} {vs : Value} (hold : Int) {qs : List (Value × St)} (hs : StepsAt w vs qs) (hqi : ∀ q ∈ qs, isInt q.2.p) : Calls Try.prog 4 #[.int .i64 hold, vs] w (LivesPost w) := by
  have hs0 := hid hs
  obtain ⟨a2, c2, rfl⟩ := hs.shape
  clear hs
  have hqi := hid hqi
  obtain ⟨B, hBe⟩ : ∃ B, B = w.heap.size := ⟨_, rfl⟩
  replace hBe := hid hBe
  go_enter Try.func4, Try.ntmps4
  go_wp2_with (first | (go_at_call 8; (with_reducible refine (lives_c _).mono ?_); rintro e w1 ⟨rfl, hb1⟩; have hb1 := hid hb1) | (go_at_call 9; (with_reducible refine (new_x _ hold).mono ?_); rintro e w2 hn; obtain ⟨pb, rfl, hH⟩ := HAt.new hb1.out hold hn; clear hn; have hH2 := hid hH; clear hH) | (go_at_call 14; (with_reducible refine (early_c _ hs0.out).mono ?_); rintro e w' ⟨v', rfl, hv', rfl⟩; have hl80 := hid (show (qs.take 80).length ≤ 80 by simp; omega); have hyi := hid (show ∀ q ∈ qs.take 80, isInt q.2.p from fun q hq => hqi.out q (List.mem_of_mem_take hq)); generalize qs.take 80 = ys at hv' hl80 hyi; obtain ⟨a3, c3, rfl⟩ := hv'.shape; have hv' := hid hv'))
  have hS0 := hid hv'.out
  clear hs0 hv' hb1 hqi
  go_loopg [6, 7, 8, 9, 10] ys.length (fun gg si s7 s8 s9 s10 wr => ∃ (i : Nat), i ≤ ys.length ∧ gg = ys.length - i ∧ si = .int .i64 i ∧ HSt w.heap.size w pb (holdT hold) i wr)
  case atStart => exact ⟨0, Nat.zero_le _, rfl, rfl, hH2.out⟩
  case round =>
    clear hH2
    obtain ⟨i, hi, hgg, rfl, p, M, W, hH⟩ := hrel
    by_cases hlt : i < ys.length
    · have hi80 : i < 80 := Nat.lt_of_lt_of_le hlt hl80.out
      obtain ⟨-, hcl, hcm, hget⟩ := (hS0.out.below hH.wd.below).cells
      obtain ⟨g, o, rfl, hg, ⟨asv, nsv, csv, hsv⟩, hwi, d0, d1, d2, d3, d4, d5, d6, d7, d8⟩ := hget i hlt
      obtain ⟨asw, csw, hsw⟩ := hwi.shape
      rw [hsw] at hwi d4
      have hxi := hid (hyi.out _ (List.getElem_mem hlt))
      clear hget hsv hsw
      generalize ys[i].2 = q at d0 d1 d2 d3 d4 d5 d6 d7 d8 hwi hxi
      have h8l := hid (show (cut8 q.m).words.length ≤ 17592186044416 by unfold cut8; simp; omega)
      have hwc := IntsAt.cut (hwi.mono (fun b _ h => h)) 8
      have hbb := (Below.refl wr.heap.size wr).alloc (Nat.le_refl _) (.cells #[.int .i64 q.k, .int .i64 q.p, .int .i64 q.u, .int .i64 q.n, .slice asw q.m.words.length csw, .int .i64 q.m.lane, .int .i64 q.m.stamp, .int .i64 q.m.late, .int .i64 q.m.seq] 41)
      have hP := hid (pts.newA wr #[.int .i64 q.k, .int .i64 q.p, .int .i64 q.u, .int .i64 q.n, .slice asw q.m.words.length csw, .int .i64 q.m.lane, .int .i64 q.m.stamp, .int .i64 q.m.late, .int .i64 q.m.seq] 41)
      have hH1 := hid (hH.below hbb)
      have hw1 := hid (hwi.below hbb)
      have hw8 := hid (hwc.below hbb)
      clear hH hwi hwc hbb
      go_upto_region 9 with fail
      generalize wr.alloc (.cells #[.int .i64 q.k, .int .i64 q.p, .int .i64 q.u, .int .i64 q.n, .slice asw q.m.words.length csw, .int .i64 q.m.lane, .int .i64 q.m.stamp, .int .i64 q.m.late, .int .i64 q.m.seq] 41) = w5 at hP hH1 hw1 hw8 ⊢
      generalize wr.heap.size = sb at hP ⊢
      clear d0 d1 d2 d3 d4 d5 d6 d7 d8
      have y0 := hP.out.cell 0
      have y1 := hP.out.cell 1
      have y2 := hP.out.cell 2
      have y3 := hP.out.cell 3
      have y4 := hP.out.cell 4
      have y5 := hP.out.cell 5
      have y6 := hP.out.cell 6
      have y7 := hP.out.cell 7
      have y8 := hP.out.cell 8
      have yl := hP.out.lt
      simp only [List.getElem?_cons_zero, List.getElem?_cons_succ] at y0 y1 y2 y3 y4 y5 y6 y7 y8
      have hkd := hid (kindT_lt q.k)
      go_upto_block 2 with (first | (go_at_call 15; (with_reducible refine (kind_c _ q _ _ _).mono ?_); rintro e w6 ⟨rfl, hb⟩; have hH6 := hid (hH1.out.below hb); have hP6 := hid (hP.out.below hb); have hw6 := hid (hw1.out.below hb); have hw86 := hid (hw8.out.below hb); clear hb))
      clear y0 y1 y2 y3 y4 y5 y6 y7 y8 yl hH1 hw1 hP hw8
      generalize kindT q.k = K at hkd ⊢
      have y0 := hP6.out.cell 0
      have y1 := hP6.out.cell 1
      have y2 := hP6.out.cell 2
      have y3 := hP6.out.cell 3
      have y4 := hP6.out.cell 4
      have y5 := hP6.out.cell 5
      have y6 := hP6.out.cell 6
      have y7 := hP6.out.cell 7
      have y8 := hP6.out.cell 8
      have yl := hP6.out.lt
      simp only [List.getElem?_cons_zero, List.getElem?_cons_succ] at y0 y1 y2 y3 y4 y5 y6 y7 y8
      go_cut [] from 29 to 60 (fun wx => HSt w.heap.size w pb (holdT hold) ((i : Int) + 1) wx)
      case first =>
        by_cases hK3 : K < 3
        · go_upto_if 29 with fail
          go_cut [29] from 29 to 32 (fun v wx => v = .bool true ∧ w6 = wx)
          case first =>
            rcases (show K = 0 ∨ K = 1 ∨ K = 2 by have := hkd.out; omega) with rfl | rfl | rfl
            all_goals go_wp2
            all_goals go_meet
            all_goals exact ⟨rfl, rfl⟩
          case rest =>
            obtain ⟨rfl, rfl⟩ := hcut
            go_wp2_with (first | (go_at_call 16; (with_reducible refine (message_c q hw6.out).mono ?_); rintro e w7 ⟨rfl, hb⟩; have hpt : Calls Try.prog 12 #[.pointer (some ⟨pb, 0, none⟩), .agg #[.slice asw (cut8 q.m).words.length csw, .int .i64 q.m.lane, .int .i64 q.m.stamp, .int .i64 q.m.late, .int .i64 q.m.seq]] w7 _ := (hH6.out.below hb).put (m := cut8 q.m) (hw86.out.below hb) h8l.out; have hpt := hid hpt; clear hb) | (go_at_call 12; (with_reducible refine (hpt.out).mono ?_); rintro e w8 ⟨v8, rfl, hH8⟩; have hH8 := hid hH8))
            go_meet
            case rel => exact hH8.out
        · have q0 : (K == 0) = false := by simp; omega
          have q1 : (K == 1) = false := by simp; omega
          have q2 : (K == 2) = false := by simp; omega
          by_cases hK6 : K < 6
          · go_upto_if 37 with fail
            go_cut [37] from 37 to 40 (fun v wx => v = .bool true ∧ w6 = wx)
            case first =>
              rcases (show K = 3 ∨ K = 4 ∨ K = 5 by omega) with rfl | rfl | rfl
              all_goals go_wp2
              all_goals go_meet
              all_goals exact ⟨rfl, rfl⟩
            case rest =>
              obtain ⟨rfl, rfl⟩ := hcut
              go_wp2_with (first | (go_at_call 10; (with_reducible refine (hH6.out.ask (by omega) hxi.out q.u q.n).mono ?_); rintro e w8 ⟨v8, rfl, hH8⟩; have hH8 := hid hH8))
              go_meet
              case rel => exact hH8.out
          · have q3 : (K == 3) = false := by simp; omega
            have q4 : (K == 4) = false := by simp; omega
            have q5 : (K == 5) = false := by simp; omega
            rcases (show K = 6 ∨ K = 7 ∨ K = 8 by have := hkd.out; omega) with rfl | rfl | rfl
            · clear q0 q1 q2 q3 q4 q5
              go_wp2_with (first | (go_at_call 13; (with_reducible refine (hH6.out.exp (by omega) q.n).mono ?_); rintro e w8 ⟨v8, rfl, hH8⟩; have hH8 := hid hH8))
              go_meet
              case rel => exact hH8.out
            · clear q0 q1 q2 q3 q4 q5
              go_wp2_with (first | (go_at_call 17; (with_reducible refine (hH6.out.sweep q.n).mono ?_); rintro e w8 ⟨v8, rfl, hH8⟩; have hH8 := hid hH8))
              go_meet
              case rel => exact hH8.out
            · clear q0 q1 q2 q3 q4 q5
              go_wp2
              go_meet
              case rel => exact ⟨_, _, _, hH6.out.mono (by omega)⟩
      case rest =>
        clear hH6 hP6 hw6 hw86 y0 y1 y2 y3 y4 y5 y6 y7 y8 yl h8l hxi hkd
        obtain ⟨p', M', W', hH7⟩ := hcut
        have hI := hH7.port.inv
        have hone := hI.one
        have hroom := hI.room
        rw [hH7.hold] at hroom
        have hnd := hid hH7.port.nodup
        have hrow := hH7.row
        replace hH7 := hid hH7
        clear hI
        have hrl : p'.row.length ≤ 17592186044416 := by omega
        go_upto_region 23 with (first | (go_at_call 11; (with_reducible refine (waiting_x hH7.out.port hrl).mono ?_); rintro e w8 ⟨v, rfl, hv, hb⟩; obtain ⟨a8, c8, rfl⟩ := hv.shape; have hv8 := hid hv; have hH8 := hid (hH7.out.below hb); clear hv hb))
        clear hH7
        go_cut [78] from 64 to 78 (fun v wx => v = .bool false ∧ w8 = wx)
        case first =>
          obtain ⟨hold', ms, row, es, s⟩ := p'
          simp only at hone hroom
          have hroom := hid hroom
          rcases ms with _ | ⟨m, r⟩
          · clear hone
            go_wp2_with (first | (go_at_call 18; (with_reducible refine (len_x hH8.out.port).mono ?_); rintro e w' ⟨rfl, rfl⟩))
            go_meet
            exact ⟨congrArg Value.bool (decide_eq_false (by have := hroom.out; unfold holdT at this; simp only [List.length_nil, List.length_cons] at this; push_cast at this; omega)), rfl⟩
          · obtain rfl : row = [] := by rcases hone with h | h; cases h; exact h
            clear hone
            go_wp2_with (first | (go_at_call 18; (with_reducible refine (len_x hH8.out.port).mono ?_); rintro e w' ⟨rfl, rfl⟩))
            go_meet
            exact ⟨congrArg Value.bool (decide_eq_false (by have := hroom.out; unfold holdT at this; simp only [List.length_nil, List.length_cons] at this; push_cast at this; omega)), rfl⟩
        case rest =>
          obtain ⟨rfl, rfl⟩ := hcut
          replace hone := hid hone
          replace hroom := hid hroom
          have hv9 := hid hv8.out.get
          go_upto_block 3 with fail
          go_wp2_with fail
          go_loopg [9, 10] p'.row.length (fun gg sa sb wx => Below w8.heap.size w8 wx ∧ ∃ a : Nat, a ≤ p'.row.length ∧ gg = p'.row.length - a ∧ sa = .int .i64 a)
          case atStart => exact ⟨Below.refl _ _, 0, Nat.zero_le _, rfl, rfl⟩
          case round =>
            obtain ⟨hbA, a, ha, hga, rfl⟩ := hrel
            obtain ⟨wA, rfl⟩ : ∃ x, x = wr := ⟨_, rfl⟩
            replace hbA := hid hbA
            by_cases hla : a < p'.row.length
            · have da : decide ((a : Int) < p'.row.length) = true := decide_eq_true (by omega)
              obtain ⟨-, -, -, hgc⟩ := hv9.out
              obtain ⟨xg, xo, rfl, -, xl, ca⟩ := hgc a hla
              replace hgc := hid hgc
              go_upto_block 5 with fail
              go_cut [10] from 85 to 98 (fun _ wx => Below w8.heap.size w8 wx)
              case first =>
                go_wp2_with fail
                go_loopg [10] a (fun gg sb wx => Below w8.heap.size w8 wx ∧ ∃ b : Nat, b ≤ a ∧ gg = a - b ∧ sb = .int .i64 b)
                case atStart => exact ⟨hbA.out, 0, Nat.zero_le _, rfl, rfl⟩
                case round =>
                  obtain ⟨hbB, b, hb, hgb, rfl⟩ := hrel
                  by_cases hlb : b < a
                  · have db : decide ((b : Int) < a) = true := decide_eq_true (by omega)
                    obtain ⟨xg', xo', hxe, -, -, cb⟩ := hgc.out b (by omega)
                    simp only [Option.some.injEq, Addr.mk.injEq, and_true] at hxe
                    obtain ⟨rfl, rfl⟩ := hxe
                    have hne : (p'.row[a] == p'.row[b]) = false := by
                      have h := List.pairwise_iff_getElem.1 hnd.out b a (by omega) (by omega) hlb
                      exact beq_eq_false_iff_ne.2 (fun e => h e.symm)
                    generalize p'.row[a] = xa at hne ca
                    generalize p'.row[b] = xb at hne cb
                    have ca := (hbB.cell (p := ⟨xg, xo + a, none⟩) xl).trans ca
                    have cb := (hbB.cell (p := ⟨xg, xo + b, none⟩) xl).trans cb
                    replace hbB := hid hbB
                    go_wp2
                    go_quiet (fail)
                    go_wp2
                    go_roundg (a - (b + 1))
                    case rel => exact ⟨hbB.out.trans (drewN_below _ _ _), b + 1, by omega, rfl, by go_num⟩
                    case measure => omega
                  · have db : decide ((b : Int) < a) = false := decide_eq_false (by omega)
                    replace hbB := hid hbB
                    go_wp2
                    go_meet
                    exact hbB.out
              case rest =>
                have ca := (hcut.cell (p := ⟨xg, xo + a, none⟩) xl).trans ca
                have hH9 := hid (hH8.out.below hcut)
                replace hcut := hid hcut
                have hmem : decide (p'.row[a] ∈ p'.row) = true := decide_eq_true (List.getElem_mem hla)
                have hwt := hid (waits_x hH9.out.port p'.row[a])
                rw [hmem] at hwt
                clear hmem
                generalize p'.row[a] = xa at hwt ca
                go_wp2_with (first | (go_at_call 19; (with_reducible refine (hwt.out).mono ?_); rintro e w' ⟨rfl, rfl⟩))
                go_roundg (p'.row.length - (a + 1))
                case rel => exact ⟨hcut.out, a + 1, by omega, rfl, by go_num⟩
                case measure => omega
            · have da : decide ((a : Int) < p'.row.length) = false := decide_eq_false (by omega)
              go_wp2
              go_roundg (ys.length - (i + 1))
              case rel => exact ⟨i + 1, by omega, rfl, by go_num, _, _, _, hH8.out.below hbA.out⟩
              case measure => omega
    · have d1 : decide ((i : Int) < ys.length) = false := decide_eq_false (by omega)
      have hB9 := hid hH.wd.below
      go_wp2
      go_ret
      exact ⟨rfl, hB9.out⟩
end Go.Proofs.Ytnlmkllhmldgiaa.Qu
