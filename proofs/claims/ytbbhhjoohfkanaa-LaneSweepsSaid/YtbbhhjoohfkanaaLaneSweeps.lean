/- DERIVED. The walk over the statement LaneSweeps: what is swept is late, all that is left is not. -/
import Derived.Test.YtbbhhjoohfkanaaLaneI
import Derived.Test.YtbbhhjoohfkanaaRefMsg
namespace Go.Proofs.Ytbbhhjoohfkanaa.La
set_option linter.unusedVariables false
set_option linter.unusedSimpArgs false
open Go.RowKit Go.Proofs.Ytbbhhjoohfkanaa.K Go.Proofs.Ytbbhhjoohfkanaa.Sp Go.Proofs.Ytbbhhjoohfkanaa.Lb Go.Proofs.Ytbbhhjoohfkanaa.So
theorem filter_at {α : Type} {l : List α} {f : α → Bool} {j : Nat} (hj : j < l.length) (hf : f l[j] = true) : ∃ h : ((l.take j).filter f).length < (l.filter f).length, (l.filter f)[((l.take j).filter f).length] = l[j] := by
  have e : l.filter f = (l.take j).filter f ++ l[j] :: (l.drop (j + 1)).filter f := by
    have e1 : l = l.take j ++ l[j] :: l.drop (j + 1) := by rw [← List.drop_eq_getElem_cons hj, List.take_append_drop]
    conv => lhs; rw [e1, List.filter_append, List.filter_cons, if_pos hf]
  have hl : ((l.take j).filter f).length < (l.filter f).length := by rw [e]; simp
  refine ⟨hl, ?_⟩
  have h2 : (l.filter f)[((l.take j).filter f).length]? = some l[j] := by rw [e]; simp
  rw [List.getElem?_eq_getElem hl] at h2
  exact Option.some.inj h2
/-- A row sorted, some taken out, is a row sorted. -/
theorem sort_filter (ms : List Msg) (f : Msg → Bool) : sortM ((sortM ms).filter f) = (sortM ms).filter f := sortL_srt_id ((sortL_srt ms).sub f)
def lateB (now : Int) (m : Msg) : Bool := lateT now m.late
set_option maxHeartbeats 4000000 in
set_option maxRecDepth 100000 in
theorem sweeps_c {w : World} {vs : Value} (places now : Int) {qs : List (Value × St)} (hs : StepsAt w vs qs) : Calls Try.prog 4 #[.int .i64 places, vs, .int .i64 now] w (LivesPost w) := by
  obtain ⟨a2, c2, rfl⟩ := hs.shape
  replace hs := hid hs
  go_enter Try.func4, Try.ntmps4
  go_wp2_with (first | (go_at_call 11; (with_reducible refine (lives_c _).mono ?_); rintro e w1 ⟨rfl, hb1⟩; replace hb1 := hid hb1) | (go_at_call 12; (with_reducible refine (new_c _ 3 places).mono ?_); rintro e w2 ⟨lb, rfl, hL, hb⟩; have hL2 := hid hL; have hW2 := hid (show Wd w.heap.size w w2 (fun b => w1.heap.size ≤ b ∧ b < w2.heap.size) from ⟨Below.next hb1.out hb hb1.out.size, fun b h => Nat.le_trans hb1.out.size h.1, fun b h => h.2, Nat.le_trans hb1.out.size hb.size⟩); clear hL hb; generalize (fun b => w1.heap.size ≤ b ∧ b < w2.heap.size) = M2 at hL2 hW2) | (go_at_call 13; (with_reducible refine (early_c _ hs.out).mono ?_); rintro e w' ⟨v', rfl, hv', rfl⟩; have hl80 := hid (show (qs.take 80).length ≤ 80 by simp; omega); generalize qs.take 80 = ys at hv' hl80; obtain ⟨a3, c3, rfl⟩ := hv'.shape; replace hv' := hid hv'))
  have hl80 := hl80.out
  clear hb1 hs
  go_loopg [8] ys.length (fun g i wr => ∃ (k : Nat) (ms : List Msg) (M : Nat → Prop), k ≤ ys.length ∧ g = ys.length - k ∧ i = .int .i64 k ∧ LanesM wr M lb (lnT 3) (plT places) ms ∧ Wd w.heap.size w wr M)
  case atStart => exact ⟨0, [], M2, Nat.zero_le _, rfl, rfl, hL2.out, hW2.out⟩
  case round =>
    clear hL2 hW2
    obtain ⟨k, ms, M, hk, hgk, rfl, hL, hW⟩ := hrel
    by_cases hlt : k < ys.length
    · obtain ⟨-, hcl, hcm, -⟩ := (RecsAt.below goodS_below hv'.out hW.below).get
      obtain ⟨g, o, a, c, rfl, hg, hwi, d0, d1, d2, d3, d4, d5, d6⟩ := StepsAt.at_ (RecsAt.below goodS_below hv'.out hW.below) hlt
      generalize ys[k].2 = q at hwi d0 d1 d2 d3 d4 d5 d6
      have hmsg := message_c q hwi
      have hcut := hid (hwi.cut 8)
      replace hL := hid hL
      replace hW := hid hW
      replace hwi := hid hwi
      replace hmsg := hid hmsg
      go_upto_region 10 with (first | (go_at_call 20; (with_reducible refine (hmsg.out).mono ?_); rintro e w3 ⟨rfl, hb3⟩; have hL3 := hid (hL.out.below hb3); have hW3 := hid (hW.out.next hb3); have hc3 := hid (hcut.out.below hb3); clear hb3 hL hW hcut))
      have hbA := (Below.refl w3.heap.size w3).alloc (Nat.le_refl _) (.cells #[.slice a (cut8 q.m).words.length c, .int .i64 q.m.lane, .int .i64 q.m.stamp, .int .i64 q.m.late, .int .i64 k] 30)
      have hput : Calls Try.prog 16 #[.pointer (some ⟨lb, 0, none⟩), .agg #[.slice a (cut8 q.m).words.length c, .int .i64 q.m.lane, .int .i64 q.m.stamp, .int .i64 q.m.late, .int .i64 k]] _ _ := put_any (m := { (cut8 q.m) with seq := k }) (hL3.out.below hbA) (hc3.out.below hbA) (by have := cut8_len q.m; simp only; omega)
      have hWA := hid (hW3.out.next hbA)
      replace hput := hid hput
      clear d0 d1 d2 d3 d4 d5 d6 hbA hL3 hW3 hc3
      go_wp2_with (first | (go_at_call 16; (with_reducible refine (hput.out).mono ?_); rintro e w5 ⟨rfl, hL5, hC5⟩; have hW5 := hid (hWA.out.chg hC5); replace hL5 := hid hL5; clear hC5))
      go_roundg (ys.length - (k + 1))
      case rel => exact ⟨k + 1, _, _, by omega, rfl, by go_num, hL5.out, hW5.out⟩
      case measure => omega
    · obtain rfl : k = ys.length := by omega
      have hin := hL.inv
      have hlen24 := hin.sort.len
      have hf1 : ((sortM ms).filter (lateB now)).length ≤ 24 := Nat.le_trans (List.length_filter_le _ _) hlen24
      have hf2 : ((sortM ms).filter (fun m => !lateB now m)).length ≤ 24 := Nat.le_trans (List.length_filter_le _ _) hlen24
      have hsw := hid (fun (w : World) (M : Nat → Prop) (h : LanesM w M lb (lnT 3) (plT places) ms) => show Calls Try.prog 21 #[.pointer (some ⟨lb, 0, none⟩), .int .i64 now] w (TellPost w M lb (lnT 3) (plT places) ((sortM ms).filter (lateB now)) ((sortM ms).filter (fun m => !lateB now m))) from sweepTell h now)
      have hsrt := sort_filter ms (fun m => !lateB now m)
      have hal2 := hid (fun (w : World) (M : Nat → Prop) (h : LanesM w M lb (lnT 3) (plT places) ((sortM ms).filter (fun m => !lateB now m))) => show Calls Try.prog 17 #[.pointer (some ⟨lb, 0, none⟩)] w (ResR w ((sortM ms).filter (fun m => !lateB now m))) from hsrt ▸ all_r h)
      have hsw2 := hid (fun (w : World) (M : Nat → Prop) (h : LanesM w M lb (lnT 3) (plT places) ((sortM ms).filter (fun m => !lateB now m))) => show Calls Try.prog 21 #[.pointer (some ⟨lb, 0, none⟩), .int .i64 now] w (TellPost w M lb (lnT 3) (plT places) [] ((sortM ms).filter (fun m => !lateB now m))) from by
        have h1 := sweepTell h now
        rw [hsrt] at h1
        have e1 : ((sortM ms).filter (fun m => !lateB now m)).filter (fun m => lateT now m.late) = [] := by
          rw [List.filter_eq_nil_iff]; intro m hm; have := (List.mem_filter.1 hm).2; unfold lateB at this; simpa using this
        have e2 : ((sortM ms).filter (fun m => !lateB now m)).filter (fun m => !lateT now m.late) = (sortM ms).filter (fun m => !lateB now m) := by
          rw [List.filter_eq_self]; intro m hm; exact (List.mem_filter.1 hm).2
        rw [e1, e2] at h1; exact h1)
      have hall := all_r hL
      clear hsrt
      generalize sortM ms = S at *
      replace hall := hid hall
      have hMlt := hid hL.lt
      replace hL := hid hL
      replace hin := hid hin
      replace hW := hid hW
      go_wp2_with (first | (go_at_call 17; (with_reducible refine (hall.out).mono ?_); rintro e w3 ⟨v3, rfl, ⟨p3, hp3, hv3⟩, hb3⟩; obtain ⟨a4, c4, rfl⟩ := hv3.shape; have hl3 : p3.length = S.length := (by have := congrArg List.length hp3; simpa using this); rw [hl3]; replace hl3 := hid hl3; have hL3 := hid (hL.out.below hb3); have hW3 := hid (hW.out.next hb3); replace hv3 := hid hv3; replace hp3 := hid hp3; have hz3 := hid hb3.size; clear hb3) | (go_at_call 21; (with_reducible refine (hsw.out _ _ hL3.out).mono ?_); rintro e w4 ⟨v4, rfl, ⟨p4, hp4, hv4⟩, hL4, hC4⟩; obtain ⟨a5, c5, rfl⟩ := hv4.shape; have hl4 : p4.length = (S.filter (lateB now)).length := (by have := congrArg List.length hp4; simpa using this); rw [hl4]; replace hl4 := hid hl4; have hv3' := hid (hv3.out.kept hC4.size (fun b hb hlt => hC4.block b hlt (fun hm => by have := hMlt.out b hm; have := hz3.out; rcases hb with hb | hb <;> omega))); have hW4 := hid (hW3.out.chg hC4); replace hL4 := hid hL4; replace hv4 := hid hv4; replace hp4 := hid hp4; clear hC4) | (go_at_call 17; (with_reducible refine (hal2.out _ _ hL4.out).mono ?_); rintro e w5 ⟨v5, rfl, ⟨p5, hp5, hv5⟩, hb5⟩; obtain ⟨a6, c6, rfl⟩ := hv5.shape; have hl5 : p5.length = (S.filter (fun m => !lateB now m)).length := (by have := congrArg List.length hp5; simpa using this); rw [hl5]; replace hl5 := hid hl5; have hL5 := hid (hL4.out.below hb5); have hW5 := hid (hW4.out.next hb5); have hv35 := hid (hv3'.out.below hb5); have hv45 := hid (hv4.out.below hb5); replace hv5 := hid hv5; replace hp5 := hid hp5; clear hb5))
      go_loopg [15, 13, 14] S.length (fun gg si sa sb wr => ∃ (j A B : Nat), j ≤ S.length ∧ gg = S.length - j ∧ si = .int .i64 j ∧ sa = .int .i64 A ∧ sb = .int .i64 B ∧ A = ((S.take j).filter (lateB now)).length ∧ B = ((S.take j).filter (fun m => !lateB now m)).length ∧ Below w5.heap.size w5 wr)
      case atStart => exact ⟨0, 0, 0, by omega, rfl, rfl, rfl, rfl, rfl, rfl, Below.refl _ _⟩
      case round =>
        obtain ⟨j, A, B, hj, hgj, rfl, rfl, rfl, hA, hB, hB6⟩ := hrel
        by_cases hlt : j < S.length
        · have hlp3 : j < p3.length := by have := hl3.out; omega
          have hm3 : p3[j].2 = S[j] := by have := congrArg (fun l => l[j]?) hp3.out; simpa [hlt, hlp3] using this
          obtain ⟨g1, o1, a7, c7, rfl, -, -, hat, -⟩ := (hv35.out.below hB6).at5 hlp3
          rw [hm3] at hat
          clear hm3
          replace hA := hid hA
          replace hB := hid hB
          by_cases hl2 : lateB now S[j] = true
          · have hfa := filter_at (f := (lateB now)) hlt hl2
            obtain ⟨hlt2, hget2⟩ := hfa
            have hlt3 : A < (S.filter (lateB now)).length := by have := hA.out; omega
            have hlp : A < p4.length := by have := hl4.out; omega
            have hm2 : p4[A].2 = S[j] := by
              have h1 := congrArg (fun l => l[A]?) hp4.out
              simp only [List.getElem?_map, List.getElem?_eq_getElem hlp, List.getElem?_eq_getElem hlt3, Option.map_some, Option.some.injEq] at h1
              rw [h1, ← hget2]
              congr 1 <;> exact hA.out
            obtain ⟨g2, o2, a8, c8, rfl, -, -, hat2, -⟩ := (hv45.out.below hB6).at5 hlp
            rw [hm2] at hat2
            have hA1 := hid (show ((S.take (j + 1)).filter (lateB now)).length = ((S.take j).filter (lateB now)).length + 1 by rw [filter_take _ hlt]; simp [hl2])
            have hB1 := hid (show ((S.take (j + 1)).filter (fun m => !lateB now m)).length = ((S.take j).filter (fun m => !lateB now m)).length + 0 by rw [filter_take _ hlt]; simp [hl2])
            clear hget2 hlt2 hm2
            have hlr := R2.late_c
            have hlate : Hid (lateT now S[j].late = true) := hid (show lateB now S[j] = true from hl2)
            generalize S[j] = m at hat hat2 hlate
            obtain ⟨x0, x1, x2, x3, x4, hxl⟩ := hat
            replace hlr := hid (fun (w : World) => R2.late_c w a7 m.words.length c7 m now)
            replace hl2 := hid hl2
            
            have hi1 : (A : Int) < (S.filter (lateB now)).length := by omega
            have hge : decide ((S.filter (lateB now)).length ≤ A) = false := by simp; omega
            have hj1 : (j : Int) < S.length := by omega
            have hat := hid hat2
            have hB6' := hid hB6
            clear hB6 hat2
            go_upto_region 22 with (first | (go_at_call 22; (with_reducible refine (hlr.out _).mono ?_); rw [hlate.out]; rintro e w7 ⟨rfl, hb7⟩; have hb76 := hb7; obtain ⟨y0, y1, y2, y3, y4, yl⟩ := hat.out.below hb7; have x4' := (hb7.cell (p := ⟨_, _, none⟩) hxl).trans x4; have hxl' := Nat.lt_of_lt_of_le hxl hb7.size; clear x0 x1 x2 x3 x4; replace hb7 := hid (Below.next hB6'.out hb7 hB6'.out.size); clear hb76))
            go_quiet (fail)
            go_wp2
            go_roundg (S.length - (j + 1))
            case rel => exact ⟨j + 1, A + 1, B, by omega, rfl, by go_num, by go_num, rfl, by have := hA1.out; have := hA.out; omega, by have := hB1.out; have := hB.out; omega, hb7.out.trans (K.Below.drewN _ _ _)⟩
            case measure => omega
          · have hl3 : lateB now S[j] = false := by simpa using hl2
            replace hl2 : (!lateB now S[j]) = true := by rw [hl3]; rfl
            have hfa := filter_at (f := (fun m => !lateB now m)) hlt hl2
            obtain ⟨hlt2, hget2⟩ := hfa
            have hlt3 : B < (S.filter (fun m => !lateB now m)).length := by have := hB.out; omega
            have hlp : B < p5.length := by have := hl5.out; omega
            have hm2 : p5[B].2 = S[j] := by
              have h1 := congrArg (fun l => l[B]?) hp5.out
              simp only [List.getElem?_map, List.getElem?_eq_getElem hlp, List.getElem?_eq_getElem hlt3, Option.map_some, Option.some.injEq] at h1
              rw [h1, ← hget2]
              congr 1 <;> exact hB.out
            obtain ⟨g2, o2, a8, c8, rfl, -, -, hat2, -⟩ := (hv5.out.below hB6).at5 hlp
            rw [hm2] at hat2
            have hA1 := hid (show ((S.take (j + 1)).filter (lateB now)).length = ((S.take j).filter (lateB now)).length + 0 by rw [filter_take _ hlt]; simp [hl3])
            have hB1 := hid (show ((S.take (j + 1)).filter (fun m => !lateB now m)).length = ((S.take j).filter (fun m => !lateB now m)).length + 1 by rw [filter_take _ hlt]; simp [hl3])
            clear hget2 hlt2 hm2
            have hlr := R2.late_c
            have hlate : Hid (lateT now S[j].late = false) := hid (show lateB now S[j] = false from hl3)
            generalize S[j] = m at hat hat2 hlate
            obtain ⟨x0, x1, x2, x3, x4, hxl⟩ := hat
            replace hlr := hid (fun (w : World) => R2.late_c w a7 m.words.length c7 m now)
            replace hl2 := hid hl2
            replace hl3 := hid hl3
            have hi1 : (B : Int) < (S.filter (fun m => !lateB now m)).length := by omega
            have hge : decide ((S.filter (fun m => !lateB now m)).length ≤ B) = false := by simp; omega
            have hj1 : (j : Int) < S.length := by omega
            have hat := hid hat2
            have hB6' := hid hB6
            clear hB6 hat2
            go_upto_region 27 with (first | (go_at_call 22; (with_reducible refine (hlr.out _).mono ?_); rw [hlate.out]; rintro e w7 ⟨rfl, hb7⟩; have hb76 := hb7; obtain ⟨y0, y1, y2, y3, y4, yl⟩ := hat.out.below hb7; have x4' := (hb7.cell (p := ⟨_, _, none⟩) hxl).trans x4; have hxl' := Nat.lt_of_lt_of_le hxl hb7.size; clear x0 x1 x2 x3 x4; replace hb7 := hid (Below.next hB6'.out hb7 hB6'.out.size); clear hb76))
            go_quiet (fail)
            go_wp2
            go_roundg (S.length - (j + 1))
            case rel => exact ⟨j + 1, A, B + 1, by omega, rfl, by go_num, rfl, by go_num, by have := hA1.out; have := hA.out; omega, by have := hB1.out; have := hB.out; omega, hb7.out.trans (K.Below.drewN _ _ _)⟩
            case measure => omega
        · obtain rfl : j = S.length := by omega
          rw [List.take_length] at hA hB
          subst hA hB
          have hW6 := hW5.out.next hB6
          have hL6 := hid (hL5.out.below hB6)
          replace hW6 := hid hW6
          clear hB6
          go_wp2_with (first | (go_at_call 21; (with_reducible refine (hsw2.out _ _ hL6.out).mono ?_); rintro e w7 ⟨v7, rfl, hv7, -, hC7⟩; obtain ⟨a7, c7, rfl⟩ := hv7.shape; simp only [List.length_nil]; have hW7 := hid (hW6.out.chg hC7); clear hv7 hC7))
          go_ret
          exact ⟨rfl, hW7.out.below⟩
end Go.Proofs.Ytbbhhjoohfkanaa.La
