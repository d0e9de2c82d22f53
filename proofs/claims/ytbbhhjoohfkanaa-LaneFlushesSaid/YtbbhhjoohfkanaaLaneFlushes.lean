/- DERIVED. The walk over the statement LaneFlushes: a Flush tells all, one by one as Take would. -/
import Derived.Test.YtbbhhjoohfkanaaLaneI
import Derived.Test.YtbbhhjoohfkanaaRefMsg
namespace Go.Proofs.Ytbbhhjoohfkanaa.La
set_option linter.unusedVariables false
set_option linter.unusedSimpArgs false
open Go.RowKit Go.Proofs.Ytbbhhjoohfkanaa.K Go.Proofs.Ytbbhhjoohfkanaa.Sp Go.Proofs.Ytbbhhjoohfkanaa.Lb Go.Proofs.Ytbbhhjoohfkanaa.So
/-- Two lanes, apart; what was there at w0 below base is kept. -/
structure TwoL (base : Nat) (w0 w : World) (M1 M2 : Nat → Prop) (la lb : Nat) (ln pl : Int) (ms1 ms2 : List Msg) : Prop where
  a : LanesM w M1 la ln pl ms1
  b : LanesM w M2 lb ln pl ms2
  dis : ∀ x, M1 x → ¬ M2 x
  below : Below base w0 w
  le : base ≤ w.heap.size
  ge1 : ∀ x, M1 x → base ≤ x
  ge2 : ∀ x, M2 x → base ≤ x
section
variable {base : Nat} {w0 w w' : World} {M1 M2 : Nat → Prop} {la lb : Nat} {ln pl : Int} {ms1 ms2 ms' : List Msg}
theorem TwoL.next (h : TwoL base w0 w M1 M2 la lb ln pl ms1 ms2) (hb : Below w.heap.size w w') : TwoL base w0 w' M1 M2 la lb ln pl ms1 ms2 :=
  ⟨h.a.below hb, h.b.below hb, h.dis, h.below.trans (hb.mono h.le), Nat.le_trans h.le hb.size, h.ge1, h.ge2⟩
theorem TwoL.stepA (h : TwoL base w0 w M1 M2 la lb ln pl ms1 ms2) (hc : Chg M1 w w') (hL : LanesM w' (grow M1 w w') la ln pl ms') : TwoL base w0 w' (grow M1 w w') M2 la lb ln pl ms' ms2 :=
  ⟨hL, h.b.kept hc.size (fun x hx hlt => hc.block x hlt (fun h1 => h.dis x h1 hx)), fun x hx h2 => by rcases hx with hx | hx; exact h.dis x hx h2; exact (by have := h.b.lt x h2; omega), h.below.trans (hc.toBelow h.le h.ge1), Nat.le_trans h.le hc.size, fun x hx => by rcases hx with hx | hx; exact h.ge1 x hx; exact Nat.le_trans h.le hx.1, h.ge2⟩
theorem TwoL.stepB (h : TwoL base w0 w M1 M2 la lb ln pl ms1 ms2) (hc : Chg M2 w w') (hL : LanesM w' (grow M2 w w') lb ln pl ms') : TwoL base w0 w' M1 (grow M2 w w') la lb ln pl ms1 ms' :=
  ⟨h.a.kept hc.size (fun x hx hlt => hc.block x hlt (fun h2 => h.dis x hx h2)), hL, fun x hx h2 => by rcases h2 with h2 | h2; exact h.dis x hx h2; exact (by have := h.a.lt x hx; omega), h.below.trans (hc.toBelow h.le h.ge2), Nat.le_trans h.le hc.size, h.ge1, fun x hx => by rcases hx with hx | hx; exact h.ge2 x hx; exact Nat.le_trans h.le hx.1⟩
end
/-- Step i as it reads later; its words stand where they stood. -/
theorem StepsAt.atB {w0 w : World} {ao : Option Addr} {n cap : Nat} {qs : List (Value × St)} (h : StepsAt w0 (.slice ao n cap) qs) (hb : Below w0.heap.size w0 w) {i : Nat} (hi : i < qs.length) : ∃ g o a c, ao = some ⟨g, o, none⟩ ∧ g < w.heap.size ∧ IntsAt (fun b => b < w0.heap.size) w (.slice a qs[i].2.m.words.length c) qs[i].2.m.words ∧
    w.cell? ⟨g, o + i * 7, none⟩ = some (.int .i64 qs[i].2.k) ∧ w.cell? ⟨g, o + i * 7 + 1, none⟩ = some (.int .i64 qs[i].2.n) ∧ w.cell? ⟨g, o + i * 7 + 2, none⟩ = some (.slice a qs[i].2.m.words.length c) ∧ w.cell? ⟨g, o + i * 7 + 3, none⟩ = some (.int .i64 qs[i].2.m.lane) ∧ w.cell? ⟨g, o + i * 7 + 4, none⟩ = some (.int .i64 qs[i].2.m.stamp) ∧ w.cell? ⟨g, o + i * 7 + 5, none⟩ = some (.int .i64 qs[i].2.m.late) ∧ w.cell? ⟨g, o + i * 7 + 6, none⟩ = some (.int .i64 qs[i].2.m.seq) := by
  obtain ⟨g, o, a, c, e, hg, hw, d0, d1, d2, d3, d4, d5, d6⟩ := h.at_ hi
  exact ⟨g, o, a, c, e, Nat.lt_of_lt_of_le hg hb.size, hw.below hb, (hb.cell (p := ⟨g, _, none⟩) hg).trans d0, (hb.cell (p := ⟨g, _, none⟩) hg).trans d1, (hb.cell (p := ⟨g, _, none⟩) hg).trans d2, (hb.cell (p := ⟨g, _, none⟩) hg).trans d3, (hb.cell (p := ⟨g, _, none⟩) hg).trans d4, (hb.cell (p := ⟨g, _, none⟩) hg).trans d5, (hb.cell (p := ⟨g, _, none⟩) hg).trans d6⟩
theorem srt_drop_id {S : List Msg} (h : Srt lane1 S) (j : Nat) : sortM (S.drop j) = S.drop j := sortL_srt_id (by have := h; rw [← List.take_append_drop j S] at this; exact this.right)
theorem len_sort (ms : List Msg) : (sortM ms).length = ms.length := sortL_len ms
set_option maxHeartbeats 4000000 in
set_option maxRecDepth 100000 in
theorem flushes_c {w : World} {vs : Value} (lanes places : Int) {qs : List (Value × St)} (hs : StepsAt w vs qs) : Calls Try.prog 8 #[.int .i64 lanes, .int .i64 places, vs] w (LivesPost w) := by
  obtain ⟨a2, c2, rfl⟩ := hs.shape
  replace hs := hid hs
  have hmin := @minTwo
  have hmax := @maxTwo
  go_enter Try.func8, Try.ntmps8
  go_upto_region 4 with (first | (go_at_call 11; (with_reducible refine (lives_c _).mono ?_); rintro e w1 ⟨rfl, hb1⟩; replace hb1 := hid hb1) | (go_at_call 12; (with_reducible refine (new_c w1 lanes places).mono ?_); rintro e w2 ⟨la, rfl, hL, hb⟩; have hL2 := hid hL; have hB2 := hid (Below.next hb1.out hb hb1.out.size); have hz2 := hid hb.size; clear hL hb) | (go_at_call 12; (with_reducible refine (new_c w2 lanes places).mono ?_); rintro e w3 ⟨lb, rfl, hL, hb⟩; have hTL := hid (show TwoL w.heap.size w w3 (fun b => w1.heap.size ≤ b ∧ b < w2.heap.size) (fun b => w2.heap.size ≤ b ∧ b < w3.heap.size) la lb (lnT lanes) (plT places) [] [] from ⟨hL2.out.below hb, hL, fun x h1 h2 => by omega, Below.next hB2.out hb hB2.out.size, Nat.le_trans hB2.out.size hb.size, fun x h => Nat.le_trans hb1.out.size h.1, fun x h => Nat.le_trans hB2.out.size h.1⟩); clear hL hb))
  generalize (fun b => w1.heap.size ≤ b ∧ b < w2.heap.size) = M1 at hTL
  generalize (fun b => w2.heap.size ≤ b ∧ b < w3.heap.size) = M2 at hTL
  clear hL2 hB2 hz2 hb1
  go_wp2_with (first | (go_at_call 13; (with_reducible refine (early_c _ hs.out).mono ?_); rintro e w' ⟨v', rfl, hv', rfl⟩; have hl80 := hid (show (qs.take 80).length ≤ 80 by simp; omega); generalize qs.take 80 = ys at hv' hl80; obtain ⟨a3, c3, rfl⟩ := hv'.shape; replace hv' := hid hv'))
  have hl80 := hl80.out
  clear hs
  go_loopg [9] ys.length (fun g i wr => ∃ (k : Nat) (ms : List Msg) (M1 M2 : Nat → Prop), k ≤ ys.length ∧ g = ys.length - k ∧ i = .int .i64 k ∧ TwoL w.heap.size w wr M1 M2 la lb (lnT lanes) (plT places) ms ms)
  case atStart => exact ⟨0, [], M1, M2, Nat.zero_le _, rfl, rfl, hTL.out⟩
  case round =>
    clear hTL
    obtain ⟨k, ms, M1, M2, hk, hgk, rfl, hT⟩ := hrel
    by_cases hlt : k < ys.length
    · obtain ⟨-, hcl, hcm, -⟩ := (RecsAt.below goodS_below hv'.out hT.below).get
      obtain ⟨g, o, a, c, rfl, hg, hwi, d0, d1, d2, d3, d4, d5, d6⟩ := StepsAt.atB hv'.out hT.below hlt
      generalize ys[k].2 = q at hwi d0 d1 d2 d3 d4 d5 d6
      have hmsg := message_c q hwi
      have hcut := hid (show IntsAt (fun b => b < w.heap.size) wr (.slice a (cut8 q.m).words.length c) (cut8 q.m).words from hwi.cut 8)
      replace hT := hid hT
      replace hwi := hid hwi
      replace hmsg := hid hmsg
      go_upto_region 9 with (first | (go_at_call 20; (with_reducible refine (hmsg.out).mono ?_); rintro e w3 ⟨rfl, hb3⟩; have hT3 := hid (hT.out.next hb3); have hc3 := hid (hcut.out.below hb3); clear hb3 hT hcut))
      have hbA := (Below.refl w3.heap.size w3).alloc (Nat.le_refl _) (.cells #[.slice a (cut8 q.m).words.length c, .int .i64 q.m.lane, .int .i64 q.m.stamp, .int .i64 q.m.late, .int .i64 q.m.seq] 30)
      have hpA := hid (pts.newA w3 #[.slice a (cut8 q.m).words.length c, .int .i64 q.m.lane, .int .i64 q.m.stamp, .int .i64 q.m.late, .int .i64 q.m.seq] 30)
      have hTA := hid (hT3.out.next hbA)
      have hcA := hid (hc3.out.below hbA)
      have hM1 := hid hT3.out.a.lt
      have hM2 := hid hT3.out.b.lt
      have hge1 := hid hT3.out.ge1
      have hge2 := hid hT3.out.ge2
      have hsh := hid (show (cut8 q.m).words.length ≤ 17592186044416 by have := cut8_len q.m; omega)
      have hputA := (fun (u : World) (M : Nat → Prop) (l : Nat) (h : LanesM u M l (lnT lanes) (plT places) ms) (hw : IntsAt (fun b => b < w.heap.size) u (.slice a (cut8 q.m).words.length c) (cut8 q.m).words) => (show Calls Try.prog 16 #[.pointer (some ⟨l, 0, none⟩), .agg #[.slice a (cut8 q.m).words.length c, .int .i64 q.m.lane, .int .i64 q.m.stamp, .int .i64 q.m.late, .int .i64 q.m.seq]] u (PutPost u M l (lnT lanes) (plT places) ms (cut8 q.m)) from put_any h hw hsh.out))
      unfold PutPost at hputA
      generalize putL (lnT lanes) (plT places) ms (cut8 q.m) = ms' at hputA
      generalize putE (lnT lanes) (plT places) ms (cut8 q.m) = E at hputA
      replace hputA := hid hputA
      clear hbA d0 d1 d2 d3 d4 d5 d6 hT3 hc3
      generalize w3.alloc (.cells #[.slice a (cut8 q.m).words.length c, .int .i64 q.m.lane, .int .i64 q.m.stamp, .int .i64 q.m.late, .int .i64 q.m.seq] 30) = W at hpA hTA hcA ⊢
      generalize w3.heap.size = mb at hpA hM1 hM2 ⊢
      have y0 := hpA.out.cell 0
      have y1 := hpA.out.cell 1
      have y2 := hpA.out.cell 2
      have y3 := hpA.out.cell 3
      have y4 := hpA.out.cell 4
      have yl := hpA.out.lt
      simp only [List.getElem?_cons_zero, List.getElem?_cons_succ] at y0 y1 y2 y3 y4
      have hTd := hid (hTA.out.next (w' := W.drew) (Below.refl _ _).drew)
      have hcd := hid (hcA.out.below (w' := W.drew) (Below.refl _ _).drew)
      have hpd := hid (show pts W.drew mb _ 30 from hpA.out.drew)
      go_region_held3 (fun W => W.cell? ⟨mb, 0, none⟩ = some (.slice a (cut8 q.m).words.length c) ∧ W.cell? ⟨mb, 1, none⟩ = some (.int .i64 q.m.lane) ∧ W.cell? ⟨mb, 2, none⟩ = some (.int .i64 q.m.stamp) ∧ W.cell? ⟨mb, 3, none⟩ = some (.int .i64 q.m.late) ∧ W.cell? ⟨mb, 4, none⟩ = some (.int .i64 q.m.seq))
        (first | go_keep | ((try dsimp only); (repeat' apply And.intro) <;> go_keep))
        (first | (go_at_call 16; (with_reducible refine (hputA.out W.drew M1 la hTd.out.a hcd.out).mono ?_); rintro e w4 ⟨rfl, hL4, hC4⟩; have hp4 := hpd.out.chg hC4 (fun h => by have := hM1.out _ h; omega); have u0 := hp4.cell 0; have u1 := hp4.cell 1; have u2 := hp4.cell 2; have u3 := hp4.cell 3; have u4 := hp4.cell 4; simp only [List.getElem?_cons_zero, List.getElem?_cons_succ] at u0 u1 u2 u3 u4; have hT4 := hid (hTd.out.stepA hC4 hL4); have hc4 := hid (hcd.out.kept hC4.size (fun b hb hlt => hC4.block b hlt (fun hm => by have := hge1.out b hm; omega))); have hp4' := hid hp4; have hM24 := hid hTd.out.b.lt; clear hL4 hC4 hp4) | (go_at_call 16; (with_reducible refine (hputA.out w4 M2 lb hT4.out.b hc4.out).mono ?_); rintro e w5 ⟨rfl, hL5, hC5⟩; have hp5 := hp4'.out.chg hC5 (fun h => by have := hM2.out _ h; omega); have v0 := hp5.cell 0; have v1 := hp5.cell 1; have v2 := hp5.cell 2; have v3 := hp5.cell 3; have v4 := hp5.cell 4; simp only [List.getElem?_cons_zero, List.getElem?_cons_succ] at v0 v1 v2 v3 v4; have hT5 := hid (hT4.out.stepB hC5 hL5); clear hL5 hC5 hp5))
      go_wp2
      go_roundg (ys.length - (k + 1))
      case rel => exact ⟨k + 1, _, _, _, by omega, rfl, by go_num, hT5.out⟩
      case measure => omega
    · obtain rfl : k = ys.length := by omega
      have hfl := hid (flushTell hT.a)
      have hdis := hid hT.dis
      have hl2 := hid hT.b.lt
      have hS24 : (sortM ms).length ≤ 24 := by rw [len_sort]; exact hT.a.inv.len
      have hsrt : Srt lane1 (sortM ms) := sortL_srt ms
      have hsm : sortM ms = (sortM ms).drop 0 := rfl
      generalize hS : sortM ms = S at hfl hS24 hsrt hsm
      replace hS := hid hS
      replace hsrt := hid hsrt
      clear hsm
      replace hT := hid hT
      go_wp2_with (first | (go_at_call 30; (with_reducible refine (hfl.out).mono ?_); rintro e w4 ⟨v, rfl, ⟨ps, hps, hv⟩, hL4, hC4⟩; obtain ⟨a4, c4, rfl⟩ := hv.shape; have hpl : ps.length = S.length := (by have := congrArg List.length hps; simpa using this); rw [hpl]; replace hpl := hid hpl; replace hps := hid hps; have hT4 := hid (hT.out.stepA hC4 hL4); replace hv := hid hv; clear hL4 hC4))
      have hT4 := hT4.out
      have hv4 := hv.out
      clear hfl hdis hl2 hT hv
      generalize grow M1 wr w4 = M1' at hT4 hv4
      go_loopg [12] S.length (fun g i wr => ∃ (j : Nat) (ms2 : List Msg) (M2 : Nat → Prop), j ≤ S.length ∧ g = S.length - j ∧ i = .int .i64 j ∧ sortM ms2 = S.drop j ∧ TwoL w.heap.size w wr M1' M2 la lb (lnT lanes) (plT places) [] ms2 ∧ MsgsAt M1' M1' wr (.slice a4 S.length c4) ps)
      case atStart => exact ⟨0, ms, M2, Nat.zero_le _, rfl, rfl, hS.out, hT4, by rw [hpl.out] at *; exact hv4⟩
      case round =>
        clear hT4 hv4
        obtain ⟨j, ms2, M3, hj, hgj, rfl, he, hT, hR⟩ := hrel
        by_cases hjl : j < S.length
        · have hjp : j < ps.length := by have := hpl.out; omega
          obtain ⟨g, o, a, c, rfl, hg1, -, hat, hiw⟩ := hR.at5 hjp
          have hmm : ps[j].2 = S[j] := by have := congrArg (fun l => l[j]?) hps.out; simpa [hjl, hjp] using this
          rw [hmm] at hat hiw
          clear hmm
          rw [List.drop_eq_getElem_cons hjl] at he
          obtain ⟨-, hcl, hcm, -⟩ := hR.get
          have hdr := hid (srt_drop_id hsrt.out (j + 1))
          generalize S[j] = m2 at hat hiw he
          have htk := hid (take_some hT.b he)
          replace he := hid he
          replace hT := hid hT
          replace hR := hid hR
          replace hiw := hid hiw
          replace hat := hid hat
          go_upto_region 16 with (first | (go_at_call 18; (with_reducible refine (htk.out).mono ?_); rintro e w7 ⟨⟨a7, c7, rfl, hi7⟩, hL7, hC7⟩; have hat7 := hid (hat.out.chg hC7 (hT.out.dis _ hg1)); have hR7 := hid (hR.out.kept hC7.size (fun b hb hlt => hC7.block b hlt (fun h2 => hT.out.dis b (hb.elim id id) h2))); have hiw7 := hid (hiw.out.kept hC7.size (fun b hb hlt => hC7.block b hlt (fun h2 => hT.out.dis b hb h2))); have hT7 := hid (hT.out.stepB hC7 hL7); replace hi7 := hid hi7; clear hL7 hC7 hT hR hiw hat))
          have hbA := (Below.refl w7.heap.size w7).alloc (Nat.le_refl _) (.cells #[.slice a7 m2.words.length c7, .int .i64 m2.lane, .int .i64 m2.stamp, .int .i64 m2.late, .int .i64 m2.seq] 30)
          have hA : At5 (w7.alloc (.cells #[.slice a7 m2.words.length c7, .int .i64 m2.lane, .int .i64 m2.stamp, .int .i64 m2.late, .int .i64 m2.seq] 30)) w7.heap.size 0 (.slice a7 m2.words.length c7) m2 := At5.of_pts (pts.newA w7 _ _)
          have hB := hat7.out.below hbA
          have hT8 := hid (hT7.out.next hbA)
          have hR8 := hid (hR7.out.below hbA)
          have hiw8 := hiw7.out.below hbA
          have hi8 := hi7.out.below hbA
          generalize w7.alloc (.cells #[.slice a7 m2.words.length c7, .int .i64 m2.lane, .int .i64 m2.stamp, .int .i64 m2.late, .int .i64 m2.seq] 30) = W8 at hA hB hT8 hR8 hiw8 hi8 ⊢
          generalize w7.heap.size = mb at hA ⊢
          have hone := hid (fun (w : World) (h1 : Below W8.heap.size W8 w) => R2.one_eq (hi8.below h1) (hiw8.below h1) rfl)
          obtain ⟨x0, x1, x2, x3, x4, hal⟩ := hA
          obtain ⟨y0, y1, y2, y3, y4, hbl⟩ := hB
          simp only [Nat.zero_add] at x0 x1 x2 x3 x4
          clear hbA hiw8 hi8 hT7 hR7 hiw7 hi7 hat7
          have hju : (j : Int) < (S.length : Int) := by omega
          go_region_held3 (fun W => W.cell? ⟨mb, 0, none⟩ = some (.slice a7 m2.words.length c7) ∧ W.cell? ⟨mb, 1, none⟩ = some (.int .i64 m2.lane) ∧ W.cell? ⟨mb, 2, none⟩ = some (.int .i64 m2.stamp) ∧ W.cell? ⟨mb, 3, none⟩ = some (.int .i64 m2.late) ∧ W.cell? ⟨mb, 4, none⟩ = some (.int .i64 m2.seq) ∧ W.cell? ⟨g, o + j * 5, none⟩ = some (.slice a m2.words.length c) ∧ W.cell? ⟨g, o + j * 5 + 1, none⟩ = some (.int .i64 m2.lane) ∧ W.cell? ⟨g, o + j * 5 + 2, none⟩ = some (.int .i64 m2.stamp) ∧ W.cell? ⟨g, o + j * 5 + 3, none⟩ = some (.int .i64 m2.late) ∧ W.cell? ⟨g, o + j * 5 + 4, none⟩ = some (.int .i64 m2.seq))
            (first | go_keep | ((try dsimp only); (repeat' apply And.intro) <;> go_keep))
            (first | (go_at_call 27; (with_reducible refine (hone.out _ (Below.refl _ _).drew).mono ?_); rintro e w9 ⟨rfl, hb9⟩; obtain ⟨hc9, hf9, hz9⟩ := bcellLe (W := W8.drew) W8.heap.size (Nat.le_refl _) hb9; have u0 := (hc9 _ _ hal).trans x0; have u1 := (hc9 _ _ hal).trans x1; have u2 := (hc9 _ _ hal).trans x2; have u3 := (hc9 _ _ hal).trans x3; have u4 := (hc9 _ _ hal).trans x4; have t0 := (hc9 _ _ hbl).trans y0; have t1 := (hc9 _ _ hbl).trans y1; have t2 := (hc9 _ _ hbl).trans y2; have t3 := (hc9 _ _ hbl).trans y3; have t4 := (hc9 _ _ hbl).trans y4; have hb9 := hid (Below.ofDrew hb9)))
          go_wp2
          go_roundg (S.length - (j + 1))
          case rel => exact ⟨j + 1, S.drop (j + 1), _, by omega, rfl, by go_num, hdr.out, hT8.out.next hb9.out, hR8.out.below hb9.out⟩
          case measure => omega
        · obtain rfl : j = S.length := by omega
          rw [List.drop_length] at he
          obtain rfl : ms2 = [] := List.length_eq_zero_iff.1 (by rw [← len_sort, he]; rfl)
          clear he hR
          replace hT := hid hT
          have hroom := hid (fun (w : World) (M : Nat → Prop) (l : Nat) (h : LanesM w M l (lnT lanes) (plT places) []) (k : Int) (h0 : 0 ≤ k) (h1 : k < lnT lanes) => show Calls Try.prog 15 #[.pointer (some ⟨l, 0, none⟩), .int .i64 k] w (RoomPost w (plT places)) from (show roomT (lnT lanes) (plT places) [] k = plT places by unfold roomT; rw [if_pos (by unfold isT; simp; omega)]; simp [ofM]) ▸ room_c h k)
          unfold RoomPost at hroom
          have hln := hid (show lnT lanes ≤ 3 ∧ 1 ≤ lnT lanes by unfold lnT; omega)
          go_wp2
          go_loopg [15] 3 (fun g i wr => ∃ (k : Nat), (k : Int) ≤ lnT lanes ∧ g = 3 - k ∧ i = .int .i64 k ∧ TwoL w.heap.size w wr M1' M3 la lb (lnT lanes) (plT places) [] [])
          case atStart => exact ⟨0, by have := hln.out; omega, rfl, rfl, hT.out⟩
          case round =>
            clear hT
            obtain ⟨k, hk, hgk, rfl, hT⟩ := hrel
            have hmm : min (max lanes 1) 3 = lnT lanes := rfl
            have hpp : min (max places 1) 8 = plT places := rfl
            by_cases hkl : (k : Int) < lnT lanes
            · have hr := hid (hroom.out _ _ _ hT.a k (by omega) hkl)
              replace hT := hid hT
              have hkk : (k : Int) < 3 := by have := hln.out; omega
              go_wp2_with (first | (go_at_call 15; (with_reducible refine (hr.out).mono ?_); rintro e w7 ⟨rfl, hb7⟩; have hT7 := hid (hT.out.next hb7); clear hb7))
              go_roundg (3 - (k + 1))
              case rel => exact ⟨k + 1, by omega, rfl, by go_num, hT7.out⟩
              case measure => omega
            · have hla := hid (len_c hT.a)
              have hlb := hid (len_c hT.b)
              have hfl := hid (flushTell hT.a)
              replace hT := hid hT
              go_wp2_with (first | (go_at_call 19; (with_reducible refine (hla.out).mono ?_); rintro e w' ⟨rfl, rfl⟩; simp only [List.length_nil]) | (go_at_call 19; (with_reducible refine (hlb.out).mono ?_); rintro e w' ⟨rfl, rfl⟩; simp only [List.length_nil]) | (go_at_call 30; (with_reducible refine (hfl.out).mono ?_); rintro e w7 ⟨v7, rfl, ⟨p7, hp7, hv7⟩, hL7, hC7⟩; obtain ⟨a7, c7, rfl⟩ := hv7.shape; have hpl7 : p7.length = 0 := (by have := congrArg List.length hp7; simpa [sortM, sortL] using this); rw [hpl7]; have hT7 := hid (hT.out.stepA hC7 hL7); clear hL7 hC7 hv7))
              go_ret
              exact ⟨rfl, hT7.out.below⟩
end Go.Proofs.Ytbbhhjoohfkanaa.La
