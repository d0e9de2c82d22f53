/- DERIVED. The small helpers of the statements on the router: early, kind, the document's example; Fits; a message offered, a process that asks, in words on gate and port together. No statement is proved here. -/
import Derived.Test.YtggfallodkbgcaaRoutW
import Derived.Test.YtggfallodkbgcaaK4
import Derived.Test.YtggfallodkbgcaaRefMsg
namespace Go.Proofs.Ytggfallodkbgcaa.Ro
set_option linter.unusedVariables false
set_option linter.unusedSimpArgs false
open Go.RowKit Go.Proofs.Ytggfallodkbgcaa.K Go.Proofs.Ytggfallodkbgcaa.Lb Go.Proofs.Ytggfallodkbgcaa.La Go.Proofs.Ytggfallodkbgcaa.Cf Go.Proofs.Ytggfallodkbgcaa.Gt Go.Proofs.Ytggfallodkbgcaa.Qu Go.Proofs.Ytggfallodkbgcaa.Wh
/-- A step of a script. -/
structure RSt where
  k : Int
  lane : Int
  n : Int
  ticks : Int
def encR (q : RSt) : List Value := [.int .i64 q.k, .int .i64 q.lane, .int .i64 q.n, .int .i64 q.ticks]
abbrev RStepsAt := RecsAt encR 4 (fun _ _ => True)
theorem rearly_c {w0 : World} (w : World) {v : Value} {l : List RSt} (h : RStepsAt w0 v l) : Calls Try.prog 11 #[v] w fun e w' => ∃ v', e = .returned v' ∧ RStepsAt w0 v' (l.take 80) ∧ w = w' := by
  obtain ⟨ao, cap, rfl, ht⟩ := h.take 80
  obtain ⟨-, hlc, hcm, -⟩ := h.get
  have hmin := @minTwo
  have hmn : min (l.length : Int) 80 ≤ cap := by omega
  have hmz : 0 ≤ min (l.length : Int) 80 := by omega
  have e80 := hid (show (l.take 80).length = (min (l.length : Int) 80).toNat by simp; omega)
  replace ht := hid ht
  replace h := hid h
  go_enter Try.func11, Try.ntmps11
  go_wp2
  go_ret
  refine ⟨_, ?_, ht.out, rfl⟩
  show Ending.returned (.slice ao _ cap) = _
  rw [e80.out]
def kindR (k : Int) : Int := (k % 18446744073709551616) % 8
theorem kindR_lt (k : Int) : 0 ≤ kindR k ∧ kindR k < 8 := by unfold kindR; omega
theorem rkind_c (w : World) (q : RSt) : Calls Try.prog 12 #[.agg #[.int .i64 q.k, .int .i64 q.lane, .int .i64 q.n, .int .i64 q.ticks]] w fun e w' => e = .returned (.int .i64 (kindR q.k)) ∧ Below w.heap.size w w' := by
  go_enter Try.func12, Try.ntmps12
  go_wp2
  go_ret
  exact ⟨rint (by rw [IntKind.wrap_u64, Int.tmod_eq_emod_of_nonneg (by omega)]; unfold wrap64 kindR; omega), (Below.refl _ _).alloc (Nat.le_refl _) _⟩
theorem RStepsAt.atC {w0 w : World} {ao : Option Addr} {n cap : Nat} {qs : List RSt} (h : RStepsAt w0 (.slice ao n cap) qs) (hb : Below w0.heap.size w0 w) {i : Nat} (hi : i < qs.length) : ∃ g o, ao = some ⟨g, o, none⟩ ∧ g < w.heap.size ∧
    w.cell? ⟨g, o + i * 4, none⟩ = some (.int .i64 qs[i].k) ∧ w.cell? ⟨g, o + i * 4 + 1, none⟩ = some (.int .i64 qs[i].lane) ∧ w.cell? ⟨g, o + i * 4 + 2, none⟩ = some (.int .i64 qs[i].n) ∧ w.cell? ⟨g, o + i * 4 + 3, none⟩ = some (.int .i64 qs[i].ticks) := by
  obtain ⟨-, -, -, hget⟩ := h.get
  obtain ⟨g, o, e, hg, hw, hc⟩ := hget i hi
  have hcc : ∀ j, w.cell? ⟨g, j, none⟩ = w0.cell? ⟨g, j, none⟩ := fun j => hb.cell (p := ⟨g, j, none⟩) hg
  exact ⟨g, o, e, Nat.lt_of_lt_of_le hg hb.size, by rw [hcc]; exact hc 0 (by omega), by rw [hcc]; exact hc 1 (by omega), by rw [hcc]; exact hc 2 (by omega), by rw [hcc]; exact hc 3 (by omega)⟩
section
variable {w w' : World} {M W : Nat → Prop} {gb pb : Nat} {g : Gte} {p : Prt}
/-- A call that turned gate and port. -/
def TurnR (w : World) (M W : Nat → Prop) (gb pb : Nat) (g' : Gte) (p' : Prt) (M' W' : Nat → Prop) (w' : World) : Prop :=
  RS w' M' W' gb pb g' p' ∧ (∀ b, M' b → M b ∨ w.heap.size ≤ b) ∧ (∀ b, M b → M' b) ∧ (∀ b, W b → W' b) ∧ (∀ b, W' b → W b ∨ w.heap.size ≤ b) ∧ Chg M w w'
theorem TurnR.from {w1 : World} {g' : Gte} {p' : Prt} {M' W' : Nat → Prop} (hb : Below w.heap.size w w1) (h : TurnR w1 M W gb pb g' p' M' W' w') : TurnR w M W gb pb g' p' M' W' w' :=
  ⟨h.1, fun b hb' => (h.2.1 b hb').imp id (fun h => Nat.le_trans hb.size h), h.2.2.1, h.2.2.2.1, fun b hb' => (h.2.2.2.2.1 b hb').imp id (fun h => Nat.le_trans hb.size h), (Chg.of_below hb).trans h.2.2.2.2.2 (fun i hi => .inl hi)⟩
theorem RS.gate (h : RS w M W gb pb g p) : ∃ Mg, GateF w Mg W gb g := let ⟨Mg, _, h, _⟩ := h; ⟨Mg, h⟩
theorem RS.port (h : RS w M W gb pb g p) : ∃ Mp, PortF w Mp W pb p := let ⟨_, Mp, _, h, _⟩ := h; ⟨Mp, h⟩
theorem RS.wd {base : Nat} {w0 : World} {g' : Gte} {p' : Prt} {M' W' : Nat → Prop} (hW : Wd base w0 w M) (h : TurnR w M W gb pb g' p' M' W' w') : Wd base w0 w' M' := hW.turn h.2.2.2.2.2 h.2.1 (fun b hb => h.1.lt b (.inl hb))
def OfferR (w : World) (M W : Nat → Prop) (gb pb : Nat) (p : Prt) (r : Gte × Msg × Int) (e : Ending) (w' : World) : Prop :=
  ∃ a c M' W', e = .returned (.tuple #[.agg #[.slice a r.2.1.words.length c, .int .i64 r.2.1.lane, .int .i64 r.2.1.stamp, .int .i64 r.2.1.late, .int .i64 r.2.1.seq], .int .i64 r.2.2]) ∧ IntsAt W' w' (.slice a r.2.1.words.length c) r.2.1.words ∧ TurnR w M W gb pb r.1 p M' W' w'
theorem RS.offerLit (h : RS w M W gb pb g p) (x mode lane now round : Int) (hs : g.seq < 1000000) {n : Nat} (hn : n = w.heap.size) : Calls Try.prog 13 #[.pointer (some ⟨gb, 0, none⟩), .int .i64 mode, .int .i64 lane, .slice (some ⟨n, 0, none⟩) 1 1, .int .i64 now, .int .i64 round] (w.alloc (.cells #[.int .i64 x] 3)) (OfferR w M W gb pb p (offerT g mode lane [x] now round)) := by
  subst hn
  have hb := (Below.refl w.heap.size w).alloc (Nat.le_refl _) (.cells #[.int .i64 x] 3)
  obtain ⟨Mg, Mp, hG, hP, hd, h1, h2, h3, h4⟩ := h.below hb
  have hl := h.lt
  have hi : IntsAt (fun b => ¬ Mg b ∧ b < (w.alloc (.cells #[.int .i64 x] 3)).heap.size) (w.alloc (.cells #[.int .i64 x] 3)) (.slice (some ⟨w.heap.size, 0, none⟩) 1 1) [x] :=
    by
      refine IntsAt.of_pts (xs := [x]) (cap := 1) (ex := []) (pts.newA w #[.int .i64 x] 3) ?_ (by simp) (by unfold maxLen; omega)
      exact ⟨fun hm => by have := hl _ (.inl (h1 _ hm)); omega, by simp⟩
  refine (offer_f hG hi (by simp) hs mode lane now round).mono ?_
  rintro e w' ⟨a, c, M', k1, k2, k3, k4, k5, k6⟩
  obtain ⟨-, -, k7, k8, k9⟩ := RS.stepG hG hP hd h1 h2 h3 h4 k3 k4 (fun b hb => .inl hb) newW_sub k6
  exact ⟨a, c, _, _, k1, k2, TurnR.from hb ⟨k7, k8, fun b hb => .inl hb, fun b hb => .inl hb, newW_sub, k9⟩⟩
def AskR (w : World) (M W : Nat → Prop) (gb pb : Nat) (g : Gte) (r : Prt × Msg × Int) (e : Ending) (w' : World) : Prop :=
  ∃ a c M' W', e = .returned (.tuple #[.agg #[.slice a r.2.1.words.length c, .int .i64 r.2.1.lane, .int .i64 r.2.1.stamp, .int .i64 r.2.1.late, .int .i64 r.2.1.seq], .int .i64 r.2.2]) ∧ IntsAt W' w' (.slice a r.2.1.words.length c) r.2.1.words ∧ TurnR w M W gb pb g r.1 M' W' w'
theorem RS.ask (h : RS w M W gb pb g p) {x : Int} (hx : isInt x) (u now : Int) (hs : p.s < 1000000) (hrl : p.row.length < 1000000) :
    Calls Try.prog 22 #[.pointer (some ⟨pb, 0, none⟩), .int .i64 x, .int .i64 u, .int .i64 now] w (AskR w M W gb pb g (askP p x u now)) := by
  obtain ⟨Mg, Mp, hG, hP, hd, h1, h2, h3, h4⟩ := h
  refine (ask_x hP hx u now hs hrl).mono ?_
  rintro e w' ⟨a, c, k1, k2, M', k3, k4, k5, k6⟩
  obtain ⟨k7, k8, k9⟩ := RS.stepP hG hP hd h1 h2 h3 h4 k3 k4 (fun b hb => .inl hb) newW_sub k6
  exact ⟨a, c, _, _, k1, k2.mono (fun b hb _ => .inl hb), k7, k8, fun b hb => .inl hb, fun b hb => .inl hb, newW_sub, k9⟩
theorem RS.new (hG : GateF w M (fun _ => False) gb g) {Mp : Nat → Prop} (hb : Below w.heap.size w w') (hP : PortF w' Mp (fun _ => False) pb p) (hge : ∀ b, Mp b → w.heap.size ≤ b) : RS w' (fun b => M b ∨ Mp b) (fun _ => False) gb pb g p :=
  ⟨M, Mp, hG.below hb, hP, fun b hb hp => by have := hG.lt b (.inl hb); have := hge b hp; omega, fun b hb => .inl hb, fun b hb => .inr hb, fun b hb' => hb'.elim (fun h => Nat.lt_of_lt_of_le (hG.lt b (.inl h)) hb.size) (fun h => hP.lt b (.inl h)), fun _ _ h => h⟩
theorem sortM_len (ms : List Msg) : (sortM ms).length = ms.length := Sp.sortL_len (key := lane1) ms
theorem cnt_step {l : List Msg} (f : Msg → Bool) {k : Nat} (h : k < l.length) : ((l.take (k + 1)).filter f).length = ((l.take k).filter f).length + (if f l[k] then 1 else 0) := by
  rw [List.take_succ_eq_append_getElem h, List.filter_append, List.length_append]
  cases hf : f l[k] <;> simp [hf]
set_option maxHeartbeats 1000000 in
theorem fits_c (h : GateF w M W gb g) (pv : Value) (now : Int) : Calls Try.prog 17 #[.pointer (some ⟨gb, 0, none⟩), pv, .int .i64 now] w fun e w' => e = .returned (.int .i64 ((restT now g.ms).length : Nat)) ∧ Below w.heap.size w w' := by
  have hal := hid (gall_c h.toM)
  have h24 := hid (show (sortM g.ms).length ≤ 24 by rw [sortM_len]; have := h.inv.len; omega)
  unfold restT
  generalize sortM g.ms = S at hal h24 ⊢
  obtain ⟨f, hf⟩ : ∃ f : Msg → Bool, f = fun m => !lateT now m.late := ⟨_, rfl⟩
  rw [← hf]
  have hfl := hid (fun (m : Msg) => show lateT now m.late = !f m by rw [hf]; simp)
  clear h hf
  go_enter Try.func17, Try.ntmps17
  go_wp2_with (first | (go_at_call 14; (with_reducible refine (hal.out).mono ?_); rintro e w1 ⟨v, rfl, ⟨ps, hps, hms⟩, hb1⟩; obtain ⟨va, vc, rfl⟩ := hms.shape; have hln := hid (show ps.length = S.length by rw [← hps]; simp); replace hms := hid hms; replace hb1 := hid hb1; replace hps := hid hps))
  go_loopg [7, 9, 13] ps.length (fun gg n s9 i wr => ∃ k : Nat, k ≤ ps.length ∧ gg = ps.length - k ∧ n = .int .i64 (((S.take k).filter f).length : Nat) ∧ i = .int .i64 k ∧ Below w1.heap.size w1 wr)
  case atStart => exact ⟨0, Nat.zero_le _, rfl, rfl, rfl, Below.refl _ _⟩
  case round =>
    obtain ⟨k, hk, hgg, rfl, rfl, hb⟩ := hrel
    have hmw := hid (hms.out.below hb)
    have hle : ((S.take k).filter f).length ≤ 24 := Nat.le_trans (List.length_filter_le _ _) (by rw [List.length_take]; have := h24.out; omega)
    by_cases hlt : k < ps.length
    · obtain ⟨xg, xo, a, c, rfl, hgm, -, hat, hiw⟩ := hmw.out.at5 hlt
      have hkS : k < S.length := by have := hln.out; omega
      have hm : ps[k].2 = S[k] := by have := hps.out; subst this; simp
      rw [hm] at hat hiw
      have hst := cnt_step f hkS
      have hfk := hfl.out S[k]
      generalize S[k] = m at hat hiw hst hfk
      have d1 : decide ((k : Int) < ps.length) = true := decide_eq_true (by omega)
      obtain ⟨x0, x1, x2, x3, x4, xl⟩ := hat
      obtain ⟨-, hlc, hlm, -⟩ := hmw.out.get
      have hbz := hid (Below.next hb ((Below.refl wr.heap.size wr).alloc (Nat.le_refl _) (.cells #[.slice a m.words.length c, .int .i64 m.lane, .int .i64 m.stamp, .int .i64 m.late, .int .i64 m.seq] 37)) hb.size)
      generalize hN : ((S.take k).filter f).length = N at hst hle ⊢
      generalize hN2 : ((S.take (k + 1)).filter f).length = N2 at hst
      replace hN := hid hN
      clear hiw hb hm
      cases hff : f m with
      | true =>
        rw [hff] at hfk hst
        simp only [if_true] at hst
        replace hN2 := hid hN2
        replace hst := hid hst
        replace hff := hid hff
        go_wp2_with (first | (go_at_call 40; (with_reducible refine (late_c _ now m.late).mono ?_); rw [hfk]; rintro e w2 ⟨rfl, rfl⟩))
        go_roundg (ps.length - (k + 1))
        case rel => exact ⟨k + 1, by omega, rfl, by rw [hN2.out, hst.out]; go_num, by go_num, hbz.out⟩
        case measure => omega
      | false =>
        rw [hff] at hfk hst
        simp only [Bool.false_eq_true, if_false, Nat.add_zero] at hst
        replace hN2 := hid hN2
        replace hst := hid hst
        replace hff := hid hff
        go_wp2_with (first | (go_at_call 40; (with_reducible refine (late_c _ now m.late).mono ?_); rw [hfk]; rintro e w2 ⟨rfl, rfl⟩))
        go_roundg (ps.length - (k + 1))
        case rel => exact ⟨k + 1, by omega, rfl, by rw [hN2.out, hst.out], by go_num, hbz.out⟩
        case measure => omega
    · have d1 : decide ((k : Int) < ps.length) = false := decide_eq_false (by omega)
      have hkl : ((S.take k).filter f).length = (S.filter f).length := by rw [List.take_of_length_le (by have := hln.out; omega)]
      have hbf := hid (Below.next hb1.out hb hb1.out.size)
      rw [hkl]
      clear hmw hb
      go_wp2
      go_ret
      exact ⟨rfl, hbf.out⟩
theorem RS.step (h : RS w M W gb pb g p) {now : Int} {R : Gte × Prt × Int × Int × Msg} (e : stepR g p now = R) : Calls Try.prog 15 #[.pointer (some ⟨gb, 0, none⟩), .pointer (some ⟨pb, 0, none⟩), .int .i64 now] w (StepRP w M W gb pb (outT now g.ms) R) := by subst e; exact rstep_c h now
end
def LivesPost (w : World) (e : Ending) (w' : World) : Prop := e = .returned (.bool true) ∧ Below w.heap.size w w'
def m0L : Msg := ⟨[7], 0, 0, 5, 1⟩
def plainR : Chan := ⟨1, 0, 1, 1, 0, 1, 1, 1, 5, 0, 9⟩
def g0L : Gte := ⟨plainR, [m0L], ⟨0, 9, 8, 0⟩, 1⟩
def g1L' : Gte := ⟨plainR, [], ⟨0, 9, 8, 0⟩, 1⟩
def p1L : Prt := ⟨1, [m0L], [], [], 0⟩
theorem rl1 : offerT ⟨plainR, [], newB plainR.rate plainR.cap, 0⟩ 0 0 [7] 0 0 = (g0L, m0L, 0) := by rfl
theorem rl2 : (restT 0 g0L.ms).length = 1 := by rfl
theorem rl3 : stepR g0L (newP 1) 0 = (g1L', p1L, 1, 0, m0L) := by rfl
theorem rl4 : stepR g1L' p1L 0 = (g1L', p1L, 0, 0, La.zeroM) := by rfl
set_option maxHeartbeats 4000000 in
theorem lives_c (w : World) : Calls Try.prog 7 #[] w (LivesPost w) := by
  have hgn : Hid (∀ u : World, Calls Try.prog 9 #[.agg #[.int .i64 1, .int .i64 0, .int .i64 1, .int .i64 1, .int .i64 0, .int .i64 1, .int .i64 1, .int .i64 1, .int .i64 5, .int .i64 0, .int .i64 9]] u fun e w' => ∃ gb M, e = .returned (.pointer (some ⟨gb, 0, none⟩)) ∧ GateF w' M (fun _ => False) gb ⟨plainR, [], newB plainR.rate plainR.cap, 0⟩ ∧ (∀ b, M b → u.heap.size ≤ b) ∧ Below u.heap.size u w') := hid (fun u => gnew_f u plainR)
  go_enter Try.func7, Try.ntmps7
  have hbk := hid ((Below.refl w.heap.size w).alloc (Nat.le_refl _) (.cells #[.int .i64 1, .int .i64 0, .int .i64 1, .int .i64 1, .int .i64 0, .int .i64 1, .int .i64 1, .int .i64 1, .int .i64 5, .int .i64 0, .int .i64 9] 23))
  have hkp := pts.newA w #[.int .i64 1, .int .i64 0, .int .i64 1, .int .i64 1, .int .i64 0, .int .i64 1, .int .i64 1, .int .i64 1, .int .i64 5, .int .i64 0, .int .i64 9] 23
  go_upto_region 3 with (first | (go_at_call 9; (with_reducible refine (hgn.out _).mono ?_); rintro e w1 ⟨gb, Mg, rfl, hG1, hgeG, hb1⟩; replace hG1 := hid hG1; replace hgeG := hid hgeG; replace hb1 := hid hb1) | (go_at_call 10; (with_reducible refine (new_x _ 1).mono ?_); rintro e w2 ⟨pb, Mp, rfl, hP2, hgeP, hb2⟩; have hR2 := hid (RS.new hG1.out hb2 hP2 hgeP); have hW2 := hid (show Wd w.heap.size w w2 (fun b => Mg b ∨ Mp b) from ⟨Below.next (Below.next hbk.out hb1.out hbk.out.size) hb2 (Nat.le_trans hbk.out.size hb1.out.size), fun b h => h.elim (fun h => Nat.le_trans hbk.out.size (hgeG.out b h)) (fun h => Nat.le_trans (Nat.le_trans hbk.out.size hb1.out.size) (hgeP b h)), fun b h => hR2.out.lt b (.inl h), Nat.le_trans (Nat.le_trans hbk.out.size hb1.out.size) hb2.size⟩); clear hP2 hgeP hb2))
  generalize (fun b => Mg b ∨ Mp b) = M2 at hR2 hW2
  clear hG1 hgeG hb1 hbk hkp hgn
  have hfit := hid (fun (u : World) (M W : Nat → Prop) (h : RS u M W gb pb g0L (newP 1)) => show Calls Try.prog 17 #[.pointer (some ⟨gb, 0, none⟩), .pointer (some ⟨pb, 0, none⟩), .int .i64 0] u fun e w' => e = .returned (.int .i64 1) ∧ Below u.heap.size u w' from by obtain ⟨Mg, hG⟩ := h.gate; have := fits_c hG (.pointer (some ⟨pb, 0, none⟩)) 0; rw [rl2] at this; exact this)
  have hln := hid (fun (u : World) (M W : Nat → Prop) (h : RS u M W gb pb g1L' p1L) => show Calls Try.prog 21 #[.pointer (some ⟨pb, 0, none⟩)] u fun e w' => e = .returned (.int .i64 1) ∧ u = w' from by obtain ⟨Mp, hP⟩ := h.port; exact len_x hP)
  go_upto_region 5 with (first | (go_at_call 13; (with_reducible refine (hR2.out.offerLit 7 0 0 0 0 (by decide) rfl).mono ?_); rw [rl1]; rintro e w3 ⟨a3, c3, M3, W3, rfl, -, hT⟩; have hR3 := hid hT.1; have hW3 := hid (RS.wd hW2.out hT); clear hT) | (go_at_call 17; (with_reducible refine (hfit.out _ _ _ hR3.out).mono ?_); rintro e w4 ⟨rfl, hb⟩; have hR4 := hid (hR3.out.below hb); have hW4 := hid (hW3.out.next hb); clear hb))
  go_upto_region 6 with (first | (go_at_call 15; (with_reducible refine (RS.step hR4.out rl3).mono ?_); rintro e w5 ⟨lv5, qs5, a5, c5, M5, W5, rfl, -, -, ho, -, -, hT⟩; obtain ⟨va5, vc5, rfl⟩ := K.own_shape ho; clear ho; have hR5 := hid hT.1; have hW5 := hid (RS.wd hW4.out hT); clear hT) | (go_at_call 15; (with_reducible refine (RS.step hR5.out rl4).mono ?_); rintro e w6 ⟨lv6, qs6, a6, c6, M6, W6, rfl, -, -, ho, -, -, hT⟩; obtain ⟨va6, vc6, rfl⟩ := K.own_shape ho; clear ho; have hR6 := hid hT.1; have hW6 := hid (RS.wd hW5.out hT); clear hT))
  have hz1 := (pts.newA w6 #[.int .i64 1, .int .i64 0, .slice a5 m0L.words.length c5, .int .i64 m0L.lane, .int .i64 m0L.stamp, .int .i64 m0L.late, .int .i64 m0L.seq, .slice va5 qs5.length vc5] 44).alloc (.cells #[.int .i64 0, .int .i64 0, .slice a6 La.zeroM.words.length c6, .int .i64 La.zeroM.lane, .int .i64 La.zeroM.stamp, .int .i64 La.zeroM.late, .int .i64 La.zeroM.seq, .slice va6 qs6.length vc6] 44)
  have hbF := ((Below.refl w6.heap.size w6).alloc (Nat.le_refl _) (.cells #[.int .i64 1, .int .i64 0, .slice a5 m0L.words.length c5, .int .i64 m0L.lane, .int .i64 m0L.stamp, .int .i64 m0L.late, .int .i64 m0L.seq, .slice va5 qs5.length vc5] 44)).alloc (by simp) (.cells #[.int .i64 0, .int .i64 0, .slice a6 La.zeroM.words.length c6, .int .i64 La.zeroM.lane, .int .i64 La.zeroM.stamp, .int .i64 La.zeroM.late, .int .i64 La.zeroM.seq, .slice va6 qs6.length vc6] 44)
  have hR7 := hid (hR6.out.below hbF)
  have hW7 := hid (hW6.out.next hbF)
  clear hz1 hbF
  have e0 : (m0L.seq == 1) = true := rfl
  go_wp2_with (first | (go_at_call 21; (with_reducible refine (hln.out _ _ _ hR7.out).mono ?_); rintro e w' ⟨rfl, rfl⟩))
  go_ret
  exact ⟨rfl, hW7.out.below⟩
end Go.Proofs.Ytggfallodkbgcaa.Ro
