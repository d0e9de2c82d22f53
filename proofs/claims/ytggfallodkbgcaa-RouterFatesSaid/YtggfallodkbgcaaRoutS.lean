/- DERIVED. The walk over router.Steps. No statement is proved here. -/
import Derived.Test.YtggfallodkbgcaaRoutL
import Derived.Test.YtggfallodkbgcaaK6
namespace Go.Proofs.Ytggfallodkbgcaa.Ro
set_option linter.unusedVariables false
set_option linter.unusedSimpArgs false
open Go.RowKit Go.Proofs.Ytggfallodkbgcaa.K Go.Proofs.Ytggfallodkbgcaa.Lb Go.Proofs.Ytggfallodkbgcaa.La Go.Proofs.Ytggfallodkbgcaa.Cf Go.Proofs.Ytggfallodkbgcaa.Gt Go.Proofs.Ytggfallodkbgcaa.Qu Go.Proofs.Ytggfallodkbgcaa.Wh
/-- What a step did, with the values that lie in memory. -/
structure RQ where
  kd : Int
  who : Int
  m : Msg
  ws : Value
  lv : Value
  late : List Msg
def encQ (q : RQ) : List Value := [.int .i64 q.kd, .int .i64 q.who, q.ws, .int .i64 q.m.lane, .int .i64 q.m.stamp, .int .i64 q.m.late, .int .i64 q.m.seq, q.lv]
theorem encQ_len (q : RQ) : (encQ q).length = 8 := rfl
def tupQ (q : RQ) : Int × Int × Msg × List Msg := (q.kd, q.who, q.m, q.late)
def GoodQ (base : Nat) (M W : Nat → Prop) (w : World) (q : RQ) : Prop := IntsAt W w q.ws q.m.words ∧ ∃ qs, qs.map Prod.snd = q.late ∧ w.ownsRow base 37 5 q.lv qs.length (flat encM qs) ∧ WordsIn W w qs ∧ ∀ b, q.lv.ownBlock = some b → ¬ M b ∧ ¬ W b
theorem elRes : ElemOk Try.prog 50 44 8 96 := .mk' (z := .agg #[.int .i64 0, .int .i64 0, .slice none 0 0, .int .i64 0, .int .i64 0, .int .i64 0, .int .i64 0, .slice none 0 0]) Try.underlying50 (by kernel_rfl) rfl (by decide)
def stepsR (now : Int) : Nat → Gte → Prt → Gte × Prt × List (Int × Int × Msg × List Msg)
  | 0, g, p => (g, p, [])
  | n + 1, g, p => if (stepR g p now).2.2.1 = 0 then ((stepR g p now).1, (stepR g p now).2.1, []) else
      ((stepsR now n (stepR g p now).1 (stepR g p now).2.1).1, (stepsR now n (stepR g p now).1 (stepR g p now).2.1).2.1, ((stepR g p now).2.2.1, (stepR g p now).2.2.2.1, (stepR g p now).2.2.2.2, outT now g.ms) :: (stepsR now n (stepR g p now).1 (stepR g p now).2.1).2.2)
section
variable {w w' w1 : World} {M W M' W' : Nat → Prop} {gb pb base : Nat} {g : Gte} {p : Prt}
theorem GoodQ.turn {q : RQ} (h : GoodQ base M W w q) {g' : Gte} {p' : Prt} {g0 : Gte} {p0 : Prt} (hR : RS w M W gb pb g0 p0) (hT : TurnR w M W gb pb g' p' M' W' w') : GoodQ base M' W' w' q := by
  obtain ⟨h1, qs, h2, h3, h4, h5⟩ := h
  obtain ⟨t1, t2, t3, t4, t5, t6⟩ := hT
  refine ⟨(h1.kept t6.size (fun b hb hlt => t6.block b hlt (fun hm => hR.ne b hm hb))).mono (fun b hb _ => t4 b hb), qs, h2, K.own_of h3 (fun b e => t6.block b (K.own_lt h3 e) (h5 b e).1), (h4.kept t6.size (fun b hb hlt => t6.block b hlt (fun hm => hR.ne b hm hb))).mono (fun b hb _ => t4 b hb), fun b e => ⟨fun hm => ?_, fun hw => ?_⟩⟩
  · rcases t2 b hm with h | h
    · exact (h5 b e).1 h
    · have := K.own_lt h3 e; omega
  · rcases t5 b hw with h | h
    · exact (h5 b e).2 h
    · have := K.own_lt h3 e; omega
theorem GoodQ.below {q : RQ} (h : GoodQ base M W w q) (hb : Below w.heap.size w w') : GoodQ base M W w' q := by
  obtain ⟨h1, qs, h2, h3, h4, h5⟩ := h
  exact ⟨h1.below hb, qs, h2, K.own_of h3 (fun b e => hb.block b (K.own_lt h3 e)), h4.below hb, h5⟩
/-- A row of answers grows in its own block. -/
theorem GoodQ.grown {q : RQ} {v : Value} {n : Nat} {xs : List Value} (h : GoodQ base M W w q) (ho : w.ownsRow base 44 8 v n xs) (hv : ∀ b, v.ownBlock = some b → ¬ W b) (hg : w.grownBy w' v.ownBlock) : GoodQ base M W w' q := by
  obtain ⟨h1, qs, h2, h3, h4, h5⟩ := h
  have hne : ∀ b, q.lv.ownBlock = some b → v.ownBlock ≠ some b := fun b e e2 => by
    obtain ⟨cs, hc⟩ := K.own_at h3 e
    obtain ⟨ds, hd⟩ := K.own_at ho e2
    rw [hc] at hd
    simp only [Option.some.injEq, Obj.cells.injEq] at hd
    have : (37 : Nat) = 44 := hd.2.1
    cases this
  exact ⟨h1.kept hg.size (fun b hb hlt => hg.block b hlt (fun e => hv b e.symm hb)), qs, h2, K.own_of h3 (fun b e => hg.block b (K.own_lt h3 e) (fun e2 => hne b e e2.symm)), h4.kept hg.size (fun b hb hlt => hg.block b hlt (fun e => hv b e.symm hb)), h5⟩
def StepsRP (w : World) (M W : Nat → Prop) (gb pb : Nat) (T : Gte × Prt × List (Int × Int × Msg × List Msg)) (e : Ending) (w' : World) : Prop :=
  ∃ v l M' W', e = .returned v ∧ l.map tupQ = T.2.2 ∧ w'.ownsRow w.heap.size 44 8 v l.length (flat encQ l) ∧ (∀ q ∈ l, GoodQ w.heap.size M' W' w' q) ∧ (∀ b, v.ownBlock = some b → ¬ M' b ∧ ¬ W' b) ∧ TurnR w M W gb pb T.1 T.2.1 M' W' w'
theorem TurnR.refl (h : RS w M W gb pb g p) : TurnR w M W gb pb g p M W w := ⟨h, fun b h => .inl h, fun b h => h, fun b h => h, fun b h => .inl h, Chg.refl _ _⟩
theorem TurnR.trans {g' g'' : Gte} {p' p'' : Prt} {M'' W'' : Nat → Prop} (h : TurnR w M W gb pb g' p' M' W' w1) (k : TurnR w1 M' W' gb pb g'' p'' M'' W'' w') : TurnR w M W gb pb g'' p'' M'' W'' w' := by
  obtain ⟨h1, h2, h3, h4, h5, h6⟩ := h
  obtain ⟨k1, k2, k3, k4, k5, k6⟩ := k
  exact ⟨k1, fun b hb => (k2 b hb).elim (h2 b) (fun h => .inr (Nat.le_trans h6.size h)), fun b hb => k3 b (h3 b hb), fun b hb => k4 b (h4 b hb), fun b hb => (k5 b hb).elim (h5 b) (fun h => .inr (Nat.le_trans h6.size h)), h6.trans k6 h2⟩
theorem TurnR.below {g' : Gte} {p' : Prt} (h : TurnR w M W gb pb g' p' M' W' w1) (hb : Below w1.heap.size w1 w') : TurnR w M W gb pb g' p' M' W' w' := by
  obtain ⟨h1, h2, h3, h4, h5, h6⟩ := h
  exact ⟨h1.below hb, h2, h3, h4, h5, h6.below hb⟩
/-- The change of a row of the call's own, apart. -/
theorem TurnR.grown {g' : Gte} {p' : Prt} {v : Value} {n : Nat} {xs : List Value} (h : TurnR w M W gb pb g' p' M' W' w1) (ho : w1.ownsRow w.heap.size 44 8 v n xs) (hv : ∀ b, v.ownBlock = some b → ¬ M' b ∧ ¬ W' b) (hg : w1.grownBy w' v.ownBlock) : TurnR w M W gb pb g' p' M' W' w' := by
  obtain ⟨h1, h2, h3, h4, h5, h6⟩ := h
  have hc : Chg (fun b => v.ownBlock = some b) w1 w' := ⟨hg.os, hg.tape, hg.output, hg.size, fun k hk hn => hg.block k hk (fun e => hn e.symm)⟩
  exact ⟨h1.chg hc (fun b e => hv b e), h2, h3, h4, h5, h6.trans hc (fun i hi => .inr (own_block_ge ho i hi))⟩
set_option maxHeartbeats 2000000 in
theorem steps_c (h : RS w M W gb pb g p) (now most : Int) (hmost : most ≤ 1000) : Calls Try.prog 18 #[.pointer (some ⟨gb, 0, none⟩), .pointer (some ⟨pb, 0, none⟩), .int .i64 now, .int .i64 most] w (StepsRP w M W gb pb (stepsR now most.toNat g p)) := by
  have h0 := hid h
  obtain ⟨N, hN⟩ : ∃ N, N = most.toNat := ⟨_, rfl⟩
  rw [← hN]
  obtain ⟨T, hT⟩ : ∃ T, T = stepsR now N g p := ⟨_, rfl⟩
  rw [← hT]
  replace hT := hid hT
  have hNm := hid (show ∀ k : Nat, ((k : Int) < most) ↔ k < N from fun k => by omega)
  have hN1 := hid (show N ≤ 1000 by omega)
  replace hN := hid hN
  clear h hmost
  go_enter Try.func18, Try.ntmps18
  go_wp2
  go_loopg [9, 10] N (fun gg sv s10 wr => ∃ (l : List RQ) (g' : Gte) (p' : Prt) (M' W' : Nat → Prop), l.length ≤ N ∧ gg = N - l.length ∧ wr.ownsRow w.heap.size 44 8 sv l.length (flat encQ l) ∧ (∀ q ∈ l, GoodQ w.heap.size M' W' wr q) ∧ (∀ b, sv.ownBlock = some b → ¬ M' b ∧ ¬ W' b) ∧ TurnR w M W gb pb g' p' M' W' wr ∧ T = ((stepsR now (N - l.length) g' p').1, (stepsR now (N - l.length) g' p').2.1, l.map tupQ ++ (stepsR now (N - l.length) g' p').2.2))
  case atStart => exact ⟨[], g, p, M, W, Nat.zero_le _, rfl, World.ownsRow_nil _ _ _ _, fun q hq => (by cases hq), fun b e => (by cases e), TurnR.refl h0.out, by rw [hT.out]; rfl⟩
  case round =>
    obtain ⟨l, g', p', M', W', hl, hgg, ho, hq, hv, hTr, hTe⟩ := hrel
    obtain ⟨va, vc, rfl⟩ := K.own_shape ho
    by_cases hlt : l.length < N
    · have d1 : decide ((l.length : Int) < most) = true := decide_eq_true ((hNm.out l.length).2 hlt)
      have hl1 := hid (show l.length < 1000 by have := hN1.out; omega)
      have hn1 : N - l.length = (N - (l.length + 1)) + 1 := by omega
      rw [hn1] at hTe
      unfold stepsR at hTe
      have hst := hid (rstep_c hTr.1 now)
      generalize stepR g' p' now = R at hst hTe
      obtain ⟨g2, p2, kd, who, m⟩ := R
      simp only at hTe
      replace hTe := hid hTe
      replace hq := hid hq
      replace hv := hid hv
      replace hTr := hid hTr
      replace ho := hid ho
      replace hn1 := hid hn1
      go_upto_region 4 with (first | (go_at_call 15; (with_reducible refine (hst.out).mono ?_); rintro e w2 ⟨lv, qs, a, c, M2, W2, rfl, hi2, hq2, ho2, hw2, hv2, hT2⟩; obtain ⟨xa, xc, rfl⟩ := K.own_shape ho2))
      have hT2 : TurnR wr M' W' gb pb g2 p2 M2 W2 w2 := hT2
      have hbx := (Below.refl w2.heap.size w2).alloc (Nat.le_refl _) (.cells #[.int .i64 kd, .int .i64 who, .slice a m.words.length c, .int .i64 m.lane, .int .i64 m.stamp, .int .i64 m.late, .int .i64 m.seq, .slice xa qs.length xc] 44)
      have hpx := hid (pts.newA w2 #[.int .i64 kd, .int .i64 who, .slice a m.words.length c, .int .i64 m.lane, .int .i64 m.stamp, .int .i64 m.late, .int .i64 m.seq, .slice xa qs.length xc] 44)
      have hT3 := hid ((hTr.out.trans hT2).below hbx)
      have hov : ∀ b, (Value.slice va l.length vc).ownBlock = some b → b < wr.heap.size ∧ ¬ M' b ∧ ¬ W' b := fun b e => ⟨K.own_lt ho.out e, hv.out b e⟩
      have hv3 := hid (show ∀ b, (Value.slice va l.length vc).ownBlock = some b → ¬ M2 b ∧ ¬ W2 b from fun b e => ⟨fun hm => by rcases hT2.2.1 b hm with h | h; exact (hov b e).2.1 h; exact (by have := (hov b e).1; omega), fun hm => by rcases hT2.2.2.2.2.1 b hm with h | h; exact (hov b e).2.2 h; exact (by have := (hov b e).1; omega)⟩)
      have ho3 := hid (K.own_of ho.out (fun b e => (hbx.block b (Nat.lt_of_lt_of_le (hov b e).1 hT2.2.2.2.2.2.size)).trans (hT2.2.2.2.2.2.block b (hov b e).1 (hov b e).2.1)))
      have hqn := hid (fun (wz : World) (hb : Below w2.heap.size w2 wz) => show (∀ q ∈ l ++ [(⟨kd, who, m, .slice a m.words.length c, .slice xa qs.length xc, outT now g'.ms⟩ : RQ)], GoodQ w.heap.size M2 W2 wz q) from fun q hq' => by
        rcases List.mem_append.1 hq' with h | h
        · exact ((hq.out q h).turn hTr.out.1 hT2).below hb
        · simp at h; subst h
          exact (show GoodQ w.heap.size M2 W2 w2 _ from ⟨hi2, qs, hq2, K.own_mono ho2 hTr.out.2.2.2.2.2.size, hw2, hv2⟩).below hb)
      have hq3 := hid (hqn.out _ hbx)
      have hws3 := hid (show w.heap.size ≤ w2.heap.size from Nat.le_trans hTr.out.2.2.2.2.2.size hT2.2.2.2.2.2.size)
      clear hst hi2 hq2 ho2 hw2 hv2 hT2 hbx hqn hov
      generalize hw3 : w2.alloc (.cells #[.int .i64 kd, .int .i64 who, .slice a m.words.length c, .int .i64 m.lane, .int .i64 m.stamp, .int .i64 m.late, .int .i64 m.seq, .slice xa qs.length xc] 44) = w3 at hpx hT3 ho3 hq3 ⊢
      have hs3 := hid (show w.heap.size ≤ w3.heap.size by rw [← hw3]; have := hws3.out; simp; omega)
      clear hw3
      have x0 := hpx.out.cell 0
      have x1 := hpx.out.cell 1
      have x2 := hpx.out.cell 2
      have x3 := hpx.out.cell 3
      have x4 := hpx.out.cell 4
      have x5 := hpx.out.cell 5
      have x6 := hpx.out.cell 6
      have x7 := hpx.out.cell 7
      have xl := hpx.out.lt
      simp only [List.getElem?_cons_zero, List.getElem?_cons_succ] at x0 x1 x2 x3 x4 x5 x6 x7
      by_cases hkd : kd = 0
      · subst hkd
        have hTe2 : T = (g2, p2, l.map tupQ) := by have := hTe.out; simpa using this
        have hfin := hid (show StepsRP w M W gb pb T (.returned (.slice va l.length vc)) w3 from ⟨_, l, M2, W2, rfl, by rw [hTe2], ho3.out, fun q hq' => hq3.out q (List.mem_append_left _ hq'), hv3.out, by rw [hTe2]; exact hT3.out⟩)
        clear hTe2 hTe
        go_wp2
        go_ret
        exact hfin.out
      · have dk : (kd == 0) = false := by simpa using hkd
        have hTe2 : T = ((stepsR now (N - (l.length + 1)) g2 p2).1, (stepsR now (N - (l.length + 1)) g2 p2).2.1, l.map tupQ ++ ((kd, who, m, outT now g'.ms) :: (stepsR now (N - (l.length + 1)) g2 p2).2.2)) := by have := hTe.out; rw [if_neg hkd] at this; exact this
        replace hTe2 := hid hTe2
        replace hkd := hid hkd
        clear hTe
        have hA := hid ((Below.refl w3.heap.size w3).alloc (Nat.le_refl _) (.cells #[.int .i64 kd, .int .i64 who, .slice a m.words.length c, .int .i64 m.lane, .int .i64 m.stamp, .int .i64 m.late, .int .i64 m.seq, .slice xa qs.length xc] 44))
        have hoA := hid (ho3.out.alloc (.cells #[.int .i64 kd, .int .i64 who, .slice a m.words.length c, .int .i64 m.lane, .int .i64 m.stamp, .int .i64 m.late, .int .i64 m.seq, .slice xa qs.length xc] 44))
        have hTA := hid (hT3.out.below hA.out)
        have hqA := hid (fun q hq' => (hq3.out q hq').below hA.out)
        have hzA := hid (show w.heap.size ≤ (w3.alloc (.cells #[.int .i64 kd, .int .i64 who, .slice a m.words.length c, .int .i64 m.lane, .int .i64 m.stamp, .int .i64 m.late, .int .i64 m.seq, .slice xa qs.length xc] 44)).heap.size by have := hs3.out; simp; omega)
        go_upto_region 5 with fail
        go_wp2_with (at_builtin; (refine wpList_push2 rfl (.tmp 22) (.tmp 24) 50 rfl elRes (v := .slice va l.length vc) rfl hoA.out hzA.out rfl (news := encQ ⟨kd, who, m, .slice a m.words.length c, .slice xa qs.length xc, outT now g'.ms⟩) rfl (heap_at _ _ _ (by simp)) (by simp [encQ, Value.oneCell']) (by omega) (by have := hl1.out; unfold maxLen; omega) (by have := hl1.out; omega) ?_; intro gx capx w5 hown5 hg5 hor5 hlt5))
        have hv5 := hid (show ∀ b, (Value.slice (some ⟨gx, 0, none⟩) (l.length + 1) capx).ownBlock = some b → ¬ M2 b ∧ ¬ W2 b from fun b e => by
          have e : gx = b := by simpa [Value.ownBlock] using e
          subst e
          rcases hor5 with h | h
          · exact hv3.out _ h
          · exact ⟨fun hm => by have := hTA.out.1.lt _ (.inl hm); omega, fun hm => by have := hTA.out.1.lt _ (.inr hm); omega⟩)
        have hT5 := hid (hTA.out.grown hoA.out hv3.out hg5)
        have hq5 := hid (fun q hq' => (hqA.out q hq').grown hoA.out (fun b e => (hv3.out b e).2) hg5)
        have hown5 := hid (show w5.ownsRow w.heap.size 44 8 (.slice (some ⟨gx, 0, none⟩) (l.length + 1) capx) (l ++ [(⟨kd, who, m, .slice a m.words.length c, .slice xa qs.length xc, outT now g'.ms⟩ : RQ)]).length (flat encQ (l ++ [(⟨kd, who, m, .slice a m.words.length c, .slice xa qs.length xc, outT now g'.ms⟩ : RQ)])) from by rw [flat_append, flat_single, List.length_append]; exact hown5)
        clear hg5 hor5 hlt5
        go_wp2
        go_roundg (N - (l.length + 1))
        case rel => exact ⟨l ++ [⟨kd, who, m, .slice a m.words.length c, .slice xa qs.length xc, outT now g'.ms⟩], g2, p2, M2, W2, by simp; omega, by simp, hown5.out, hq5.out, hv5.out, hT5.out, by rw [hTe2.out]; simp [tupQ]⟩
        case measure => omega
    · have d1 : decide ((l.length : Int) < most) = false := decide_eq_false (fun h => hlt ((hNm.out l.length).1 h))
      have hll : N - l.length = 0 := by omega
      rw [hll] at hTe
      have hTe2 : T = (g', p', l.map tupQ) := by rw [hTe]; simp [stepsR]
      have hfin := hid (show StepsRP w M W gb pb T (.returned (.slice va l.length vc)) wr from ⟨_, l, M', W', rfl, by rw [hTe2], ho, hq, hv, by rw [hTe2]; exact hTr⟩)
      clear hTe hTe2 hTr hq hv ho
      go_wp2
      go_ret
      exact hfin.out
end
end Go.Proofs.Ytggfallodkbgcaa.Ro
