/- DERIVED. The walk over the statement RouterNil: from no gate nothing comes; what goes to no port is lost. -/
import Derived.Test.YtggfallodkbgcaaRoutL
import Derived.Test.YtggfallodkbgcaaGateL
import Derived.Test.YtggfallodkbgcaaCfgG
import Derived.Test.YtggfallodkbgcaaGoodKP
namespace Go.Proofs.Ytggfallodkbgcaa.Ro
set_option linter.unusedVariables false
set_option linter.unusedSimpArgs false
open Go.RowKit Go.Proofs.Ytggfallodkbgcaa.K Go.Proofs.Ytggfallodkbgcaa.Lb Go.Proofs.Ytggfallodkbgcaa.La Go.Proofs.Ytggfallodkbgcaa.Cf Go.Proofs.Ytggfallodkbgcaa.Gt Go.Proofs.Ytggfallodkbgcaa.Qu Go.Proofs.Ytggfallodkbgcaa.Wh
theorem pput_nil (w : World) (a : Option Addr) (n c : Nat) (m : Msg) : Calls Try.prog 59 #[.pointer none, .agg #[.slice a n c, .int .i64 m.lane, .int .i64 m.stamp, .int .i64 m.late, .int .i64 m.seq]] w fun e w' => e = .returned (.tuple #[.int .i64 0, .bool false, .int .i64 10]) ∧ Below w.heap.size w w' := by
  go_enter Try.func59, Try.ntmps59
  go_wp2
  refine bodyPost_ret (v := .tuple #[.int .i64 0, .bool false, .int .i64 10]) (by simp [results, Try.results59, go_sem]) rfl ⟨rfl, (Below.refl _ _).alloc (Nat.le_refl _) _⟩
theorem rput_nil (w : World) (a : Option Addr) (n c : Nat) (m : Msg) : Calls Try.prog 38 #[.pointer none, .agg #[.slice a n c, .int .i64 m.lane, .int .i64 m.stamp, .int .i64 m.late, .int .i64 m.seq]] w fun e w' => e = .returned (.tuple #[.int .i64 3, .int .i64 0]) ∧ Below w.heap.size w w' := by
  have hb0 := hid ((Below.refl w.heap.size w).alloc (Nat.le_refl _) (.cells #[.slice a n c, .int .i64 m.lane, .int .i64 m.stamp, .int .i64 m.late, .int .i64 m.seq] 37))
  go_enter Try.func38, Try.ntmps38
  go_wp2_with (first | (go_at_call 59; (with_reducible refine (pput_nil _ _ _ _ m).mono ?_); rintro e w1 ⟨rfl, hb⟩; have hb1 := hid (Below.next hb0.out hb hb0.out.size); clear hb))
  refine bodyPost_ret (v := .tuple #[.int .i64 3, .int .i64 0]) (by simp [results, Try.results38, go_sem]) rfl ⟨rfl, hb1.out⟩
theorem rstep_gnil (w : World) (pv : Value) (now : Int) : Calls Try.prog 15 #[.pointer none, pv, .int .i64 now] w fun e w' => e = .returned (.agg #[.int .i64 0, .int .i64 0, .slice none 0 0, .int .i64 0, .int .i64 0, .int .i64 0, .int .i64 0, .slice none 0 0]) ∧ Below w.heap.size w w' := by
  have hb0 := hid ((Below.refl w.heap.size w).alloc (Nat.le_refl _) (.cells #[.int .i64 0, .int .i64 0, .slice none 0 0, .int .i64 0, .int .i64 0, .int .i64 0, .int .i64 0, .slice none 0 0] 44))
  have hz := hid (pts.newA w #[.int .i64 0, .int .i64 0, .slice none 0 0, .int .i64 0, .int .i64 0, .int .i64 0, .int .i64 0, .slice none 0 0] 44)
  go_enter Try.func15, Try.ntmps15
  go_upto_region 6 with (first | (go_at_call 36; (with_reducible refine (gsweep_nil _ _).mono ?_); rintro e w1 ⟨rfl, hb⟩; have hb1 := hid (Below.next hb0.out hb hb0.out.size); have hz1 := hid (hz.out.below hb); have hbA := (Below.refl w1.heap.size w1).alloc (Nat.le_refl _) (.cells #[.int .i64 0, .int .i64 0, .slice none 0 0, .int .i64 0, .int .i64 0, .int .i64 0, .int .i64 0, .slice none 0 0] 44); have hr1 := hid (pts.newA w1 #[.int .i64 0, .int .i64 0, .slice none 0 0, .int .i64 0, .int .i64 0, .int .i64 0, .int .i64 0, .slice none 0 0] 44); have hbA := hid hbA; clear hb) | (go_at_call 37; (with_reducible refine (gtake_nil _).mono ?_); rintro e w2 ⟨rfl, hb⟩; have hz2 := hid ((hz1.out.below hbA.out).below hb); have hr2 := hid (hr1.out.below hb); have hb2 := hid (Below.next (Below.next hb1.out hbA.out hb1.out.size) hb (Nat.le_trans hb1.out.size hbA.out.size)); clear hb))
  have hbB := (Below.refl w2.heap.size w2).alloc (Nat.le_refl _) (.cells #[.slice none 0 0, .int .i64 0, .int .i64 0, .int .i64 0, .int .i64 0] 37)
  have hz3 := hz2.out.below hbB
  have hr3 := hr2.out.below hbB
  have hb3 := Below.next hb2.out hbB hb2.out.size
  refine wp_region_lit ?_
  refine lLoad (cs := [.int .i64 0, .int .i64 0, .slice none 0 0, .int .i64 0, .int .i64 0, .int .i64 0, .int .i64 0, .slice none 0 0]) rfl rfl rfl hr3 Try.underlying44 rfl (by kernel_rfl) ?_
  refine lStore (cs := [.int .i64 0, .int .i64 0, .slice none 0 0, .int .i64 0, .int .i64 0, .int .i64 0, .int .i64 0, .slice none 0 0]) rfl rfl rfl rfl hz3 rfl (by kernel_rfl) rfl ?_
  have hzF := setN_pts0 hz3 [.int .i64 0, .int .i64 0, .slice none 0 0, .int .i64 0, .int .i64 0, .int .i64 0, .int .i64 0, .slice none 0 0] rfl
  have hbF := hid (setN_below w.heap.size (Nat.le_refl _) [.int .i64 0, .int .i64 0, .slice none 0 0, .int .i64 0, .int .i64 0, .int .i64 0, .int .i64 0, .slice none 0 0] 0 _ hb3)
  generalize setN (w2.alloc (.cells #[.slice none 0 0, .int .i64 0, .int .i64 0, .int .i64 0, .int .i64 0] 37)) w.heap.size 0 [.int .i64 0, .int .i64 0, .slice none 0 0, .int .i64 0, .int .i64 0, .int .i64 0, .int .i64 0, .slice none 0 0] = wF at hzF hbF ⊢
  clear hz3 hr3 hb3 hbB
  have y0 := (hzF).cell 0
  have y1 := (hzF).cell 1
  have y2 := (hzF).cell 2
  have y3 := (hzF).cell 3
  have y4 := (hzF).cell 4
  have y5 := (hzF).cell 5
  have y6 := (hzF).cell 6
  have y7 := (hzF).cell 7
  have yl := (hzF).lt
  simp only [List.getElem?_cons_zero, List.getElem?_cons_succ] at y0 y1 y2 y3 y4 y5 y6 y7
  go_wp2
  refine bodyPost_ret (v := .agg #[.int .i64 0, .int .i64 0, .slice none 0 0, .int .i64 0, .int .i64 0, .int .i64 0, .int .i64 0, .slice none 0 0]) (by simp [results, Try.results15, go_sem, y0, y1, y2, y3, y4, y5, y6, y7, yl]) rfl ⟨rfl, hbF.out⟩
theorem fits_nil (w : World) (pv : Value) (now : Int) : Calls Try.prog 17 #[.pointer none, pv, .int .i64 now] w fun e w' => e = .returned (.int .i64 0) ∧ w = w' := by
  go_enter Try.func17, Try.ntmps17
  go_wp2_with (first | (go_at_call 14; (with_reducible refine (gall_nil _).mono ?_); rintro e w1 ⟨rfl, rfl⟩))
  go_loopg [7, 9, 13] 0 (fun gg n s9 i wr => gg = 0 ∧ n = .int .i64 0 ∧ i = .int .i64 0 ∧ wr = w)
  case atStart => exact ⟨rfl, rfl, rfl, rfl⟩
  case round =>
    obtain ⟨rfl, rfl, rfl, rfl⟩ := hrel
    go_wp2
    go_ret
    exact ⟨rfl, rfl⟩
theorem steps_nil (w : World) (pv : Value) (now : Int) : Calls Try.prog 18 #[.pointer none, pv, .int .i64 now, .int .i64 9] w fun e w' => e = .returned (.slice none 0 0) ∧ Below w.heap.size w w' := by
  go_enter Try.func18, Try.ntmps18
  go_wp2
  go_loopg [9, 10] 0 (fun gg v s10 wr => gg = 0 ∧ v = .slice none 0 0 ∧ wr = w)
  case atStart => exact ⟨rfl, rfl, rfl⟩
  case round =>
    obtain ⟨rfl, rfl, rfl⟩ := hrel
    go_wp2_with (first | (go_at_call 15; (with_reducible refine (rstep_gnil _ _ _).mono ?_); rintro e w1 ⟨rfl, hb⟩; have hb1 := hid (Below.next (Below.refl _ _) hb (Nat.le_refl _)); clear hb))
    go_ret
    exact ⟨rfl, hb1.out.alloc hb1.out.size _⟩
set_option maxHeartbeats 1000000 in
theorem rstep_pnil {w : World} {M W : Nat → Prop} {gb : Nat} {g : Gte} (h : GateF w M W gb g) {now : Int} {m : Msg} {r : List Msg} (hS : restT now g.ms = m :: r) : Calls Try.prog 15 #[.pointer (some ⟨gb, 0, none⟩), .pointer none, .int .i64 now] w fun e w' => (∃ a c va n vc, e = .returned (.agg #[.int .i64 3, .int .i64 0, .slice a m.words.length c, .int .i64 m.lane, .int .i64 m.stamp, .int .i64 m.late, .int .i64 m.seq, .slice va n vc])) ∧ Chg M w w' := by
  have hb0 := hid ((Below.refl w.heap.size w).alloc (Nat.le_refl _) (.cells #[.int .i64 0, .int .i64 0, .slice none 0 0, .int .i64 0, .int .i64 0, .int .i64 0, .int .i64 0, .slice none 0 0] 44))
  have hz := hid (pts.newA w #[.int .i64 0, .int .i64 0, .slice none 0 0, .int .i64 0, .int .i64 0, .int .i64 0, .int .i64 0, .slice none 0 0] 44)
  have h0 := hid (h.below hb0.out)
  have hMl := hid (fun b (hb : M b) => h.lt b (.inl hb))
  have hsw := hid (fun (u : World) (Mg : Nat → Prop) (h : GateF u Mg W gb g) => show Calls Try.prog 36 #[.pointer (some ⟨gb, 0, none⟩), .int .i64 now] u (GOutF u Mg W gb g (outT now g.ms) (m :: r)) from by rw [← hS]; exact gsweep_f h now)
  have htk := hid (fun (u : World) (Mx : Nat → Prop) (h : GateF u Mx W gb { g with ms := m :: r }) => show Calls Try.prog 37 #[.pointer (some ⟨gb, 0, none⟩)] u (fun e w' => HandAny W (m :: r) e w' ∧ ∃ M', GateF w' M' W gb { g with ms := r } ∧ (∀ b, M' b → Mx b ∨ u.heap.size ≤ b) ∧ (∀ b, Mx b → M' b) ∧ Chg Mx u w') from by
    have := gtake_f h
    unfold GTakeF at this
    simp only at this
    rw [show sortM (m :: r) = m :: r from by rw [← hS]; exact sortM_filter _ _] at this
    exact this)
  unfold HandAny at htk
  rw [show hdM (m :: r) = m from rfl] at htk
  simp only [List.isEmpty_cons, Bool.not_false] at htk
  clear h hS
  go_enter Try.func15, Try.ntmps15
  go_upto_region 1 with fail
  generalize w.alloc (.cells #[.int .i64 0, .int .i64 0, .slice none 0 0, .int .i64 0, .int .i64 0, .int .i64 0, .int .i64 0, .slice none 0 0] 44) = w0 at hb0 hz h0 ⊢
  obtain ⟨r0, hr0⟩ : ∃ r0, r0 = w.heap.size := ⟨_, rfl⟩
  rw [← hr0] at hz ⊢
  replace hr0 := hid hr0
  have hs0 := hid (show w.heap.size < w0.heap.size from by have := hz.out.lt; have := hr0.out; omega)
  go_upto_region 2 with (first | (go_at_call 36; (with_reducible refine (hsw.out _ _ h0.out).mono ?_); rintro e w1 ⟨v, qs, M1, rfl, hq, ho, hws, hn, hG1, hs1, hsM1, hC1⟩; obtain ⟨va, vc, rfl⟩ := K.own_shape ho))
  have hbA := (Below.refl w1.heap.size w1).alloc (Nat.le_refl _) (.cells #[.int .i64 0, .int .i64 0, .slice none 0 0, .int .i64 0, .int .i64 0, .int .i64 0, .int .i64 0, .slice va qs.length vc] 44)
  have hpA := hid (pts.newA w1 #[.int .i64 0, .int .i64 0, .slice none 0 0, .int .i64 0, .int .i64 0, .int .i64 0, .int .i64 0, .slice va qs.length vc] 44)
  have hnM : ¬ M r0 := fun hm => by have := hMl.out _ hm; have := hr0.out; omega
  have hzA := hid ((hz.out.chg hC1 hnM).below hbA)
  have hCA := hid (((Chg.of_below (M := M) hb0.out).trans hC1 (fun i hi => .inl hi)).below hbA)
  have hGA := hid (hG1.below hbA)
  have hM1 := hid (fun b (hb : M1 b) => (⟨hs1 b hb, hG1.lt b (.inl hb)⟩ : (M b ∨ w0.heap.size ≤ b) ∧ b < w1.heap.size))
  have hs01 := hid (show w0.heap.size ≤ w1.heap.size from hC1.size)
  clear hbA hC1 hG1 hs1 hsM1 hn hws ho hq hz hb0 h0 hsw
  generalize w1.alloc (.cells #[.int .i64 0, .int .i64 0, .slice none 0 0, .int .i64 0, .int .i64 0, .int .i64 0, .int .i64 0, .slice va qs.length vc] 44) = wA at hpA hzA hCA hGA ⊢
  obtain ⟨r1, hr1⟩ : ∃ r1, r1 = w1.heap.size := ⟨_, rfl⟩
  rw [← hr1] at hpA ⊢
  replace hr1 := hid hr1
  go_upto_region 3 with (first | (go_at_call 37; (with_reducible refine (htk.out _ _ hGA.out).mono ?_); rintro e w2 ⟨⟨a, c, rfl, -⟩, M2, hG2, -, -, hC2⟩))
  have hbB := (Below.refl w2.heap.size w2).alloc (Nat.le_refl _) (.cells #[.slice a m.words.length c, .int .i64 m.lane, .int .i64 m.stamp, .int .i64 m.late, .int .i64 m.seq] 37)
  have hpB := hid (pts.newA w2 #[.slice a m.words.length c, .int .i64 m.lane, .int .i64 m.stamp, .int .i64 m.late, .int .i64 m.seq] 37)
  have hn0 : ¬ M1 r0 := fun hm => by rcases (hM1.out _ hm).1 with h | h; exact hnM h; exact (by have := hs0.out; have := hr0.out; omega)
  have hn1 : ¬ M1 r1 := fun hm => by have := (hM1.out _ hm).2; have := hr1.out; omega
  have hz2 := hid ((hzA.out.chg hC2 hn0).below hbB)
  have hr2 := hid ((hpA.out.chg hC2 hn1).below hbB)
  have hC3 := hid ((hCA.out.trans hC2 (fun i hi => (hM1.out i hi).1.imp id (fun h => by have := hs0.out; omega))).below hbB)
  have hne12 := hid (show r1 < w2.heap.size from by have := hpA.out.lt; have := hC2.size; omega)
  clear hbB hC2 hG2 hzA hpA hCA hGA hM1
  generalize w2.alloc (.cells #[.slice a m.words.length c, .int .i64 m.lane, .int .i64 m.stamp, .int .i64 m.late, .int .i64 m.seq] 37) = wB at hpB hz2 hr2 hC3 ⊢
  obtain ⟨r2, hr2e⟩ : ∃ r2, r2 = w2.heap.size := ⟨_, rfl⟩
  rw [← hr2e] at hpB ⊢
  replace hr2e := hid hr2e
  have hne : r1 ≠ r2 := by have := hne12.out; have := hr2e.out; omega
  have x0 := hpB.out.cell 0
  have x1 := hpB.out.cell 1
  have x2 := hpB.out.cell 2
  have x3 := hpB.out.cell 3
  have x4 := hpB.out.cell 4
  have xl := hpB.out.lt
  simp only [List.getElem?_cons_zero, List.getElem?_cons_succ] at x0 x1 x2 x3 x4
  go_upto_region 6 with (first | (go_at_call 38; (with_reducible refine (rput_nil _ _ _ _ m).mono ?_); rintro e w3 ⟨rfl, hb⟩; have hr3 := hr2.out.below hb; have hz3 := hid (hz2.out.below hb); have hpC := hpB.out.below hb; have hC4 := hid (hC3.out.below hb); have u0 := hr3.cell 0; have u1 := hr3.cell 1; have u2 := hr3.cell 2; have u3 := hr3.cell 3; have u4 := hr3.cell 4; have u5 := hr3.cell 5; have u6 := hr3.cell 6; have ul := hr3.lt; have uf := fun o => hr3.frozen o; have v0 := hpC.cell 0; have v1 := hpC.cell 1; have v2 := hpC.cell 2; have v3 := hpC.cell 3; have v4 := hpC.cell 4; have vl := hpC.lt; simp only [List.getElem?_cons_zero, List.getElem?_cons_succ] at u0 u1 u2 u3 u4 u5 u6 v0 v1 v2 v3 v4; replace hr3 := hid hr3; clear hpC x0 x1 x2 x3 x4 xl hb))
  have hr4 := ((((((hr3.out.set 0 (.int .i64 3)).set 1 (.int .i64 0)).set 2 (.slice a m.words.length c)).set 3 (.int .i64 m.lane)).set 4 (.int .i64 m.stamp)).set 5 (.int .i64 m.late)).set 6 (.int .i64 m.seq)
  simp only [List.set_cons_zero, List.set_cons_succ] at hr4
  have hso := setN_own r1 [.int .i64 3, .int .i64 0, .slice a m.words.length c, .int .i64 m.lane, .int .i64 m.stamp, .int .i64 m.late, .int .i64 m.seq] 0 w3
  have hz4 := hid (setN_other (b := r1) (c := r0) (by have := hr0.out; have := hr1.out; have := hs0.out; have := hs01.out; omega) [.int .i64 3, .int .i64 0, .slice a m.words.length c, .int .i64 m.lane, .int .i64 m.stamp, .int .i64 m.late, .int .i64 m.seq] 0 _ hz3.out)
  have hC5 := hid (hC4.out.trans hso (fun i hi => .inr (by have hi : i = r1 := hi; have := hr1.out; have := hs0.out; have := hs01.out; omega)))
  change Code.wp _ _ _ _ (setN w3 r1 0 [.int .i64 3, .int .i64 0, .slice a m.words.length c, .int .i64 m.lane, .int .i64 m.stamp, .int .i64 m.late, .int .i64 m.seq])
  change pts (setN w3 r1 0 [.int .i64 3, .int .i64 0, .slice a m.words.length c, .int .i64 m.lane, .int .i64 m.stamp, .int .i64 m.late, .int .i64 m.seq]) _ _ _ at hr4
  clear hso u0 u1 u2 u3 u4 u5 u6 ul uf v0 v1 v2 v3 v4 vl
  replace hr4 := hid hr4
  generalize setN w3 r1 0 [.int .i64 3, .int .i64 0, .slice a m.words.length c, .int .i64 m.lane, .int .i64 m.stamp, .int .i64 m.late, .int .i64 m.seq] = w4 at hr4 hz4 hC5 ⊢
  refine wp_region_lit ?_
  refine lLoad (cs := [.int .i64 3, .int .i64 0, .slice a m.words.length c, .int .i64 m.lane, .int .i64 m.stamp, .int .i64 m.late, .int .i64 m.seq, .slice va qs.length vc]) rfl rfl rfl hr4.out Try.underlying44 rfl (by kernel_rfl) ?_
  refine lStore (cs := [.int .i64 3, .int .i64 0, .slice a m.words.length c, .int .i64 m.lane, .int .i64 m.stamp, .int .i64 m.late, .int .i64 m.seq, .slice va qs.length vc]) rfl rfl rfl rfl hz4.out rfl (by kernel_rfl) rfl ?_
  have hzF := setN_pts0 hz4.out [.int .i64 3, .int .i64 0, .slice a m.words.length c, .int .i64 m.lane, .int .i64 m.stamp, .int .i64 m.late, .int .i64 m.seq, .slice va qs.length vc] rfl
  have hCF := hid (hC5.out.trans (setN_own r0 [.int .i64 3, .int .i64 0, .slice a m.words.length c, .int .i64 m.lane, .int .i64 m.stamp, .int .i64 m.late, .int .i64 m.seq, .slice va qs.length vc] 0 w4) (fun i hi => .inr (by have hi : i = r0 := hi; have := hr0.out; omega)))
  generalize setN w4 r0 0 [.int .i64 3, .int .i64 0, .slice a m.words.length c, .int .i64 m.lane, .int .i64 m.stamp, .int .i64 m.late, .int .i64 m.seq, .slice va qs.length vc] = wF at hzF hCF ⊢
  have y0 := (hzF).cell 0
  have y1 := (hzF).cell 1
  have y2 := (hzF).cell 2
  have y3 := (hzF).cell 3
  have y4 := (hzF).cell 4
  have y5 := (hzF).cell 5
  have y6 := (hzF).cell 6
  have y7 := (hzF).cell 7
  have yl := (hzF).lt
  simp only [List.getElem?_cons_zero, List.getElem?_cons_succ] at y0 y1 y2 y3 y4 y5 y6 y7
  go_wp2
  refine bodyPost_ret (v := .agg #[.int .i64 3, .int .i64 0, .slice a m.words.length c, .int .i64 m.lane, .int .i64 m.stamp, .int .i64 m.late, .int .i64 m.seq, .slice va qs.length vc]) (by simp [results, Try.results15, go_sem, y0, y1, y2, y3, y4, y5, y6, y7, yl]) rfl ⟨⟨a, c, va, _, vc, rfl⟩, hCF.out⟩
theorem GateF.offerLit {w : World} {M W : Nat → Prop} {gb : Nat} {g : Gte} (h : GateF w M W gb g) (x mode lane now round : Int) (hs : g.seq < 1000000) {n : Nat} (hn : n = w.heap.size) : Calls Try.prog 13 #[.pointer (some ⟨gb, 0, none⟩), .int .i64 mode, .int .i64 lane, .slice (some ⟨n, 0, none⟩) 1 1, .int .i64 now, .int .i64 round] (w.alloc (.cells #[.int .i64 x] 3)) fun e w' => (∃ v, e = .returned v) ∧ ∃ M' W', GateF w' M' W' gb (offerT g mode lane [x] now round).1 ∧ (∀ b, M' b → M b ∨ w.heap.size ≤ b) ∧ Chg M w w' := by
  subst hn
  have hb := (Below.refl w.heap.size w).alloc (Nat.le_refl _) (.cells #[.int .i64 x] 3)
  have hi : IntsAt (fun b => ¬ M b ∧ b < (w.alloc (.cells #[.int .i64 x] 3)).heap.size) (w.alloc (.cells #[.int .i64 x] 3)) (.slice (some ⟨w.heap.size, 0, none⟩) 1 1) [x] :=
    by
      refine IntsAt.of_pts (xs := [x]) (cap := 1) (ex := []) (pts.newA w #[.int .i64 x] 3) ?_ (by simp) (by unfold maxLen; omega)
      exact ⟨fun hm => by have := h.lt _ (.inl hm); omega, by simp⟩
  refine (offer_f (h.below hb) hi (by simp) hs mode lane now round).mono ?_
  rintro e w' ⟨a, c, M', k1, k2, k3, k4, k5, k6⟩
  exact ⟨⟨_, k1⟩, M', _, k3, fun b hb' => (k4 b hb').imp id (fun h => by simp at h; omega), (Chg.of_below hb).trans k6 (fun i hi => .inl hi)⟩
set_option maxHeartbeats 4000000 in
set_option maxRecDepth 100000 in
theorem rnil_c (w : World) (now words : Int) : Calls Try.prog 4 #[.int .i64 now, .int .i64 words] w (LivesPost w) := by
  have hgd := hid (fun u => good_c u ⟨0, 0, 0, words, 0, 0, 0, 0, 0, 0, 0⟩)
  have hok := hid (goodR_ok ⟨0, 0, 0, words, 0, 0, 0, 0, 0, 0, 0⟩)
  generalize goodK ⟨0, 0, 0, words, 0, 0, 0, 0, 0, 0, 0⟩ = kg at hgd hok
  unfold aggC at *
  go_enter Try.func4, Try.ntmps4
  go_upto_region 4 with (first | (go_at_call 7; (with_reducible refine (lives_c _).mono ?_); rintro e W1 ⟨rfl, hb⟩; have hB1 := hid hb; clear hb) | (go_at_call 8; (with_reducible refine (hgd.out _).mono ?_); rintro e W2 ⟨rfl, hb⟩; have hB2 := hid (Below.next hB1.out hb hB1.out.size); clear hb))
  have hgn : Hid (∀ u : World, Calls Try.prog 9 #[.agg #[.int .i64 kg.kind, .int .i64 kg.frm, .int .i64 kg.to, .int .i64 kg.words, .int .i64 kg.refresh, .int .i64 kg.lanes, .int .i64 kg.depth, .int .i64 kg.hold, .int .i64 kg.life, .int .i64 kg.rate, .int .i64 kg.cap]] u fun e w' => ∃ gb M, e = .returned (.pointer (some ⟨gb, 0, none⟩)) ∧ GateF w' M (fun _ => False) gb ⟨kg, [], newB kg.rate kg.cap, 0⟩ ∧ (∀ b, M b → u.heap.size ≤ b) ∧ Below u.heap.size u w') := hid (fun u => gnew_f u kg)
  have hbk := hid ((Below.refl W2.heap.size W2).alloc (Nat.le_refl _) (.cells #[.int .i64 kg.kind, .int .i64 kg.frm, .int .i64 kg.to, .int .i64 kg.words, .int .i64 kg.refresh, .int .i64 kg.lanes, .int .i64 kg.depth, .int .i64 kg.hold, .int .i64 kg.life, .int .i64 kg.rate, .int .i64 kg.cap] 23))
  have hB3 := hid (Below.next hB2.out hbk.out hB2.out.size)
  have hkp := pts.newA W2 #[.int .i64 kg.kind, .int .i64 kg.frm, .int .i64 kg.to, .int .i64 kg.words, .int .i64 kg.refresh, .int .i64 kg.lanes, .int .i64 kg.depth, .int .i64 kg.hold, .int .i64 kg.life, .int .i64 kg.rate, .int .i64 kg.cap] 23
  have k0 := hkp.cell 0
  have k1 := hkp.cell 1
  have k2 := hkp.cell 2
  have k3 := hkp.cell 3
  have k4 := hkp.cell 4
  have k5 := hkp.cell 5
  have k6 := hkp.cell 6
  have k7 := hkp.cell 7
  have k8 := hkp.cell 8
  have k9 := hkp.cell 9
  have k10 := hkp.cell 10
  have kl := hkp.lt
  simp only [List.getElem?_cons_zero, List.getElem?_cons_succ] at k0 k1 k2 k3 k4 k5 k6 k7 k8 k9 k10
  have hs3 := hid (show w.heap.size ≤ (W2.alloc (.cells #[.int .i64 kg.kind, .int .i64 kg.frm, .int .i64 kg.to, .int .i64 kg.words, .int .i64 kg.refresh, .int .i64 kg.lanes, .int .i64 kg.depth, .int .i64 kg.hold, .int .i64 kg.life, .int .i64 kg.rate, .int .i64 kg.cap] 23)).heap.size from hB3.out.size)
  generalize W2.alloc (.cells #[.int .i64 kg.kind, .int .i64 kg.frm, .int .i64 kg.to, .int .i64 kg.words, .int .i64 kg.refresh, .int .i64 kg.lanes, .int .i64 kg.depth, .int .i64 kg.hold, .int .i64 kg.life, .int .i64 kg.rate, .int .i64 kg.cap] 23) = W3 at hB3 k0 k1 k2 k3 k4 k5 k6 k7 k8 k9 k10 kl hs3 ⊢
  clear hkp hbk hgd hB2
  go_upto_region 5 with (first | (go_at_call 9; (with_reducible refine (hgn.out _).mono ?_); rintro e W4 ⟨gb, M4, rfl, hG, hge, hb⟩; have hG4 := hid hG; have hM4 := hid (fun b (hb : M4 b) => Nat.le_trans hs3.out (hge b hb)); have hB4 := hid (Below.next hB3.out hb hB3.out.size); clear hG hge hb))
  clear k0 k1 k2 k3 k4 k5 k6 k7 k8 k9 k10 kl
  go_upto_region 6 with (first | (go_at_call 13; (with_reducible refine (GateF.offerLit hG4.out 1 0 0 0 0 (show (0 : Int) < 1000000 by decide) rfl).mono ?_); rw [one_offer hok.out (by decide)]; rintro e W5 ⟨⟨ov, rfl⟩, M5, Wx, hG, hs, hC⟩; have hG5 := hid hG; have hB5 := hid (hB4.out.trans (hC.toBelow hB4.out.size hM4.out)); have hM5 := hid (fun b (hb : M5 b) => (hs b hb).elim (hM4.out b) (fun h => Nat.le_trans hB4.out.size h)); clear hG hs hC))
  have hst := hid (rstep_pnil hG5.out (now := 0) (m := oneMsg kg 1) (r := []) (one_rest hok.out 1))
  go_upto_region 7 with (first | (go_at_call 15; (with_reducible refine (hst.out).mono ?_); rintro e W6 ⟨⟨a6, c6, va6, n6, vc6, rfl⟩, hC⟩; have hB6 := hid (hB5.out.trans (hC.toBelow hB5.out.size hM5.out)); clear hC))
  have hq6 := hid (pts.newA W6 #[.int .i64 3, .int .i64 0, .slice a6 (oneMsg kg 1).words.length c6, .int .i64 (oneMsg kg 1).lane, .int .i64 (oneMsg kg 1).stamp, .int .i64 (oneMsg kg 1).late, .int .i64 (oneMsg kg 1).seq, .slice va6 n6 vc6] 44)
  have hbx := (Below.refl W6.heap.size W6).alloc (Nat.le_refl _) (.cells #[.int .i64 3, .int .i64 0, .slice a6 (oneMsg kg 1).words.length c6, .int .i64 (oneMsg kg 1).lane, .int .i64 (oneMsg kg 1).stamp, .int .i64 (oneMsg kg 1).late, .int .i64 (oneMsg kg 1).seq, .slice va6 n6 vc6] 44)
  have hB7 := hid (Below.next hB6.out hbx hB6.out.size)
  clear hbx hB6 hG5
  generalize W6.alloc (.cells #[.int .i64 3, .int .i64 0, .slice a6 (oneMsg kg 1).words.length c6, .int .i64 (oneMsg kg 1).lane, .int .i64 (oneMsg kg 1).stamp, .int .i64 (oneMsg kg 1).late, .int .i64 (oneMsg kg 1).seq, .slice va6 n6 vc6] 44) = W7 at hq6 hB7 ⊢
  go_upto_region 8 with (first | (go_at_call 10; (with_reducible refine (new_x _ 1).mono ?_); rintro e W8 ⟨pb, Mp, rfl, hP, hge, hb⟩; have hq8 := hid (hq6.out.below hb); have hB8 := hid (Below.next hB7.out hb hB7.out.size); clear hP hge hb) | (go_at_call 15; (with_reducible refine (rstep_gnil _ _ _).mono ?_); rintro e W9 ⟨rfl, hb⟩; have hq9 := hid (hq8.out.below hb); have hB9 := hid (Below.next hB8.out hb hB8.out.size); clear hb))
  have hbz := (Below.refl W9.heap.size W9).alloc (Nat.le_refl _) (.cells #[.int .i64 0, .int .i64 0, .slice none 0 0, .int .i64 0, .int .i64 0, .int .i64 0, .int .i64 0, .slice none 0 0] 44)
  have hpz := pts.newA W9 #[.int .i64 0, .int .i64 0, .slice none 0 0, .int .i64 0, .int .i64 0, .int .i64 0, .int .i64 0, .slice none 0 0] 44
  have hqz := hq9.out.below hbz
  have hBz := hid (Below.next hB9.out hbz hB9.out.size)
  have z0 := hpz.cell 0
  have z7 := hpz.cell 7
  have zl := hpz.lt
  have q0 := hqz.cell 0
  have q6 := hqz.cell 6
  have ql := hqz.lt
  simp only [List.getElem?_cons_zero, List.getElem?_cons_succ] at z0 z7 q0 q6
  generalize W9.alloc (.cells #[.int .i64 0, .int .i64 0, .slice none 0 0, .int .i64 0, .int .i64 0, .int .i64 0, .int .i64 0, .slice none 0 0] 44) = Wz at z0 z7 zl q0 q6 ql hBz ⊢
  clear hpz hqz hbz hq6
  have e0 : ((oneMsg kg 1).seq == 1) = true := rfl
  go_wp2_with (first | (go_at_call 17; (with_reducible refine (fits_nil _ _ _).mono ?_); rintro e w' ⟨rfl, rfl⟩) | (go_at_call 18; (with_reducible refine (steps_nil _ _ _).mono ?_); rintro e wF ⟨rfl, hb⟩; have hBF := hid (Below.next hBz.out hb hBz.out.size); clear hb))
  go_ret
  exact ⟨rfl, hBF.out⟩
end Go.Proofs.Ytggfallodkbgcaa.Ro
