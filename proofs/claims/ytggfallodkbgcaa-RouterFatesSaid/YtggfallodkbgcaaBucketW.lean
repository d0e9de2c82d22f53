/- DERIVED. Walks over the program's buckets. No statement is proved here. -/
import Derived.Test.YtggfallodkbgcaaSatW
import Derived.Test.YtggfallodkbgcaaRegR
namespace Go.Proofs.Ytggfallodkbgcaa.Gt
set_option linter.unusedVariables false
set_option linter.unusedSimpArgs false
open Go.RowKit Go.Proofs.Ytggfallodkbgcaa.K Go.Proofs.Ytggfallodkbgcaa.Lb Go.Proofs.Ytggfallodkbgcaa.La Go.Proofs.Ytggfallodkbgcaa.Cf
def encB (b : Bk) : List Value := [.int .i64 b.rate, .int .i64 b.cap, .int .i64 b.tokens, .int .i64 b.round]
def BucketAt (w : World) (bb : Nat) (b : Bk) : Prop := pts w bb (encB b) 92
theorem bnew_c (w : World) (rate limit : Int) : Calls Try.prog 25 #[.int .i64 rate, .int .i64 limit] w fun e w' => ∃ bb, e = .returned (.pointer (some ⟨bb, 0, none⟩)) ∧ w.heap.size ≤ bb ∧ BucketAt w' bb (newB rate limit) ∧ Below w.heap.size w w' := by
  have h1 := minTwo
  have h2 := maxTwo
  go_enter Try.func25, Try.ntmps25
  go_wp2
  go_ret
  exact ⟨_, rfl, Nat.le_refl _, pts.newA w _ _, (Below.refl _ _).alloc (Nat.le_refl _) _⟩
section
variable {w : World} {bb : Nat} {b : Bk}
theorem BucketAt.open (h : BucketAt w bb b) : pts w bb [.int .i64 b.rate, .int .i64 b.cap, .int .i64 b.tokens, .int .i64 b.round] 92 := h
set_option maxHeartbeats 1000000 in
set_option maxRecDepth 100000 in
theorem come_c (h : BucketAt w bb b) (r : Int) : Calls Try.prog 65 #[.pointer (some ⟨bb, 0, none⟩), .int .i64 r] w fun e w' => e = .returned (.tuple #[]) ∧ BucketAt w' bb (comeB b r) ∧ Chg (fun x => x = bb) w w' := by
  have h1 := minTwo
  have h0 := h.open
  have x3 := h0.cell 3
  have xl := h0.lt
  simp only [List.getElem?_cons_zero, List.getElem?_cons_succ] at x3
  replace h0 := hid h0
  clear h
  go_enter Try.func65, Try.ntmps65
  go_upto_region 1 with (first | (go_at_call 76; (with_reducible refine (sub_c _ _ _).mono ?_); rintro e w' ⟨rfl, rfl⟩))
  -- REG (*empennage/bucket.Bucket).come|1|come.1
  refine region_tab 19 [Sp.eq (.pointer (some ⟨bb, 0, none⟩)), Sp.eq (.pointer (some ⟨bb, 0, none⟩)), Sp.eq (.pointer (some ⟨bb, 0, none⟩)), Sp.eq (.pointer (some ⟨bb, 2, none⟩)), Sp.eq (.int .i64 b.tokens), Sp.eq (.pointer (some ⟨bb, 0, none⟩)), Sp.eq (.pointer (some ⟨bb, 0, none⟩)), Sp.eq (.pointer (some ⟨bb, 0, none⟩)), Sp.eq (.int .i64 b.rate), Sp.eq (.int .i64 (subT r b.round)), Sp.eq (.int .i64 (mulT b.rate (subT r b.round))), Sp.eq (.int .i64 (addT b.tokens (mulT b.rate (subT r b.round)))), Sp.eq (.pointer (some ⟨bb, 0, none⟩)), Sp.eq (.pointer (some ⟨bb, 0, none⟩)), Sp.eq (.pointer (some ⟨bb, 1, none⟩)), Sp.eq (.int .i64 b.cap), Sp.eq (.int .i64 (min (addT b.tokens (mulT b.rate (subT r b.round))) b.cap)), Sp.eq (.pointer (some ⟨bb, 0, none⟩)), Sp.eq (.pointer (some ⟨bb, 2, none⟩))] (fun _ _ _ _ _ h => h) (by kernel_rfl) (by kernel_rfl) ⟨?_, ?_, ?_, ?_, ?_, ?_, ?_, ?_, ?_, ?_, ?_, ?_, ?_, ?_, ?_, ?_, ?_, ?_, ?_, trivial⟩ ?_
  · intro ac gs u hb hg h
    have e0 : ac.tmps[0]?.getD undef = .pointer (some ⟨bb, 0, none⟩) := h.inm 0 rfl rfl
    refine opFree rfl ?_
    exact relMoveT _ rfl e0 (okP hg rfl)
  · intro ac gs u hb hg h
    have e0 : ac.tmps[0]?.getD undef = .pointer (some ⟨bb, 0, none⟩) := h.inm 0 rfl rfl
    refine opFree rfl ?_
    exact relMoveT _ rfl e0 (okP hg rfl)
  · intro ac gs u hb hg h
    have e12 : ac.tmps[12]?.getD undef = .pointer (some ⟨bb, 0, none⟩) := h.tm 1 12 rfl rfl
    refine opFree rfl ?_
    exact relRun (v := .pointer (some ⟨bb, 0, none⟩)) (w' := u) (by simp [go_sem, e12]) (okP hg rfl)
  · intro ac gs u hb hg h
    have e13 : ac.tmps[13]?.getD undef = .pointer (some ⟨bb, 0, none⟩) := h.tm 2 13 rfl rfl
    refine opFree rfl ?_
    exact relRun (v := .pointer (some ⟨bb, 2, none⟩)) (w' := u) (by simp [go_sem, e13]) (okP hg rfl)
  · intro ac gs u hb hg h
    have e14 : ac.tmps[14]?.getD undef = .pointer (some ⟨bb, 2, none⟩) := h.tm 3 14 rfl rfl
    refine opFree rfl ?_
    exact relRun (v := .int .i64 b.tokens) (w' := u) (by simp [go_sem, e14, ((h0.out.below hb).cell 2)]) (okP hg rfl)
  · intro ac gs u hb hg h
    have e0 : ac.tmps[0]?.getD undef = .pointer (some ⟨bb, 0, none⟩) := h.inm 0 rfl rfl
    refine opFree rfl ?_
    exact relMoveT _ rfl e0 (okP hg rfl)
  · intro ac gs u hb hg h
    have e16 : ac.tmps[16]?.getD undef = .pointer (some ⟨bb, 0, none⟩) := h.tm 5 16 rfl rfl
    refine opFree rfl ?_
    exact relRun (v := .pointer (some ⟨bb, 0, none⟩)) (w' := u) (by simp [go_sem, e16]) (okP hg rfl)
  · intro ac gs u hb hg h
    have e17 : ac.tmps[17]?.getD undef = .pointer (some ⟨bb, 0, none⟩) := h.tm 6 17 rfl rfl
    refine opFree rfl ?_
    exact relRun (v := .pointer (some ⟨bb, 0, none⟩)) (w' := u) (by simp [go_sem, e17]) (okP hg rfl)
  · intro ac gs u hb hg h
    have e18 : ac.tmps[18]?.getD undef = .pointer (some ⟨bb, 0, none⟩) := h.tm 7 18 rfl rfl
    refine opFree rfl ?_
    exact relRun (v := .int .i64 b.rate) (w' := u) (by simp [go_sem, e18, ((h0.out.below hb).cell 0)]) (okP hg rfl)
  · intro ac gs u hb hg h
    have e4 : ac.tmps[4]?.getD undef = .int .i64 (subT r b.round) := h.inm 4 rfl rfl
    refine opFree rfl ?_
    exact relMoveT _ rfl e4 (okP hg rfl)
  · intro ac gs u hb hg h
    have e19 : ac.tmps[19]?.getD undef = .int .i64 b.rate := h.tm 8 19 rfl rfl
    have e20 : ac.tmps[20]?.getD undef = .int .i64 (subT r b.round) := h.tm 9 20 rfl rfl
    refine opFree rfl ?_
    refine relCall (f := _) (args := #[.int .i64 b.rate, .int .i64 (subT r b.round)]) (by simp [go_sem, e19, e20]; rfl) ?_
    refine (mul_c _ _ _).mono ?_
    rintro e w' ⟨rfl, rfl⟩
    exact ⟨_, rfl, okP hg rfl⟩
  · intro ac gs u hb hg h
    have e15 : ac.tmps[15]?.getD undef = .int .i64 b.tokens := h.tm 4 15 rfl rfl
    have e21 : ac.tmps[21]?.getD undef = .int .i64 (mulT b.rate (subT r b.round)) := h.tm 10 21 rfl rfl
    refine opFree rfl ?_
    refine relCall (f := _) (args := #[.int .i64 b.tokens, .int .i64 (mulT b.rate (subT r b.round))]) (by simp [go_sem, e15, e21]; rfl) ?_
    refine (add_c _ _ _).mono ?_
    rintro e w' ⟨rfl, rfl⟩
    exact ⟨_, rfl, okP hg rfl⟩
  · intro ac gs u hb hg h
    have e0 : ac.tmps[0]?.getD undef = .pointer (some ⟨bb, 0, none⟩) := h.inm 0 rfl rfl
    refine opFree rfl ?_
    exact relMoveT _ rfl e0 (okP hg rfl)
  · intro ac gs u hb hg h
    have e23 : ac.tmps[23]?.getD undef = .pointer (some ⟨bb, 0, none⟩) := h.tm 12 23 rfl rfl
    refine opFree rfl ?_
    exact relRun (v := .pointer (some ⟨bb, 0, none⟩)) (w' := u) (by simp [go_sem, e23]) (okP hg rfl)
  · intro ac gs u hb hg h
    have e24 : ac.tmps[24]?.getD undef = .pointer (some ⟨bb, 0, none⟩) := h.tm 13 24 rfl rfl
    refine opFree rfl ?_
    exact relRun (v := .pointer (some ⟨bb, 1, none⟩)) (w' := u) (by simp [go_sem, e24]) (okP hg rfl)
  · intro ac gs u hb hg h
    have e25 : ac.tmps[25]?.getD undef = .pointer (some ⟨bb, 1, none⟩) := h.tm 14 25 rfl rfl
    refine opFree rfl ?_
    exact relRun (v := .int .i64 b.cap) (w' := u) (by simp [go_sem, e25, ((h0.out.below hb).cell 1)]) (okP hg rfl)
  · intro ac gs u hb hg h
    have e22 : ac.tmps[22]?.getD undef = .int .i64 (addT b.tokens (mulT b.rate (subT r b.round))) := h.tm 11 22 rfl rfl
    have e26 : ac.tmps[26]?.getD undef = .int .i64 b.cap := h.tm 15 26 rfl rfl
    refine opFree rfl ?_
    exact relRun (v := .int .i64 (min (addT b.tokens (mulT b.rate (subT r b.round))) b.cap)) (w' := u) (by simp [go_sem, e22, e26, h1]) (okP hg rfl)
  · intro ac gs u hb hg h
    have e11 : ac.tmps[11]?.getD undef = .pointer (some ⟨bb, 0, none⟩) := h.tm 0 11 rfl rfl
    refine opFree rfl ?_
    exact relRun (v := .pointer (some ⟨bb, 0, none⟩)) (w' := u) (by simp [go_sem, e11]) (okP hg rfl)
  · intro ac gs u hb hg h
    have e28 : ac.tmps[28]?.getD undef = .pointer (some ⟨bb, 0, none⟩) := h.tm 17 28 rfl rfl
    refine opFree rfl ?_
    exact relRun (v := .pointer (some ⟨bb, 2, none⟩)) (w' := u) (by simp [go_sem, e28]) (okP hg rfl)
  intro vs gs u hb hg hr
  have r0 : vs 0 = .pointer (some ⟨bb, 0, none⟩) := hr 0 (by decide)
  have r1 : vs 1 = .pointer (some ⟨bb, 0, none⟩) := hr 1 (by decide)
  have r2 : vs 2 = .pointer (some ⟨bb, 0, none⟩) := hr 2 (by decide)
  have r3 : vs 3 = .pointer (some ⟨bb, 2, none⟩) := hr 3 (by decide)
  have r4 : vs 4 = .int .i64 b.tokens := hr 4 (by decide)
  have r5 : vs 5 = .pointer (some ⟨bb, 0, none⟩) := hr 5 (by decide)
  have r6 : vs 6 = .pointer (some ⟨bb, 0, none⟩) := hr 6 (by decide)
  have r7 : vs 7 = .pointer (some ⟨bb, 0, none⟩) := hr 7 (by decide)
  have r8 : vs 8 = .int .i64 b.rate := hr 8 (by decide)
  have r9 : vs 9 = .int .i64 (subT r b.round) := hr 9 (by decide)
  have r10 : vs 10 = .int .i64 (mulT b.rate (subT r b.round)) := hr 10 (by decide)
  have r11 : vs 11 = .int .i64 (addT b.tokens (mulT b.rate (subT r b.round))) := hr 11 (by decide)
  have r12 : vs 12 = .pointer (some ⟨bb, 0, none⟩) := hr 12 (by decide)
  have r13 : vs 13 = .pointer (some ⟨bb, 0, none⟩) := hr 13 (by decide)
  have r14 : vs 14 = .pointer (some ⟨bb, 1, none⟩) := hr 14 (by decide)
  have r15 : vs 15 = .int .i64 b.cap := hr 15 (by decide)
  have r16 : vs 16 = .int .i64 (min (addT b.tokens (mulT b.rate (subT r b.round))) b.cap) := hr 16 (by decide)
  have r17 : vs 17 = .pointer (some ⟨bb, 0, none⟩) := hr 17 (by decide)
  have r18 : vs 18 = .pointer (some ⟨bb, 2, none⟩) := hr 18 (by decide)
  simp only [List.take_succ_cons, List.take_zero, List.drop_succ_cons, List.drop_zero, putOps, r0, r1, r2, r3, r4, r5, r6, r7, r8, r9, r10, r11, r12, r13, r14, r15, r16, r17, r18]
  simp only [Act.put, List.setIfInBounds_toArray, List.set_cons_succ, List.set_cons_zero]
  clear hr r0 r1 r2 r3 r4 r5 r6 r7 r8 r9 r10 r11 r12 r13 r14 r15 r16 r17 r18
  -- GER
  have hp := h0.out.below hb
  have y2 := hp.cell 2
  have y3 := hp.cell 3
  have yl := hp.lt
  have f2 := hp.frozen 2
  have f3 := hp.frozen 3
  simp only [List.getElem?_cons_zero, List.getElem?_cons_succ] at y2 y3
  have hfin := hid (show BucketAt ((u.setCell ⟨bb, 2, none⟩ (.int .i64 (comeB b r).tokens)).setCell ⟨bb, 3, none⟩ (.int .i64 (comeB b r).round)) bb (comeB b r) ∧ Chg (fun x => x = bb) w ((u.setCell ⟨bb, 2, none⟩ (.int .i64 (comeB b r).tokens)).setCell ⟨bb, 3, none⟩ (.int .i64 (comeB b r).round)) from ⟨(hp.set 2 _).set 3 _, Chg.setB (M := fun x => x = bb) (Chg.setB (M := fun x => x = bb) (Chg.of_below hb) rfl) rfl⟩)
  unfold comeB at hfin
  clear hp hb hg h0 x3 xl
  go_wp2_with (first | (go_at_call 32; (with_reducible refine (add_c _ _ _).mono ?_); rintro e w' ⟨rfl, rfl⟩))
  go_end0
  exact ⟨rfl, hfin.out⟩
theorem tokens_nil (w : World) (r : Int) : Calls Try.prog 52 #[.pointer none, .int .i64 r] w fun e w' => e = .returned (.int .i64 0) ∧ w = w' := by
  go_enter Try.func52, Try.ntmps52
  go_wp2
  go_ret
  exact ⟨rfl, rfl⟩
theorem tokens_c (h : BucketAt w bb b) (r : Int) : Calls Try.prog 52 #[.pointer (some ⟨bb, 0, none⟩), .int .i64 r] w fun e w' => e = .returned (.int .i64 (comeB b r).tokens) ∧ BucketAt w' bb (comeB b r) ∧ Chg (fun x => x = bb) w w' := by
  have hc := hid (come_c h r)
  clear h
  go_enter Try.func52, Try.ntmps52
  go_wp2_with (first | (go_at_call 65; (with_reducible refine (hc.out).mono ?_); rintro e w1 ⟨rfl, hB, hC⟩; have x2 := hB.open.cell 2; have xl := hB.open.lt; simp only [List.getElem?_cons_zero, List.getElem?_cons_succ] at x2; replace hB := hid hB; replace hC := hid hC))
  go_ret
  exact ⟨rfl, hB.out, hC.out⟩
theorem btake_c (h : BucketAt w bb b) (hok : b.Ok) (r : Int) : Calls Try.prog 29 #[.pointer (some ⟨bb, 0, none⟩), .int .i64 r] w fun e w' => e = .returned (.bool (decide ((comeB b r).tokens ≠ 0))) ∧ BucketAt w' bb (if (comeB b r).tokens = 0 then comeB b r else useB (comeB b r)) ∧ Chg (fun x => x = bb) w w' := by
  have hc := hid (tokens_c h r)
  have ht := (comeB_ok hok r).t
  have hc64 := (comeB_ok hok r).c
  clear h hok
  generalize comeB b r = b' at hc ht hc64
  obtain ⟨t0, t1⟩ := ht
  obtain ⟨c0, c1⟩ := hc64
  by_cases h0 : b'.tokens = 0
  · have e0 : (b'.tokens == 0) = true := by simp [h0]
    have e1 := hid (show decide (b'.tokens ≠ 0) = false by simp [h0])
    rw [if_pos h0]
    replace h0 := hid h0
    rw [e1.out]
    go_enter Try.func29, Try.ntmps29
    go_wp2_with (first | (go_at_call 52; (with_reducible refine (hc.out).mono ?_); rintro e w1 ⟨rfl, hB, hC⟩; replace hB := hid hB; replace hC := hid hC))
    go_ret
    exact ⟨rfl, hB.out, hC.out⟩
  · have e0 : (b'.tokens == 0) = false := by simpa using h0
    have e1 := hid (show decide (b'.tokens ≠ 0) = true by simpa using h0)
    rw [if_neg h0]
    replace h0 := hid h0
    rw [e1.out]
    go_enter Try.func29, Try.ntmps29
    go_wp2_with (first | (go_at_call 52; (with_reducible refine (hc.out).mono ?_); rintro e w1 ⟨rfl, hB, hC⟩; have x2 := hB.open.cell 2; have xl := hB.open.lt; have f2 := hB.open.frozen 2; simp only [List.getElem?_cons_zero, List.getElem?_cons_succ] at x2; replace hB := hid hB; replace hC := hid hC))
    go_ret
    exact ⟨rfl, hB.out.open.set 2 (.int .i64 (b'.tokens - 1)), Chg.setB (M := fun x => x = bb) hC.out rfl⟩
end
end Go.Proofs.Ytggfallodkbgcaa.Gt
