/- DERIVED. The walk over the statement QueueNil: a port that is not there holds nothing. -/
import Derived.Test.YtnlmkllhmldgiaaQueueN
import Derived.Test.YtnlmkllhmldgiaaQueueI
import Derived.Test.YtnlmkllhmldgiaaRefMsg
import Derived.Test.YtnlmkllhmldgiaaRegR
namespace Go.Proofs.Ytnlmkllhmldgiaa.Qu
set_option linter.unusedVariables false
set_option linter.unusedSimpArgs false
open Go.RowKit Go.Proofs.Ytnlmkllhmldgiaa.K Go.Proofs.Ytnlmkllhmldgiaa.Lb Go.Proofs.Ytnlmkllhmldgiaa.Wh
set_option maxHeartbeats 4000000 in
set_option maxRecDepth 100000 in
theorem qnil_c {w : World} {a : Option Addr} {c : Nat} {q : St} {ok : Nat → Prop} (hw0 : IntsAt ok w (.slice a q.m.words.length c) q.m.words) : Calls Try.prog 7 #[.agg #[.int .i64 q.k, .int .i64 q.p, .int .i64 q.u, .int .i64 q.n, .slice a q.m.words.length c, .int .i64 q.m.lane, .int .i64 q.m.stamp, .int .i64 q.m.late, .int .i64 q.m.seq]] w (LivesPost w) := by
  have hb0 := (Below.refl w.heap.size w).alloc (Nat.le_refl _) (.cells #[.int .i64 q.k, .int .i64 q.p, .int .i64 q.u, .int .i64 q.n, .slice a q.m.words.length c, .int .i64 q.m.lane, .int .i64 q.m.stamp, .int .i64 q.m.late, .int .i64 q.m.seq] 41)
  have hS0 := hid (pts.newA w #[.int .i64 q.k, .int .i64 q.p, .int .i64 q.u, .int .i64 q.n, .slice a q.m.words.length c, .int .i64 q.m.lane, .int .i64 q.m.stamp, .int .i64 q.m.late, .int .i64 q.m.seq] 41)
  have hw1 := hid (hw0.below hb0)
  replace hb0 := hid hb0
  clear hw0
  obtain ⟨sb, hsb⟩ : ∃ sb, sb = w.heap.size := ⟨_, rfl⟩
  go_enter Try.func7, Try.ntmps7
  go_upto_region 4 with (first | (go_at_call 8; (with_reducible refine (lives_c _).mono ?_); rintro e W ⟨rfl, hb⟩; have hB := hid (Below.next hb0.out hb hb0.out.size); have hBl := hid (Nat.le_trans hb0.out.size hb.size); have hS := hid (hS0.out.below hb); have hw := hid (hw1.out.below hb); clear hb hb0 hS0 hw1))
  rw [← hsb] at hS ⊢
  replace hsb := hid hsb
  have y0 := hS.out.cell 0
  have y1 := hS.out.cell 1
  have y2 := hS.out.cell 2
  have y3 := hS.out.cell 3
  have y4 := hS.out.cell 4
  have y5 := hS.out.cell 5
  have y6 := hS.out.cell 6
  have y7 := hS.out.cell 7
  have y8 := hS.out.cell 8
  have yl := hS.out.lt
  simp only [List.getElem?_cons_zero, List.getElem?_cons_succ] at y0 y1 y2 y3 y4 y5 y6 y7 y8
  go_upto_region 5 with (first | (go_at_call 16; (with_reducible refine (message_c q hw.out).mono ?_); rintro e W1 ⟨rfl, hb⟩; have hB1 := hid (Below.next hB.out hb hBl.out); have hBl1 := hid (Nat.le_trans hBl.out hb.size); have hS1 := hid (hS.out.below hb); clear hb) | (go_at_call 12; (with_reducible refine (pput_nil _ _ _ _ ⟨[], q.m.lane, q.m.stamp, q.m.late, q.m.seq⟩).mono ?_); rintro e W2 ⟨rfl, hb⟩; have hB2 := hid (Below.next hB1.out hb hBl1.out); have hBl2 := hid (Nat.le_trans hBl1.out hb.size); have hS2 := hid (hS1.out.below hb); clear hb y0 y1 y2 y3 y4 y5 y6 y7 y8 yl))
  have y0 := hS2.out.cell 0
  have y1 := hS2.out.cell 1
  have y2 := hS2.out.cell 2
  have y3 := hS2.out.cell 3
  have y4 := hS2.out.cell 4
  have y5 := hS2.out.cell 5
  have y6 := hS2.out.cell 6
  have y7 := hS2.out.cell 7
  have y8 := hS2.out.cell 8
  have yl := hS2.out.lt
  simp only [List.getElem?_cons_zero, List.getElem?_cons_succ] at y0 y1 y2 y3 y4 y5 y6 y7 y8
  go_upto_region 6 with (first | (go_at_call 10; (with_reducible refine (pask_nil _ _ _ _).mono ?_); rintro e W3 ⟨rfl, hb⟩; have hB3 := hid (Below.next hB2.out hb hBl2.out); have hBl3 := hid (Nat.le_trans hBl2.out hb.size); have hS3 := hid (hS2.out.below hb); clear hb y0 y1 y2 y3 y4 y5 y6 y7 y8 yl))
  have hN := pts.newA W3 #[.slice none 0 0, .int .i64 0, .int .i64 0, .int .i64 0, .int .i64 0] 27
  have hb4 := (Below.refl W3.heap.size W3).alloc (Nat.le_refl _) (.cells #[.slice none 0 0, .int .i64 0, .int .i64 0, .int .i64 0, .int .i64 0] 27)
  have hB4 := hid (Below.next hB3.out hb4 hBl3.out)
  have hS2 := hid (hS3.out.below hb4)
  clear hb4
  replace hN := hid hN
  go_upto_region 7 with (first | (go_at_call 21; (with_reducible refine (pflush_nil _).mono ?_); rintro e W5 ⟨rfl, rfl⟩))
  generalize W3.alloc (.cells #[.slice none 0 0, .int .i64 0, .int .i64 0, .int .i64 0, .int .i64 0] 27) = W4 at hN hB4 hS2 ⊢
  generalize W3.heap.size = nb at hN ⊢
  -- REG empennage/empennagelaw18.QueueNil|7|QueueNil.7
  refine region_tab 57 [Sp.eq (.int .i64 0), Sp.eq (.bool true), Sp.eq (.bool true), Sp.eq (.bool false), Sp.eq (.bool true), Sp.eq (.bool true), Sp.eq (.bool true), Sp.eq (.int .i64 10), Sp.eq (.bool true), Sp.eq (.bool true), Sp.eq (.bool true), Sp.eq (.agg #[.slice none 0 0, .int .i64 0, .int .i64 0, .int .i64 0, .int .i64 0]), Sp.eq (.agg #[.slice none 0 0, .int .i64 0, .int .i64 0, .int .i64 0, .int .i64 0]), Sp.eq (.bool true), Sp.eq (.bool true), Sp.eq (.bool true), Sp.eq (.int .i64 2), Sp.eq (.bool true), Sp.eq (.bool true), Sp.eq (.bool true), Sp.eq (.slice none 0 0), Sp.eq (.int .i64 0), Sp.eq (.slice none 0 0), Sp.eq (.int .i64 0), Sp.eq (.int .i64 0), Sp.eq (.pointer none), Sp.eq (.pointer (some ⟨sb, 3, none⟩)), Sp.eq (.int .i64 q.n), Sp.eq (.slice none 0 0), Sp.eq (.int .i64 0), Sp.eq (.int .i64 0), Sp.eq (.pointer none), Sp.eq (.pointer (some ⟨sb, 3, none⟩)), Sp.eq (.int .i64 q.n), Sp.eq (.slice none 0 0), Sp.eq (.int .i64 0), Sp.eq (.int .i64 0), Sp.eq (.pointer none), Sp.eq (.slice none 0 0), Sp.eq (.int .i64 0), Sp.eq (.int .i64 0), Sp.eq (.pointer none), Sp.eq (.slice none 0 0), Sp.eq (.int .i64 0), Sp.eq (.int .i64 0), Sp.eq (.pointer none), Sp.eq (.int .i64 0), Sp.eq (.int .i64 0), Sp.eq (.bool true), Sp.eq (.bool true), Sp.eq (.bool true), Sp.eq (.pointer none), Sp.eq (.pointer (some ⟨sb, 1, none⟩)), Sp.eq (.int .i64 q.p), Sp.eq (.bool false), Sp.eq (.bool true), Sp.eq (.bool true)] (fun _ _ _ _ _ h => h) (by kernel_rfl) (by kernel_rfl) ⟨?_, ?_, ?_, ?_, ?_, ?_, ?_, ?_, ?_, ?_, ?_, ?_, ?_, ?_, ?_, ?_, ?_, ?_, ?_, ?_, ?_, ?_, ?_, ?_, ?_, ?_, ?_, ?_, ?_, ?_, ?_, ?_, ?_, ?_, ?_, ?_, ?_, ?_, ?_, ?_, ?_, ?_, ?_, ?_, ?_, ?_, ?_, ?_, ?_, ?_, ?_, ?_, ?_, ?_, ?_, ?_, ?_, trivial⟩ ?_
  · intro ac gs u hb hg h
    have e4 : ac.tmps[4]?.getD undef = .int .i64 0 := h.inm 4 rfl rfl
    refine opFree rfl ?_
    exact relMoveT _ rfl e4 (okP hg rfl)
  · intro ac gs u hb hg h
    have e37 : ac.tmps[37]?.getD undef = .int .i64 0 := h.tm 0 37 rfl rfl
    refine opFree rfl ?_
    exact relRun (v := .bool true) (w' := u) (by simp [go_sem, e37]) (okP hg rfl)
  · intro ac gs u hb hg h
    have e38 : ac.tmps[38]?.getD undef = .bool true := h.tm 1 38 rfl rfl
    refine opFree rfl ?_
    exact relMoveT _ rfl e38 (okP hg rfl)
  · intro ac gs u hb hg h
    have e39 : ac.tmps[39]?.getD undef = .bool true := h.tm 2 39 rfl rfl
    have e5 : ac.tmps[5]?.getD undef = .bool false := h.inm 5 rfl rfl
    refine opWant 2 39 rfl rfl e39 ?_
    exact relMoveT _ rfl e5 (okP hg rfl)
  · intro ac gs u hb hg h
    have e39 : ac.tmps[39]?.getD undef = .bool true := h.tm 2 39 rfl rfl
    have e40 : ac.tmps[40]?.getD undef = .bool false := h.tm 3 40 rfl rfl
    refine opWant 2 39 rfl rfl e39 ?_
    exact relRun (v := .bool true) (w' := u) (by simp [go_sem, e39, e40]) (okP hg rfl)
  · intro ac gs u hb hg h
    have e39 : ac.tmps[39]?.getD undef = .bool true := h.tm 2 39 rfl rfl
    have e41 : ac.tmps[41]?.getD undef = .bool true := h.tm 4 41 rfl rfl
    refine opFree rfl ?_
    exact relRun (v := .bool true) (w' := u) (by simp [go_sem, e39, e41]) (okP hg rfl)
  · intro ac gs u hb hg h
    have e42 : ac.tmps[42]?.getD undef = .bool true := h.tm 5 42 rfl rfl
    refine opFree rfl ?_
    exact relMoveT _ rfl e42 (okP hg rfl)
  · intro ac gs u hb hg h
    have e43 : ac.tmps[43]?.getD undef = .bool true := h.tm 6 43 rfl rfl
    have e6 : ac.tmps[6]?.getD undef = .int .i64 10 := h.inm 6 rfl rfl
    refine opWant 6 43 rfl rfl e43 ?_
    exact relMoveT _ rfl e6 (okP hg rfl)
  · intro ac gs u hb hg h
    have e43 : ac.tmps[43]?.getD undef = .bool true := h.tm 6 43 rfl rfl
    have e44 : ac.tmps[44]?.getD undef = .int .i64 10 := h.tm 7 44 rfl rfl
    refine opWant 6 43 rfl rfl e43 ?_
    exact relRun (v := .bool true) (w' := u) (by simp [go_sem, e43, e44]) (okP hg rfl)
  · intro ac gs u hb hg h
    have e43 : ac.tmps[43]?.getD undef = .bool true := h.tm 6 43 rfl rfl
    have e45 : ac.tmps[45]?.getD undef = .bool true := h.tm 8 45 rfl rfl
    refine opFree rfl ?_
    exact relRun (v := .bool true) (w' := u) (by simp [go_sem, e43, e45]) (okP hg rfl)
  · intro ac gs u hb hg h
    have e46 : ac.tmps[46]?.getD undef = .bool true := h.tm 9 46 rfl rfl
    refine opFree rfl ?_
    exact relMoveT _ rfl e46 (okP hg rfl)
  · intro ac gs u hb hg h
    have e47 : ac.tmps[47]?.getD undef = .bool true := h.tm 10 47 rfl rfl
    have e7 : ac.tmps[7]?.getD undef = .pointer (some ⟨nb, 0, none⟩) := h.inm 7 rfl rfl
    refine opWant 10 47 rfl rfl e47 ?_
    exact relRun (v := .agg #[.slice none 0 0, .int .i64 0, .int .i64 0, .int .i64 0, .int .i64 0]) (w' := u) (by simp [go_sem, e47, e7, ((hN.out.below hb).cell 0), ((hN.out.below hb).cell 1), ((hN.out.below hb).cell 2), ((hN.out.below hb).cell 3), ((hN.out.below hb).cell 4)]) (okP hg rfl)
  · intro ac gs u hb hg h
    have e47 : ac.tmps[47]?.getD undef = .bool true := h.tm 10 47 rfl rfl
    refine opWant 10 47 rfl rfl e47 ?_
    exact relRun (v := .agg #[.slice none 0 0, .int .i64 0, .int .i64 0, .int .i64 0, .int .i64 0]) (w' := u) (by simp [go_sem, e47]) (okP hg rfl)
  · intro ac gs u hb hg h
    have e47 : ac.tmps[47]?.getD undef = .bool true := h.tm 10 47 rfl rfl
    have e48 : ac.tmps[48]?.getD undef = .agg #[.slice none 0 0, .int .i64 0, .int .i64 0, .int .i64 0, .int .i64 0] := h.tm 11 48 rfl rfl
    have e49 : ac.tmps[49]?.getD undef = .agg #[.slice none 0 0, .int .i64 0, .int .i64 0, .int .i64 0, .int .i64 0] := h.tm 12 49 rfl rfl
    refine opWant 10 47 rfl rfl e47 ?_
    refine relCall (f := _) (args := #[.agg #[.slice none 0 0, .int .i64 0, .int .i64 0, .int .i64 0, .int .i64 0], .agg #[.slice none 0 0, .int .i64 0, .int .i64 0, .int .i64 0, .int .i64 0]]) (by simp [go_sem, e47, e48, e49]; rfl) ?_
    refine (R2.one_eq (ok1 := fun _ => True) (ok2 := fun _ => True) (w := u) (a := none) (b := none) (c := 0) (d := 0) (m := zeroN) (m' := zeroN) (IntsAt.nil _ _) (IntsAt.nil _ _) rfl).mono ?_
    rintro e w' ⟨rfl, hb'⟩
    exact ⟨_, rfl, okB hg hb' rfl⟩
  · intro ac gs u hb hg h
    have e47 : ac.tmps[47]?.getD undef = .bool true := h.tm 10 47 rfl rfl
    have e50 : ac.tmps[50]?.getD undef = .bool true := h.tm 13 50 rfl rfl
    refine opFree rfl ?_
    exact relRun (v := .bool true) (w' := u) (by simp [go_sem, e47, e50]) (okP hg rfl)
  · intro ac gs u hb hg h
    have e51 : ac.tmps[51]?.getD undef = .bool true := h.tm 14 51 rfl rfl
    refine opFree rfl ?_
    exact relMoveT _ rfl e51 (okP hg rfl)
  · intro ac gs u hb hg h
    have e52 : ac.tmps[52]?.getD undef = .bool true := h.tm 15 52 rfl rfl
    have e8 : ac.tmps[8]?.getD undef = .int .i64 2 := h.inm 8 rfl rfl
    refine opWant 15 52 rfl rfl e52 ?_
    exact relMoveT _ rfl e8 (okP hg rfl)
  · intro ac gs u hb hg h
    have e52 : ac.tmps[52]?.getD undef = .bool true := h.tm 15 52 rfl rfl
    have e53 : ac.tmps[53]?.getD undef = .int .i64 2 := h.tm 16 53 rfl rfl
    refine opWant 15 52 rfl rfl e52 ?_
    exact relRun (v := .bool true) (w' := u) (by simp [go_sem, e52, e53]) (okP hg rfl)
  · intro ac gs u hb hg h
    have e52 : ac.tmps[52]?.getD undef = .bool true := h.tm 15 52 rfl rfl
    have e54 : ac.tmps[54]?.getD undef = .bool true := h.tm 17 54 rfl rfl
    refine opFree rfl ?_
    exact relRun (v := .bool true) (w' := u) (by simp [go_sem, e52, e54]) (okP hg rfl)
  · intro ac gs u hb hg h
    have e55 : ac.tmps[55]?.getD undef = .bool true := h.tm 18 55 rfl rfl
    refine opFree rfl ?_
    exact relMoveT _ rfl e55 (okP hg rfl)
  · intro ac gs u hb hg h
    have e56 : ac.tmps[56]?.getD undef = .bool true := h.tm 19 56 rfl rfl
    have e9 : ac.tmps[9]?.getD undef = .slice none 0 0 := h.inm 9 rfl rfl
    refine opWant 19 56 rfl rfl e56 ?_
    exact relMoveT _ rfl e9 (okP hg rfl)
  · intro ac gs u hb hg h
    have e56 : ac.tmps[56]?.getD undef = .bool true := h.tm 19 56 rfl rfl
    have e57 : ac.tmps[57]?.getD undef = .slice none 0 0 := h.tm 20 57 rfl rfl
    refine opWant 19 56 rfl rfl e56 ?_
    exact relRun (v := .int .i64 0) (w' := u) (by simp [go_sem, e56, e57]) (okP hg rfl)
  · intro ac gs u hb hg h
    have e56 : ac.tmps[56]?.getD undef = .bool true := h.tm 19 56 rfl rfl
    have e10 : ac.tmps[10]?.getD undef = .slice none 0 0 := h.inm 10 rfl rfl
    refine opWant 19 56 rfl rfl e56 ?_
    exact relMoveT _ rfl e10 (okP hg rfl)
  · intro ac gs u hb hg h
    have e56 : ac.tmps[56]?.getD undef = .bool true := h.tm 19 56 rfl rfl
    have e59 : ac.tmps[59]?.getD undef = .slice none 0 0 := h.tm 22 59 rfl rfl
    refine opWant 19 56 rfl rfl e56 ?_
    exact relRun (v := .int .i64 0) (w' := u) (by simp [go_sem, e56, e59]) (okP hg rfl)
  · intro ac gs u hb hg h
    have e56 : ac.tmps[56]?.getD undef = .bool true := h.tm 19 56 rfl rfl
    have e58 : ac.tmps[58]?.getD undef = .int .i64 0 := h.tm 21 58 rfl rfl
    have e60 : ac.tmps[60]?.getD undef = .int .i64 0 := h.tm 23 60 rfl rfl
    refine opWant 19 56 rfl rfl e56 ?_
    exact relRun (v := .int .i64 0) (w' := u) (by simp [go_sem, e56, e58, e60, (show IntKind.i64.wrap 0 = 0 by decide)]) (okP hg rfl)
  · intro ac gs u hb hg h
    have e56 : ac.tmps[56]?.getD undef = .bool true := h.tm 19 56 rfl rfl
    have e3 : ac.tmps[3]?.getD undef = .pointer none := h.inm 3 rfl rfl
    refine opWant 19 56 rfl rfl e56 ?_
    exact relMoveT _ rfl e3 (okP hg rfl)
  · intro ac gs u hb hg h
    have e56 : ac.tmps[56]?.getD undef = .bool true := h.tm 19 56 rfl rfl
    have e1 : ac.tmps[1]?.getD undef = .pointer (some ⟨sb, 0, none⟩) := h.inm 1 rfl rfl
    refine opWant 19 56 rfl rfl e56 ?_
    exact relRun (v := .pointer (some ⟨sb, 3, none⟩)) (w' := u) (by simp [go_sem, e56, e1]) (okP hg rfl)
  · intro ac gs u hb hg h
    have e56 : ac.tmps[56]?.getD undef = .bool true := h.tm 19 56 rfl rfl
    have e63 : ac.tmps[63]?.getD undef = .pointer (some ⟨sb, 3, none⟩) := h.tm 26 63 rfl rfl
    refine opWant 19 56 rfl rfl e56 ?_
    exact relRun (v := .int .i64 q.n) (w' := u) (by simp [go_sem, e56, e63, ((hS2.out.below hb).cell 3)]) (okP hg rfl)
  · intro ac gs u hb hg h
    have e56 : ac.tmps[56]?.getD undef = .bool true := h.tm 19 56 rfl rfl
    have e62 : ac.tmps[62]?.getD undef = .pointer none := h.tm 25 62 rfl rfl
    have e64 : ac.tmps[64]?.getD undef = .int .i64 q.n := h.tm 27 64 rfl rfl
    refine opWant 19 56 rfl rfl e56 ?_
    refine relCall (f := _) (args := #[.pointer none, .int .i64 q.n]) (by simp [go_sem, e56, e62, e64]; rfl) ?_
    refine (pexpire_nil u q.n).mono ?_
    rintro e w' ⟨rfl, rfl⟩
    exact ⟨_, rfl, okP hg rfl⟩
  · intro ac gs u hb hg h
    have e56 : ac.tmps[56]?.getD undef = .bool true := h.tm 19 56 rfl rfl
    have e65 : ac.tmps[65]?.getD undef = .slice none 0 0 := h.tm 28 65 rfl rfl
    refine opWant 19 56 rfl rfl e56 ?_
    exact relRun (v := .int .i64 0) (w' := u) (by simp [go_sem, e56, e65]) (okP hg rfl)
  · intro ac gs u hb hg h
    have e56 : ac.tmps[56]?.getD undef = .bool true := h.tm 19 56 rfl rfl
    have e61 : ac.tmps[61]?.getD undef = .int .i64 0 := h.tm 24 61 rfl rfl
    have e66 : ac.tmps[66]?.getD undef = .int .i64 0 := h.tm 29 66 rfl rfl
    refine opWant 19 56 rfl rfl e56 ?_
    exact relRun (v := .int .i64 0) (w' := u) (by simp [go_sem, e56, e61, e66, (show IntKind.i64.wrap 0 = 0 by decide)]) (okP hg rfl)
  · intro ac gs u hb hg h
    have e56 : ac.tmps[56]?.getD undef = .bool true := h.tm 19 56 rfl rfl
    have e3 : ac.tmps[3]?.getD undef = .pointer none := h.inm 3 rfl rfl
    refine opWant 19 56 rfl rfl e56 ?_
    exact relMoveT _ rfl e3 (okP hg rfl)
  · intro ac gs u hb hg h
    have e56 : ac.tmps[56]?.getD undef = .bool true := h.tm 19 56 rfl rfl
    have e1 : ac.tmps[1]?.getD undef = .pointer (some ⟨sb, 0, none⟩) := h.inm 1 rfl rfl
    refine opWant 19 56 rfl rfl e56 ?_
    exact relRun (v := .pointer (some ⟨sb, 3, none⟩)) (w' := u) (by simp [go_sem, e56, e1]) (okP hg rfl)
  · intro ac gs u hb hg h
    have e56 : ac.tmps[56]?.getD undef = .bool true := h.tm 19 56 rfl rfl
    have e69 : ac.tmps[69]?.getD undef = .pointer (some ⟨sb, 3, none⟩) := h.tm 32 69 rfl rfl
    refine opWant 19 56 rfl rfl e56 ?_
    exact relRun (v := .int .i64 q.n) (w' := u) (by simp [go_sem, e56, e69, ((hS2.out.below hb).cell 3)]) (okP hg rfl)
  · intro ac gs u hb hg h
    have e56 : ac.tmps[56]?.getD undef = .bool true := h.tm 19 56 rfl rfl
    have e68 : ac.tmps[68]?.getD undef = .pointer none := h.tm 31 68 rfl rfl
    have e70 : ac.tmps[70]?.getD undef = .int .i64 q.n := h.tm 33 70 rfl rfl
    refine opWant 19 56 rfl rfl e56 ?_
    refine relCall (f := _) (args := #[.pointer none, .int .i64 q.n]) (by simp [go_sem, e56, e68, e70]; rfl) ?_
    refine (psweep_nil u q.n).mono ?_
    rintro e w' ⟨rfl, rfl⟩
    exact ⟨_, rfl, okP hg rfl⟩
  · intro ac gs u hb hg h
    have e56 : ac.tmps[56]?.getD undef = .bool true := h.tm 19 56 rfl rfl
    have e71 : ac.tmps[71]?.getD undef = .slice none 0 0 := h.tm 34 71 rfl rfl
    refine opWant 19 56 rfl rfl e56 ?_
    exact relRun (v := .int .i64 0) (w' := u) (by simp [go_sem, e56, e71]) (okP hg rfl)
  · intro ac gs u hb hg h
    have e56 : ac.tmps[56]?.getD undef = .bool true := h.tm 19 56 rfl rfl
    have e67 : ac.tmps[67]?.getD undef = .int .i64 0 := h.tm 30 67 rfl rfl
    have e72 : ac.tmps[72]?.getD undef = .int .i64 0 := h.tm 35 72 rfl rfl
    refine opWant 19 56 rfl rfl e56 ?_
    exact relRun (v := .int .i64 0) (w' := u) (by simp [go_sem, e56, e67, e72, (show IntKind.i64.wrap 0 = 0 by decide)]) (okP hg rfl)
  · intro ac gs u hb hg h
    have e56 : ac.tmps[56]?.getD undef = .bool true := h.tm 19 56 rfl rfl
    have e3 : ac.tmps[3]?.getD undef = .pointer none := h.inm 3 rfl rfl
    refine opWant 19 56 rfl rfl e56 ?_
    exact relMoveT _ rfl e3 (okP hg rfl)
  · intro ac gs u hb hg h
    have e56 : ac.tmps[56]?.getD undef = .bool true := h.tm 19 56 rfl rfl
    have e74 : ac.tmps[74]?.getD undef = .pointer none := h.tm 37 74 rfl rfl
    refine opWant 19 56 rfl rfl e56 ?_
    refine relCall (f := _) (args := #[.pointer none]) (by simp [go_sem, e56, e74]; rfl) ?_
    refine (pwaiting_nil u).mono ?_
    rintro e w' ⟨rfl, rfl⟩
    exact ⟨_, rfl, okP hg rfl⟩
  · intro ac gs u hb hg h
    have e56 : ac.tmps[56]?.getD undef = .bool true := h.tm 19 56 rfl rfl
    have e75 : ac.tmps[75]?.getD undef = .slice none 0 0 := h.tm 38 75 rfl rfl
    refine opWant 19 56 rfl rfl e56 ?_
    exact relRun (v := .int .i64 0) (w' := u) (by simp [go_sem, e56, e75]) (okP hg rfl)
  · intro ac gs u hb hg h
    have e56 : ac.tmps[56]?.getD undef = .bool true := h.tm 19 56 rfl rfl
    have e73 : ac.tmps[73]?.getD undef = .int .i64 0 := h.tm 36 73 rfl rfl
    have e76 : ac.tmps[76]?.getD undef = .int .i64 0 := h.tm 39 76 rfl rfl
    refine opWant 19 56 rfl rfl e56 ?_
    exact relRun (v := .int .i64 0) (w' := u) (by simp [go_sem, e56, e73, e76, (show IntKind.i64.wrap 0 = 0 by decide)]) (okP hg rfl)
  · intro ac gs u hb hg h
    have e56 : ac.tmps[56]?.getD undef = .bool true := h.tm 19 56 rfl rfl
    have e3 : ac.tmps[3]?.getD undef = .pointer none := h.inm 3 rfl rfl
    refine opWant 19 56 rfl rfl e56 ?_
    exact relMoveT _ rfl e3 (okP hg rfl)
  · intro ac gs u hb hg h
    have e56 : ac.tmps[56]?.getD undef = .bool true := h.tm 19 56 rfl rfl
    have e78 : ac.tmps[78]?.getD undef = .pointer none := h.tm 41 78 rfl rfl
    refine opWant 19 56 rfl rfl e56 ?_
    refine relCall (f := _) (args := #[.pointer none]) (by simp [go_sem, e56, e78]; rfl) ?_
    refine (pall_nil u).mono ?_
    rintro e w' ⟨rfl, rfl⟩
    exact ⟨_, rfl, okP hg rfl⟩
  · intro ac gs u hb hg h
    have e56 : ac.tmps[56]?.getD undef = .bool true := h.tm 19 56 rfl rfl
    have e79 : ac.tmps[79]?.getD undef = .slice none 0 0 := h.tm 42 79 rfl rfl
    refine opWant 19 56 rfl rfl e56 ?_
    exact relRun (v := .int .i64 0) (w' := u) (by simp [go_sem, e56, e79]) (okP hg rfl)
  · intro ac gs u hb hg h
    have e56 : ac.tmps[56]?.getD undef = .bool true := h.tm 19 56 rfl rfl
    have e77 : ac.tmps[77]?.getD undef = .int .i64 0 := h.tm 40 77 rfl rfl
    have e80 : ac.tmps[80]?.getD undef = .int .i64 0 := h.tm 43 80 rfl rfl
    refine opWant 19 56 rfl rfl e56 ?_
    exact relRun (v := .int .i64 0) (w' := u) (by simp [go_sem, e56, e77, e80, (show IntKind.i64.wrap 0 = 0 by decide)]) (okP hg rfl)
  · intro ac gs u hb hg h
    have e56 : ac.tmps[56]?.getD undef = .bool true := h.tm 19 56 rfl rfl
    have e3 : ac.tmps[3]?.getD undef = .pointer none := h.inm 3 rfl rfl
    refine opWant 19 56 rfl rfl e56 ?_
    exact relMoveT _ rfl e3 (okP hg rfl)
  · intro ac gs u hb hg h
    have e56 : ac.tmps[56]?.getD undef = .bool true := h.tm 19 56 rfl rfl
    have e82 : ac.tmps[82]?.getD undef = .pointer none := h.tm 45 82 rfl rfl
    refine opWant 19 56 rfl rfl e56 ?_
    refine relCall (f := _) (args := #[.pointer none]) (by simp [go_sem, e56, e82]; rfl) ?_
    refine (plen_nil u).mono ?_
    rintro e w' ⟨rfl, rfl⟩
    exact ⟨_, rfl, okP hg rfl⟩
  · intro ac gs u hb hg h
    have e56 : ac.tmps[56]?.getD undef = .bool true := h.tm 19 56 rfl rfl
    have e81 : ac.tmps[81]?.getD undef = .int .i64 0 := h.tm 44 81 rfl rfl
    have e83 : ac.tmps[83]?.getD undef = .int .i64 0 := h.tm 46 83 rfl rfl
    refine opWant 19 56 rfl rfl e56 ?_
    exact relRun (v := .int .i64 0) (w' := u) (by simp [go_sem, e56, e81, e83, (show IntKind.i64.wrap 0 = 0 by decide)]) (okP hg rfl)
  · intro ac gs u hb hg h
    have e56 : ac.tmps[56]?.getD undef = .bool true := h.tm 19 56 rfl rfl
    have e84 : ac.tmps[84]?.getD undef = .int .i64 0 := h.tm 47 84 rfl rfl
    refine opWant 19 56 rfl rfl e56 ?_
    exact relRun (v := .bool true) (w' := u) (by simp [go_sem, e56, e84]) (okP hg rfl)
  · intro ac gs u hb hg h
    have e56 : ac.tmps[56]?.getD undef = .bool true := h.tm 19 56 rfl rfl
    have e85 : ac.tmps[85]?.getD undef = .bool true := h.tm 48 85 rfl rfl
    refine opFree rfl ?_
    exact relRun (v := .bool true) (w' := u) (by simp [go_sem, e56, e85]) (okP hg rfl)
  · intro ac gs u hb hg h
    have e86 : ac.tmps[86]?.getD undef = .bool true := h.tm 49 86 rfl rfl
    refine opFree rfl ?_
    exact relMoveT _ rfl e86 (okP hg rfl)
  · intro ac gs u hb hg h
    have e87 : ac.tmps[87]?.getD undef = .bool true := h.tm 50 87 rfl rfl
    have e3 : ac.tmps[3]?.getD undef = .pointer none := h.inm 3 rfl rfl
    refine opWant 50 87 rfl rfl e87 ?_
    exact relMoveT _ rfl e3 (okP hg rfl)
  · intro ac gs u hb hg h
    have e87 : ac.tmps[87]?.getD undef = .bool true := h.tm 50 87 rfl rfl
    have e1 : ac.tmps[1]?.getD undef = .pointer (some ⟨sb, 0, none⟩) := h.inm 1 rfl rfl
    refine opWant 50 87 rfl rfl e87 ?_
    exact relRun (v := .pointer (some ⟨sb, 1, none⟩)) (w' := u) (by simp [go_sem, e87, e1]) (okP hg rfl)
  · intro ac gs u hb hg h
    have e87 : ac.tmps[87]?.getD undef = .bool true := h.tm 50 87 rfl rfl
    have e89 : ac.tmps[89]?.getD undef = .pointer (some ⟨sb, 1, none⟩) := h.tm 52 89 rfl rfl
    refine opWant 50 87 rfl rfl e87 ?_
    exact relRun (v := .int .i64 q.p) (w' := u) (by simp [go_sem, e87, e89, ((hS2.out.below hb).cell 1)]) (okP hg rfl)
  · intro ac gs u hb hg h
    have e87 : ac.tmps[87]?.getD undef = .bool true := h.tm 50 87 rfl rfl
    have e88 : ac.tmps[88]?.getD undef = .pointer none := h.tm 51 88 rfl rfl
    have e90 : ac.tmps[90]?.getD undef = .int .i64 q.p := h.tm 53 90 rfl rfl
    refine opWant 50 87 rfl rfl e87 ?_
    refine relCall (f := _) (args := #[.pointer none, .int .i64 q.p]) (by simp [go_sem, e87, e88, e90]; rfl) ?_
    refine (pwaits_nil u q.p).mono ?_
    rintro e w' ⟨rfl, hb'⟩
    exact ⟨_, rfl, okB hg hb' rfl⟩
  · intro ac gs u hb hg h
    have e87 : ac.tmps[87]?.getD undef = .bool true := h.tm 50 87 rfl rfl
    have e91 : ac.tmps[91]?.getD undef = .bool false := h.tm 54 91 rfl rfl
    refine opWant 50 87 rfl rfl e87 ?_
    exact relRun (v := .bool true) (w' := u) (by simp [go_sem, e87, e91]) (okP hg rfl)
  · intro ac gs u hb hg h
    have e87 : ac.tmps[87]?.getD undef = .bool true := h.tm 50 87 rfl rfl
    have e92 : ac.tmps[92]?.getD undef = .bool true := h.tm 55 92 rfl rfl
    refine opFree rfl ?_
    exact relRun (v := .bool true) (w' := u) (by simp [go_sem, e87, e92]) (okP hg rfl)
  intro vs gs u hb hg hr
  have r0 : vs 0 = .int .i64 0 := hr 0 (by decide)
  have r1 : vs 1 = .bool true := hr 1 (by decide)
  have r2 : vs 2 = .bool true := hr 2 (by decide)
  have r3 : vs 3 = .bool false := hr 3 (by decide)
  have r4 : vs 4 = .bool true := hr 4 (by decide)
  have r5 : vs 5 = .bool true := hr 5 (by decide)
  have r6 : vs 6 = .bool true := hr 6 (by decide)
  have r7 : vs 7 = .int .i64 10 := hr 7 (by decide)
  have r8 : vs 8 = .bool true := hr 8 (by decide)
  have r9 : vs 9 = .bool true := hr 9 (by decide)
  have r10 : vs 10 = .bool true := hr 10 (by decide)
  have r11 : vs 11 = .agg #[.slice none 0 0, .int .i64 0, .int .i64 0, .int .i64 0, .int .i64 0] := hr 11 (by decide)
  have r12 : vs 12 = .agg #[.slice none 0 0, .int .i64 0, .int .i64 0, .int .i64 0, .int .i64 0] := hr 12 (by decide)
  have r13 : vs 13 = .bool true := hr 13 (by decide)
  have r14 : vs 14 = .bool true := hr 14 (by decide)
  have r15 : vs 15 = .bool true := hr 15 (by decide)
  have r16 : vs 16 = .int .i64 2 := hr 16 (by decide)
  have r17 : vs 17 = .bool true := hr 17 (by decide)
  have r18 : vs 18 = .bool true := hr 18 (by decide)
  have r19 : vs 19 = .bool true := hr 19 (by decide)
  have r20 : vs 20 = .slice none 0 0 := hr 20 (by decide)
  have r21 : vs 21 = .int .i64 0 := hr 21 (by decide)
  have r22 : vs 22 = .slice none 0 0 := hr 22 (by decide)
  have r23 : vs 23 = .int .i64 0 := hr 23 (by decide)
  have r24 : vs 24 = .int .i64 0 := hr 24 (by decide)
  have r25 : vs 25 = .pointer none := hr 25 (by decide)
  have r26 : vs 26 = .pointer (some ⟨sb, 3, none⟩) := hr 26 (by decide)
  have r27 : vs 27 = .int .i64 q.n := hr 27 (by decide)
  have r28 : vs 28 = .slice none 0 0 := hr 28 (by decide)
  have r29 : vs 29 = .int .i64 0 := hr 29 (by decide)
  have r30 : vs 30 = .int .i64 0 := hr 30 (by decide)
  have r31 : vs 31 = .pointer none := hr 31 (by decide)
  have r32 : vs 32 = .pointer (some ⟨sb, 3, none⟩) := hr 32 (by decide)
  have r33 : vs 33 = .int .i64 q.n := hr 33 (by decide)
  have r34 : vs 34 = .slice none 0 0 := hr 34 (by decide)
  have r35 : vs 35 = .int .i64 0 := hr 35 (by decide)
  have r36 : vs 36 = .int .i64 0 := hr 36 (by decide)
  have r37 : vs 37 = .pointer none := hr 37 (by decide)
  have r38 : vs 38 = .slice none 0 0 := hr 38 (by decide)
  have r39 : vs 39 = .int .i64 0 := hr 39 (by decide)
  have r40 : vs 40 = .int .i64 0 := hr 40 (by decide)
  have r41 : vs 41 = .pointer none := hr 41 (by decide)
  have r42 : vs 42 = .slice none 0 0 := hr 42 (by decide)
  have r43 : vs 43 = .int .i64 0 := hr 43 (by decide)
  have r44 : vs 44 = .int .i64 0 := hr 44 (by decide)
  have r45 : vs 45 = .pointer none := hr 45 (by decide)
  have r46 : vs 46 = .int .i64 0 := hr 46 (by decide)
  have r47 : vs 47 = .int .i64 0 := hr 47 (by decide)
  have r48 : vs 48 = .bool true := hr 48 (by decide)
  have r49 : vs 49 = .bool true := hr 49 (by decide)
  have r50 : vs 50 = .bool true := hr 50 (by decide)
  have r51 : vs 51 = .pointer none := hr 51 (by decide)
  have r52 : vs 52 = .pointer (some ⟨sb, 1, none⟩) := hr 52 (by decide)
  have r53 : vs 53 = .int .i64 q.p := hr 53 (by decide)
  have r54 : vs 54 = .bool false := hr 54 (by decide)
  have r55 : vs 55 = .bool true := hr 55 (by decide)
  have r56 : vs 56 = .bool true := hr 56 (by decide)
  simp only [List.take_succ_cons, List.take_zero, List.drop_succ_cons, List.drop_zero, putOps, r0, r1, r2, r3, r4, r5, r6, r7, r8, r9, r10, r11, r12, r13, r14, r15, r16, r17, r18, r19, r20, r21, r22, r23, r24, r25, r26, r27, r28, r29, r30, r31, r32, r33, r34, r35, r36, r37, r38, r39, r40, r41, r42, r43, r44, r45, r46, r47, r48, r49, r50, r51, r52, r53, r54, r55, r56]
  simp only [Act.put, List.setIfInBounds_toArray, List.set_cons_succ, List.set_cons_zero]
  clear hr r0 r1 r2 r3 r4 r5 r6 r7 r8 r9 r10 r11 r12 r13 r14 r15 r16 r17 r18 r19 r20 r21 r22 r23 r24 r25 r26 r27 r28 r29 r30 r31 r32 r33 r34 r35 r36 r37 r38 r39 r40 r41 r42 r43 r44 r45 r46 r47 r48 r49 r50 r51 r52 r53 r54 r55 r56
  -- GER
  go_wp2
  go_ret
  exact ⟨rfl, Below.next hB4.out hb hB4.out.size⟩
end Go.Proofs.Ytnlmkllhmldgiaa.Qu
