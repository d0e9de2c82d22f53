/- DERIVED. The walk over the statement GateNil: a gate that is not there lets nothing in. -/
import Derived.Test.YtealopempjempaaGateS
import Derived.Test.YtealopempjempaaRefMsg
import Derived.Test.YtealopempjempaaRegR
namespace Go.Proofs.Ytealopempjempaa.Gt
set_option linter.unusedVariables false
set_option linter.unusedSimpArgs false
open Go.RowKit Go.Proofs.Ytealopempjempaa.K Go.Proofs.Ytealopempjempaa.Lb Go.Proofs.Ytealopempjempaa.La Go.Proofs.Ytealopempjempaa.Cf
set_option maxHeartbeats 4000000 in
set_option maxRecDepth 100000 in
theorem gnil_c {w : World} {a : Option Addr} {c : Nat} {q : GSt} (hw0 : IntsAt (fun b => b < w.heap.size) w (.slice a q.ws.length c) q.ws) : Calls Try.prog 9 #[.agg #[.int .i64 q.k, .int .i64 q.mode, .int .i64 q.lane, .int .i64 q.n, .int .i64 q.round, .slice a q.ws.length c]] w (LivesPost w) := by
  have hb0 := (Below.refl w.heap.size w).alloc (Nat.le_refl _) (.cells #[.int .i64 q.k, .int .i64 q.mode, .int .i64 q.lane, .int .i64 q.n, .int .i64 q.round, .slice a q.ws.length c] 26)
  have hS0 := hid (pts.newA w #[.int .i64 q.k, .int .i64 q.mode, .int .i64 q.lane, .int .i64 q.n, .int .i64 q.round, .slice a q.ws.length c] 26)
  have hw1 := hid (hw0.below hb0)
  replace hb0 := hid hb0
  clear hw0
  obtain ⟨sb, hsb⟩ : ∃ sb, sb = w.heap.size := ⟨_, rfl⟩
  go_enter Try.func9, Try.ntmps9
  go_upto_region 4 with (first | (go_at_call 10; (with_reducible refine (lives_c _).mono ?_); rintro e W ⟨rfl, hb⟩; have hB := hid (Below.next hb0.out hb hb0.out.size); have hBl := hid (Nat.le_trans hb0.out.size hb.size); have hS := hid (hS0.out.below hb); have hw := hid (hw1.out.below hb); clear hb hb0 hS0 hw1))
  rw [← hsb] at hS ⊢
  replace hsb := hid hsb
  -- REG empennage/empennagelaw12.GateNil|4|GateNil.4
  refine region_tab 16 [Sp.eq (.pointer none), Sp.eq (.pointer (some ⟨sb, 1, none⟩)), Sp.eq (.int .i64 q.mode), Sp.eq (.pointer (some ⟨sb, 2, none⟩)), Sp.eq (.int .i64 q.lane), Sp.eq (.agg #[.int .i64 q.k, .int .i64 q.mode, .int .i64 q.lane, .int .i64 q.n, .int .i64 q.round, .slice a q.ws.length c]), Sp.eq (.slice a (cutW q.ws).length c), Sp.eq (.pointer (some ⟨sb, 3, none⟩)), Sp.eq (.int .i64 q.n), Sp.eq (.pointer (some ⟨sb, 4, none⟩)), Sp.eq (.int .i64 q.round), Sp.eq (.tuple #[.agg #[.slice none 0 0, .int .i64 0, .int .i64 0, .int .i64 0, .int .i64 0], .int .i64 4]), Sp.eq (.tuple #[.agg #[.slice none 0 0, .int .i64 0, .int .i64 0, .int .i64 0, .int .i64 0], .int .i64 4]), Sp.eq (.agg #[.slice none 0 0, .int .i64 0, .int .i64 0, .int .i64 0, .int .i64 0]), Sp.eq (.int .i64 4), Sp.box 37 [.slice none 0 0, .int .i64 0, .int .i64 0, .int .i64 0, .int .i64 0]] (fun _ _ _ _ _ h => h) (by kernel_rfl) (by kernel_rfl) ⟨?_, ?_, ?_, ?_, ?_, ?_, ?_, ?_, ?_, ?_, ?_, ?_, ?_, ?_, ?_, ?_, trivial⟩ ?_
  · intro ac gs u hb hg h
    have e3 : ac.tmps[3]?.getD undef = .pointer none := h.inm 3 rfl rfl
    refine opFree rfl ?_
    exact relMoveT _ rfl e3 (okP hg rfl)
  · intro ac gs u hb hg h
    have e1 : ac.tmps[1]?.getD undef = .pointer (some ⟨sb, 0, none⟩) := h.inm 1 rfl rfl
    refine opFree rfl ?_
    exact relRun (v := .pointer (some ⟨sb, 1, none⟩)) (w' := u) (by simp [go_sem, e1]) (okP hg rfl)
  · intro ac gs u hb hg h
    have e12 : ac.tmps[12]?.getD undef = .pointer (some ⟨sb, 1, none⟩) := h.tm 1 12 rfl rfl
    refine opFree rfl ?_
    exact relRun (v := .int .i64 q.mode) (w' := u) (by simp [go_sem, e12, ((hS.out.below hb).cell 1)]) (okP hg rfl)
  · intro ac gs u hb hg h
    have e1 : ac.tmps[1]?.getD undef = .pointer (some ⟨sb, 0, none⟩) := h.inm 1 rfl rfl
    refine opFree rfl ?_
    exact relRun (v := .pointer (some ⟨sb, 2, none⟩)) (w' := u) (by simp [go_sem, e1]) (okP hg rfl)
  · intro ac gs u hb hg h
    have e14 : ac.tmps[14]?.getD undef = .pointer (some ⟨sb, 2, none⟩) := h.tm 3 14 rfl rfl
    refine opFree rfl ?_
    exact relRun (v := .int .i64 q.lane) (w' := u) (by simp [go_sem, e14, ((hS.out.below hb).cell 2)]) (okP hg rfl)
  · intro ac gs u hb hg h
    have e1 : ac.tmps[1]?.getD undef = .pointer (some ⟨sb, 0, none⟩) := h.inm 1 rfl rfl
    refine opFree rfl ?_
    exact relRun (v := .agg #[.int .i64 q.k, .int .i64 q.mode, .int .i64 q.lane, .int .i64 q.n, .int .i64 q.round, .slice a q.ws.length c]) (w' := u) (by simp [go_sem, e1, ((hS.out.below hb).cell 0), ((hS.out.below hb).cell 1), ((hS.out.below hb).cell 2), ((hS.out.below hb).cell 3), ((hS.out.below hb).cell 4), ((hS.out.below hb).cell 5)]) (okP hg rfl)
  · intro ac gs u hb hg h
    have e16 : ac.tmps[16]?.getD undef = .agg #[.int .i64 q.k, .int .i64 q.mode, .int .i64 q.lane, .int .i64 q.n, .int .i64 q.round, .slice a q.ws.length c] := h.tm 5 16 rfl rfl
    refine opFree rfl ?_
    refine relCall (f := _) (args := #[.agg #[.int .i64 q.k, .int .i64 q.mode, .int .i64 q.lane, .int .i64 q.n, .int .i64 q.round, .slice a q.ws.length c]]) (by simp [go_sem, e16]; rfl) ?_
    refine (words_c q (hw.out.below hb)).mono ?_
    rintro e w' ⟨rfl, hb'⟩
    exact ⟨_, rfl, okB hg hb' rfl⟩
  · intro ac gs u hb hg h
    have e1 : ac.tmps[1]?.getD undef = .pointer (some ⟨sb, 0, none⟩) := h.inm 1 rfl rfl
    refine opFree rfl ?_
    exact relRun (v := .pointer (some ⟨sb, 3, none⟩)) (w' := u) (by simp [go_sem, e1]) (okP hg rfl)
  · intro ac gs u hb hg h
    have e18 : ac.tmps[18]?.getD undef = .pointer (some ⟨sb, 3, none⟩) := h.tm 7 18 rfl rfl
    refine opFree rfl ?_
    exact relRun (v := .int .i64 q.n) (w' := u) (by simp [go_sem, e18, ((hS.out.below hb).cell 3)]) (okP hg rfl)
  · intro ac gs u hb hg h
    have e1 : ac.tmps[1]?.getD undef = .pointer (some ⟨sb, 0, none⟩) := h.inm 1 rfl rfl
    refine opFree rfl ?_
    exact relRun (v := .pointer (some ⟨sb, 4, none⟩)) (w' := u) (by simp [go_sem, e1]) (okP hg rfl)
  · intro ac gs u hb hg h
    have e20 : ac.tmps[20]?.getD undef = .pointer (some ⟨sb, 4, none⟩) := h.tm 9 20 rfl rfl
    refine opFree rfl ?_
    exact relRun (v := .int .i64 q.round) (w' := u) (by simp [go_sem, e20, ((hS.out.below hb).cell 4)]) (okP hg rfl)
  · intro ac gs u hb hg h
    have e11 : ac.tmps[11]?.getD undef = .pointer none := h.tm 0 11 rfl rfl
    have e13 : ac.tmps[13]?.getD undef = .int .i64 q.mode := h.tm 2 13 rfl rfl
    have e15 : ac.tmps[15]?.getD undef = .int .i64 q.lane := h.tm 4 15 rfl rfl
    have e17 : ac.tmps[17]?.getD undef = .slice a (cutW q.ws).length c := h.tm 6 17 rfl rfl
    have e19 : ac.tmps[19]?.getD undef = .int .i64 q.n := h.tm 8 19 rfl rfl
    have e21 : ac.tmps[21]?.getD undef = .int .i64 q.round := h.tm 10 21 rfl rfl
    refine opFree rfl ?_
    refine relCall (f := _) (args := #[.pointer none, .int .i64 q.mode, .int .i64 q.lane, .slice a (cutW q.ws).length c, .int .i64 q.n, .int .i64 q.round]) (by simp [go_sem, e11, e13, e15, e17, e19, e21]; rfl) ?_
    refine (offer_nil u q.mode q.lane q.n q.round a (cutW q.ws).length c).mono ?_
    rintro e w' ⟨rfl, hb'⟩
    exact ⟨_, rfl, okB hg hb' rfl⟩
  · intro ac gs u hb hg h
    have e22 : ac.tmps[22]?.getD undef = .tuple #[.agg #[.slice none 0 0, .int .i64 0, .int .i64 0, .int .i64 0, .int .i64 0], .int .i64 4] := h.tm 11 22 rfl rfl
    refine opFree rfl ?_
    exact relMoveT _ rfl e22 (okP hg rfl)
  · intro ac gs u hb hg h
    have e10 : ac.tmps[10]?.getD undef = .tuple #[.agg #[.slice none 0 0, .int .i64 0, .int .i64 0, .int .i64 0, .int .i64 0], .int .i64 4] := h.tm 12 10 rfl rfl
    refine opFree rfl ?_
    exact relRun (v := .agg #[.slice none 0 0, .int .i64 0, .int .i64 0, .int .i64 0, .int .i64 0]) (w' := u) (by simp [go_sem, e10]) (okP hg rfl)
  · intro ac gs u hb hg h
    have e10 : ac.tmps[10]?.getD undef = .tuple #[.agg #[.slice none 0 0, .int .i64 0, .int .i64 0, .int .i64 0, .int .i64 0], .int .i64 4] := h.tm 12 10 rfl rfl
    refine opFree rfl ?_
    exact relRun (v := .int .i64 4) (w' := u) (by simp [go_sem, e10]) (okP hg rfl)
  · intro ac gs u hb hg h
    refine opFree rfl ?_
    exact relRun (v := .pointer (some ⟨u.heap.size, 0, none⟩)) (w' := u.alloc (.cells #[.slice none 0 0, .int .i64 0, .int .i64 0, .int .i64 0, .int .i64 0] 37)) (by simp [go_sem]) (okA _ hg ⟨_, rfl, List.mem_cons_self, pts.newA u _ _⟩)
  intro vs gs u hb hg hr
  have r0 : vs 0 = .pointer none := hr 0 (by decide)
  have r1 : vs 1 = .pointer (some ⟨sb, 1, none⟩) := hr 1 (by decide)
  have r2 : vs 2 = .int .i64 q.mode := hr 2 (by decide)
  have r3 : vs 3 = .pointer (some ⟨sb, 2, none⟩) := hr 3 (by decide)
  have r4 : vs 4 = .int .i64 q.lane := hr 4 (by decide)
  have r5 : vs 5 = .agg #[.int .i64 q.k, .int .i64 q.mode, .int .i64 q.lane, .int .i64 q.n, .int .i64 q.round, .slice a q.ws.length c] := hr 5 (by decide)
  have r6 : vs 6 = .slice a (cutW q.ws).length c := hr 6 (by decide)
  have r7 : vs 7 = .pointer (some ⟨sb, 3, none⟩) := hr 7 (by decide)
  have r8 : vs 8 = .int .i64 q.n := hr 8 (by decide)
  have r9 : vs 9 = .pointer (some ⟨sb, 4, none⟩) := hr 9 (by decide)
  have r10 : vs 10 = .int .i64 q.round := hr 10 (by decide)
  have r11 : vs 11 = .tuple #[.agg #[.slice none 0 0, .int .i64 0, .int .i64 0, .int .i64 0, .int .i64 0], .int .i64 4] := hr 11 (by decide)
  have r12 : vs 12 = .tuple #[.agg #[.slice none 0 0, .int .i64 0, .int .i64 0, .int .i64 0, .int .i64 0], .int .i64 4] := hr 12 (by decide)
  have r13 : vs 13 = .agg #[.slice none 0 0, .int .i64 0, .int .i64 0, .int .i64 0, .int .i64 0] := hr 13 (by decide)
  have r14 : vs 14 = .int .i64 4 := hr 14 (by decide)
  have r15 := hr 15 (by decide)
  obtain ⟨nb, e4, hnb, hbx⟩ := r15
  simp only [List.take_succ_cons, List.take_zero, List.drop_succ_cons, List.drop_zero, putOps, r0, r1, r2, r3, r4, r5, r6, r7, r8, r9, r10, r11, r12, r13, r14, e4]
  simp only [Act.put, List.setIfInBounds_toArray, List.set_cons_succ, List.set_cons_zero]
  clear hr r0 r1 r2 r3 r4 r5 r6 r7 r8 r9 r10 r11 r12 r13 r14 e4
  -- GER
  have hnb0 := (hg nb hnb).1
  have bx0 := hbx.cell 0
  have bx1 := hbx.cell 1
  have bx2 := hbx.cell 2
  have bx3 := hbx.cell 3
  have bx4 := hbx.cell 4
  have bxl := hbx.lt
  have bxf := fun o => hbx.frozen o
  simp only [List.getElem?_cons_zero, List.getElem?_cons_succ] at bx0 bx1 bx2 bx3 bx4
  have hset := ((((hbx.set 0 (.slice none 0 0)).set 1 (.int .i64 0)).set 2 (.int .i64 0)).set 3 (.int .i64 0)).set 4 (.int .i64 0)
  have hbW := ((((hb.setCell (p := ⟨nb, 0, none⟩) hnb0 (.slice none 0 0)).setCell (p := ⟨nb, 1, none⟩) hnb0 (.int .i64 0)).setCell (p := ⟨nb, 2, none⟩) hnb0 (.int .i64 0)).setCell (p := ⟨nb, 3, none⟩) hnb0 (.int .i64 0)).setCell (p := ⟨nb, 4, none⟩) hnb0 (.int .i64 0)
  simp only [List.set_cons_zero, List.set_cons_succ] at hset
  have hS1 := hid (hS.out.below hbW)
  have hB1 := hid (Below.next hB.out hbW hBl.out)
  replace hset := hid hset
  clear hbx hb hg hbW
  go_upto_region 5 with fail
  generalize ((((u.setCell ⟨nb, 0, none⟩ (.slice none 0 0)).setCell ⟨nb, 1, none⟩ (.int .i64 0)).setCell ⟨nb, 2, none⟩ (.int .i64 0)).setCell ⟨nb, 3, none⟩ (.int .i64 0)).setCell ⟨nb, 4, none⟩ (.int .i64 0) = W5 at hset hS1 hB1 ⊢
  clear bx0 bx1 bx2 bx3 bx4 bxl bxf
  go_upto_region 6 with (first | (go_at_call 24; (with_reducible refine (gtake_nil _).mono ?_); rintro e W6 ⟨rfl, hb⟩; have hbb := hb.alloc hb.size (.cells #[.slice none 0 0, .int .i64 0, .int .i64 0, .int .i64 0, .int .i64 0] 37); have hN := hid (hset.out.below hbb); have hS2 := hid (hS1.out.below hbb); have hB2 := hid (Below.next hB1.out hbb (Nat.le_of_lt (hsb.out ▸ hS1.out.lt))); clear hb hbb))
  -- REG empennage/empennagelaw12.GateNil|6|GateNil.6
  refine region_tab 38 [Sp.eq (.agg #[.slice none 0 0, .int .i64 0, .int .i64 0, .int .i64 0, .int .i64 0]), Sp.eq (.agg #[.slice none 0 0, .int .i64 0, .int .i64 0, .int .i64 0, .int .i64 0]), Sp.eq (.bool true), Sp.eq (.bool true), Sp.eq (.int .i64 4), Sp.eq (.bool true), Sp.eq (.bool true), Sp.eq (.bool true), Sp.eq (.bool false), Sp.eq (.bool true), Sp.eq (.bool true), Sp.eq (.bool true), Sp.eq (.pointer none), Sp.eq (.pointer (some ⟨sb, 3, none⟩)), Sp.eq (.int .i64 q.n), Sp.eq (.slice none 0 0), Sp.eq (.int .i64 0), Sp.eq (.pointer none), Sp.eq (.slice none 0 0), Sp.eq (.int .i64 0), Sp.eq (.int .i64 0), Sp.eq (.pointer none), Sp.eq (.slice none 0 0), Sp.eq (.int .i64 0), Sp.eq (.int .i64 0), Sp.eq (.pointer none), Sp.eq (.int .i64 0), Sp.eq (.int .i64 0), Sp.eq (.pointer none), Sp.eq (.pointer (some ⟨sb, 4, none⟩)), Sp.eq (.int .i64 q.round), Sp.eq (.int .i64 0), Sp.eq (.int .i64 0), Sp.eq (.pointer none), Sp.eq (.int .i64 0), Sp.eq (.int .i64 0), Sp.eq (.bool true), Sp.eq (.bool true)] (fun _ _ _ _ _ h => h) (by kernel_rfl) (by kernel_rfl) ⟨?_, ?_, ?_, ?_, ?_, ?_, ?_, ?_, ?_, ?_, ?_, ?_, ?_, ?_, ?_, ?_, ?_, ?_, ?_, ?_, ?_, ?_, ?_, ?_, ?_, ?_, ?_, ?_, ?_, ?_, ?_, ?_, ?_, ?_, ?_, ?_, ?_, ?_, trivial⟩ ?_
  · intro ac gs u hb hg h
    have e4 : ac.tmps[4]?.getD undef = .pointer (some ⟨nb, 0, none⟩) := h.inm 4 rfl rfl
    refine opFree rfl ?_
    exact relRun (v := .agg #[.slice none 0 0, .int .i64 0, .int .i64 0, .int .i64 0, .int .i64 0]) (w' := u) (by simp [go_sem, e4, ((hN.out.below hb).cell 0), ((hN.out.below hb).cell 1), ((hN.out.below hb).cell 2), ((hN.out.below hb).cell 3), ((hN.out.below hb).cell 4)]) (okP hg rfl)
  · intro ac gs u hb hg h
    refine opFree rfl ?_
    exact relRun (v := .agg #[.slice none 0 0, .int .i64 0, .int .i64 0, .int .i64 0, .int .i64 0]) (w' := u) (by simp [go_sem, ]) (okP hg rfl)
  · intro ac gs u hb hg h
    have e30 : ac.tmps[30]?.getD undef = .agg #[.slice none 0 0, .int .i64 0, .int .i64 0, .int .i64 0, .int .i64 0] := h.tm 0 30 rfl rfl
    have e31 : ac.tmps[31]?.getD undef = .agg #[.slice none 0 0, .int .i64 0, .int .i64 0, .int .i64 0, .int .i64 0] := h.tm 1 31 rfl rfl
    refine opFree rfl ?_
    refine relCall (f := _) (args := #[.agg #[.slice none 0 0, .int .i64 0, .int .i64 0, .int .i64 0, .int .i64 0], .agg #[.slice none 0 0, .int .i64 0, .int .i64 0, .int .i64 0, .int .i64 0]]) (by simp [go_sem, e30, e31]; rfl) ?_
    refine (R2.one_eq (ok1 := fun _ => True) (ok2 := fun _ => True) (w := u) (a := none) (b := none) (c := 0) (d := 0) (m := zeroMsg) (m' := zeroMsg) (IntsAt.nil _ _) (IntsAt.nil _ _) rfl).mono ?_
    rintro e w' ⟨rfl, hb'⟩
    exact ⟨_, rfl, okB hg hb' rfl⟩
  · intro ac gs u hb hg h
    have e32 : ac.tmps[32]?.getD undef = .bool true := h.tm 2 32 rfl rfl
    refine opFree rfl ?_
    exact relMoveT _ rfl e32 (okP hg rfl)
  · intro ac gs u hb hg h
    have e33 : ac.tmps[33]?.getD undef = .bool true := h.tm 3 33 rfl rfl
    have e5 : ac.tmps[5]?.getD undef = .int .i64 4 := h.inm 5 rfl rfl
    refine opWant 3 33 rfl rfl e33 ?_
    exact relMoveT _ rfl e5 (okP hg rfl)
  · intro ac gs u hb hg h
    have e33 : ac.tmps[33]?.getD undef = .bool true := h.tm 3 33 rfl rfl
    have e34 : ac.tmps[34]?.getD undef = .int .i64 4 := h.tm 4 34 rfl rfl
    refine opWant 3 33 rfl rfl e33 ?_
    exact relRun (v := .bool true) (w' := u) (by simp [go_sem, e33, e34]) (okP hg rfl)
  · intro ac gs u hb hg h
    have e33 : ac.tmps[33]?.getD undef = .bool true := h.tm 3 33 rfl rfl
    have e35 : ac.tmps[35]?.getD undef = .bool true := h.tm 5 35 rfl rfl
    refine opFree rfl ?_
    exact relRun (v := .bool true) (w' := u) (by simp [go_sem, e33, e35]) (okP hg rfl)
  · intro ac gs u hb hg h
    have e36 : ac.tmps[36]?.getD undef = .bool true := h.tm 6 36 rfl rfl
    refine opFree rfl ?_
    exact relMoveT _ rfl e36 (okP hg rfl)
  · intro ac gs u hb hg h
    have e37 : ac.tmps[37]?.getD undef = .bool true := h.tm 7 37 rfl rfl
    have e7 : ac.tmps[7]?.getD undef = .bool false := h.inm 7 rfl rfl
    refine opWant 7 37 rfl rfl e37 ?_
    exact relMoveT _ rfl e7 (okP hg rfl)
  · intro ac gs u hb hg h
    have e37 : ac.tmps[37]?.getD undef = .bool true := h.tm 7 37 rfl rfl
    have e38 : ac.tmps[38]?.getD undef = .bool false := h.tm 8 38 rfl rfl
    refine opWant 7 37 rfl rfl e37 ?_
    exact relRun (v := .bool true) (w' := u) (by simp [go_sem, e37, e38]) (okP hg rfl)
  · intro ac gs u hb hg h
    have e37 : ac.tmps[37]?.getD undef = .bool true := h.tm 7 37 rfl rfl
    have e39 : ac.tmps[39]?.getD undef = .bool true := h.tm 9 39 rfl rfl
    refine opFree rfl ?_
    exact relRun (v := .bool true) (w' := u) (by simp [go_sem, e37, e39]) (okP hg rfl)
  · intro ac gs u hb hg h
    have e40 : ac.tmps[40]?.getD undef = .bool true := h.tm 10 40 rfl rfl
    refine opFree rfl ?_
    exact relMoveT _ rfl e40 (okP hg rfl)
  · intro ac gs u hb hg h
    have e41 : ac.tmps[41]?.getD undef = .bool true := h.tm 11 41 rfl rfl
    have e3 : ac.tmps[3]?.getD undef = .pointer none := h.inm 3 rfl rfl
    refine opWant 11 41 rfl rfl e41 ?_
    exact relMoveT _ rfl e3 (okP hg rfl)
  · intro ac gs u hb hg h
    have e41 : ac.tmps[41]?.getD undef = .bool true := h.tm 11 41 rfl rfl
    have e1 : ac.tmps[1]?.getD undef = .pointer (some ⟨sb, 0, none⟩) := h.inm 1 rfl rfl
    refine opWant 11 41 rfl rfl e41 ?_
    exact relRun (v := .pointer (some ⟨sb, 3, none⟩)) (w' := u) (by simp [go_sem, e41, e1]) (okP hg rfl)
  · intro ac gs u hb hg h
    have e41 : ac.tmps[41]?.getD undef = .bool true := h.tm 11 41 rfl rfl
    have e43 : ac.tmps[43]?.getD undef = .pointer (some ⟨sb, 3, none⟩) := h.tm 13 43 rfl rfl
    refine opWant 11 41 rfl rfl e41 ?_
    exact relRun (v := .int .i64 q.n) (w' := u) (by simp [go_sem, e41, e43, ((hS2.out.below hb).cell 3)]) (okP hg rfl)
  · intro ac gs u hb hg h
    have e41 : ac.tmps[41]?.getD undef = .bool true := h.tm 11 41 rfl rfl
    have e42 : ac.tmps[42]?.getD undef = .pointer none := h.tm 12 42 rfl rfl
    have e44 : ac.tmps[44]?.getD undef = .int .i64 q.n := h.tm 14 44 rfl rfl
    refine opWant 11 41 rfl rfl e41 ?_
    refine relCall (f := _) (args := #[.pointer none, .int .i64 q.n]) (by simp [go_sem, e41, e42, e44]; rfl) ?_
    refine (gsweep_nil u q.n).mono ?_
    rintro e w' ⟨rfl, hb'⟩
    exact ⟨_, rfl, okB hg hb' rfl⟩
  · intro ac gs u hb hg h
    have e41 : ac.tmps[41]?.getD undef = .bool true := h.tm 11 41 rfl rfl
    have e45 : ac.tmps[45]?.getD undef = .slice none 0 0 := h.tm 15 45 rfl rfl
    refine opWant 11 41 rfl rfl e41 ?_
    exact relRun (v := .int .i64 0) (w' := u) (by simp [go_sem, e41, e45]) (okP hg rfl)
  · intro ac gs u hb hg h
    have e41 : ac.tmps[41]?.getD undef = .bool true := h.tm 11 41 rfl rfl
    have e3 : ac.tmps[3]?.getD undef = .pointer none := h.inm 3 rfl rfl
    refine opWant 11 41 rfl rfl e41 ?_
    exact relMoveT _ rfl e3 (okP hg rfl)
  · intro ac gs u hb hg h
    have e41 : ac.tmps[41]?.getD undef = .bool true := h.tm 11 41 rfl rfl
    have e47 : ac.tmps[47]?.getD undef = .pointer none := h.tm 17 47 rfl rfl
    refine opWant 11 41 rfl rfl e41 ?_
    refine relCall (f := _) (args := #[.pointer none]) (by simp [go_sem, e41, e47]; rfl) ?_
    refine (gflush_nil u).mono ?_
    rintro e w' ⟨rfl, rfl⟩
    exact ⟨_, rfl, okP hg rfl⟩
  · intro ac gs u hb hg h
    have e41 : ac.tmps[41]?.getD undef = .bool true := h.tm 11 41 rfl rfl
    have e48 : ac.tmps[48]?.getD undef = .slice none 0 0 := h.tm 18 48 rfl rfl
    refine opWant 11 41 rfl rfl e41 ?_
    exact relRun (v := .int .i64 0) (w' := u) (by simp [go_sem, e41, e48]) (okP hg rfl)
  · intro ac gs u hb hg h
    have e41 : ac.tmps[41]?.getD undef = .bool true := h.tm 11 41 rfl rfl
    have e46 : ac.tmps[46]?.getD undef = .int .i64 0 := h.tm 16 46 rfl rfl
    have e49 : ac.tmps[49]?.getD undef = .int .i64 0 := h.tm 19 49 rfl rfl
    refine opWant 11 41 rfl rfl e41 ?_
    exact relRun (v := .int .i64 0) (w' := u) (by simp [go_sem, e41, e46, e49, (show IntKind.i64.wrap 0 = 0 by decide)]) (okP hg rfl)
  · intro ac gs u hb hg h
    have e41 : ac.tmps[41]?.getD undef = .bool true := h.tm 11 41 rfl rfl
    have e3 : ac.tmps[3]?.getD undef = .pointer none := h.inm 3 rfl rfl
    refine opWant 11 41 rfl rfl e41 ?_
    exact relMoveT _ rfl e3 (okP hg rfl)
  · intro ac gs u hb hg h
    have e41 : ac.tmps[41]?.getD undef = .bool true := h.tm 11 41 rfl rfl
    have e51 : ac.tmps[51]?.getD undef = .pointer none := h.tm 21 51 rfl rfl
    refine opWant 11 41 rfl rfl e41 ?_
    refine relCall (f := _) (args := #[.pointer none]) (by simp [go_sem, e41, e51]; rfl) ?_
    refine (gall_nil u).mono ?_
    rintro e w' ⟨rfl, rfl⟩
    exact ⟨_, rfl, okP hg rfl⟩
  · intro ac gs u hb hg h
    have e41 : ac.tmps[41]?.getD undef = .bool true := h.tm 11 41 rfl rfl
    have e52 : ac.tmps[52]?.getD undef = .slice none 0 0 := h.tm 22 52 rfl rfl
    refine opWant 11 41 rfl rfl e41 ?_
    exact relRun (v := .int .i64 0) (w' := u) (by simp [go_sem, e41, e52]) (okP hg rfl)
  · intro ac gs u hb hg h
    have e41 : ac.tmps[41]?.getD undef = .bool true := h.tm 11 41 rfl rfl
    have e50 : ac.tmps[50]?.getD undef = .int .i64 0 := h.tm 20 50 rfl rfl
    have e53 : ac.tmps[53]?.getD undef = .int .i64 0 := h.tm 23 53 rfl rfl
    refine opWant 11 41 rfl rfl e41 ?_
    exact relRun (v := .int .i64 0) (w' := u) (by simp [go_sem, e41, e50, e53, (show IntKind.i64.wrap 0 = 0 by decide)]) (okP hg rfl)
  · intro ac gs u hb hg h
    have e41 : ac.tmps[41]?.getD undef = .bool true := h.tm 11 41 rfl rfl
    have e3 : ac.tmps[3]?.getD undef = .pointer none := h.inm 3 rfl rfl
    refine opWant 11 41 rfl rfl e41 ?_
    exact relMoveT _ rfl e3 (okP hg rfl)
  · intro ac gs u hb hg h
    have e41 : ac.tmps[41]?.getD undef = .bool true := h.tm 11 41 rfl rfl
    have e55 : ac.tmps[55]?.getD undef = .pointer none := h.tm 25 55 rfl rfl
    refine opWant 11 41 rfl rfl e41 ?_
    refine relCall (f := _) (args := #[.pointer none]) (by simp [go_sem, e41, e55]; rfl) ?_
    refine (glen_nil u).mono ?_
    rintro e w' ⟨rfl, rfl⟩
    exact ⟨_, rfl, okP hg rfl⟩
  · intro ac gs u hb hg h
    have e41 : ac.tmps[41]?.getD undef = .bool true := h.tm 11 41 rfl rfl
    have e54 : ac.tmps[54]?.getD undef = .int .i64 0 := h.tm 24 54 rfl rfl
    have e56 : ac.tmps[56]?.getD undef = .int .i64 0 := h.tm 26 56 rfl rfl
    refine opWant 11 41 rfl rfl e41 ?_
    exact relRun (v := .int .i64 0) (w' := u) (by simp [go_sem, e41, e54, e56, (show IntKind.i64.wrap 0 = 0 by decide)]) (okP hg rfl)
  · intro ac gs u hb hg h
    have e41 : ac.tmps[41]?.getD undef = .bool true := h.tm 11 41 rfl rfl
    have e3 : ac.tmps[3]?.getD undef = .pointer none := h.inm 3 rfl rfl
    refine opWant 11 41 rfl rfl e41 ?_
    exact relMoveT _ rfl e3 (okP hg rfl)
  · intro ac gs u hb hg h
    have e41 : ac.tmps[41]?.getD undef = .bool true := h.tm 11 41 rfl rfl
    have e1 : ac.tmps[1]?.getD undef = .pointer (some ⟨sb, 0, none⟩) := h.inm 1 rfl rfl
    refine opWant 11 41 rfl rfl e41 ?_
    exact relRun (v := .pointer (some ⟨sb, 4, none⟩)) (w' := u) (by simp [go_sem, e41, e1]) (okP hg rfl)
  · intro ac gs u hb hg h
    have e41 : ac.tmps[41]?.getD undef = .bool true := h.tm 11 41 rfl rfl
    have e59 : ac.tmps[59]?.getD undef = .pointer (some ⟨sb, 4, none⟩) := h.tm 29 59 rfl rfl
    refine opWant 11 41 rfl rfl e41 ?_
    exact relRun (v := .int .i64 q.round) (w' := u) (by simp [go_sem, e41, e59, ((hS2.out.below hb).cell 4)]) (okP hg rfl)
  · intro ac gs u hb hg h
    have e41 : ac.tmps[41]?.getD undef = .bool true := h.tm 11 41 rfl rfl
    have e58 : ac.tmps[58]?.getD undef = .pointer none := h.tm 28 58 rfl rfl
    have e60 : ac.tmps[60]?.getD undef = .int .i64 q.round := h.tm 30 60 rfl rfl
    refine opWant 11 41 rfl rfl e41 ?_
    refine relCall (f := _) (args := #[.pointer none, .int .i64 q.round]) (by simp [go_sem, e41, e58, e60]; rfl) ?_
    refine (gtokens_nil u q.round).mono ?_
    rintro e w' ⟨rfl, rfl⟩
    exact ⟨_, rfl, okP hg rfl⟩
  · intro ac gs u hb hg h
    have e41 : ac.tmps[41]?.getD undef = .bool true := h.tm 11 41 rfl rfl
    have e57 : ac.tmps[57]?.getD undef = .int .i64 0 := h.tm 27 57 rfl rfl
    have e61 : ac.tmps[61]?.getD undef = .int .i64 0 := h.tm 31 61 rfl rfl
    refine opWant 11 41 rfl rfl e41 ?_
    exact relRun (v := .int .i64 0) (w' := u) (by simp [go_sem, e41, e57, e61, (show IntKind.i64.wrap 0 = 0 by decide)]) (okP hg rfl)
  · intro ac gs u hb hg h
    have e41 : ac.tmps[41]?.getD undef = .bool true := h.tm 11 41 rfl rfl
    have e3 : ac.tmps[3]?.getD undef = .pointer none := h.inm 3 rfl rfl
    refine opWant 11 41 rfl rfl e41 ?_
    exact relMoveT _ rfl e3 (okP hg rfl)
  · intro ac gs u hb hg h
    have e41 : ac.tmps[41]?.getD undef = .bool true := h.tm 11 41 rfl rfl
    have e63 : ac.tmps[63]?.getD undef = .pointer none := h.tm 33 63 rfl rfl
    refine opWant 11 41 rfl rfl e41 ?_
    refine relCall (f := _) (args := #[.pointer none]) (by simp [go_sem, e41, e63]; rfl) ?_
    refine (gseq_nil u).mono ?_
    rintro e w' ⟨rfl, rfl⟩
    exact ⟨_, rfl, okP hg rfl⟩
  · intro ac gs u hb hg h
    have e41 : ac.tmps[41]?.getD undef = .bool true := h.tm 11 41 rfl rfl
    have e62 : ac.tmps[62]?.getD undef = .int .i64 0 := h.tm 32 62 rfl rfl
    have e64 : ac.tmps[64]?.getD undef = .int .i64 0 := h.tm 34 64 rfl rfl
    refine opWant 11 41 rfl rfl e41 ?_
    exact relRun (v := .int .i64 0) (w' := u) (by simp [go_sem, e41, e62, e64, (show IntKind.i64.wrap 0 = 0 by decide)]) (okP hg rfl)
  · intro ac gs u hb hg h
    have e41 : ac.tmps[41]?.getD undef = .bool true := h.tm 11 41 rfl rfl
    have e65 : ac.tmps[65]?.getD undef = .int .i64 0 := h.tm 35 65 rfl rfl
    refine opWant 11 41 rfl rfl e41 ?_
    exact relRun (v := .bool true) (w' := u) (by simp [go_sem, e41, e65]) (okP hg rfl)
  · intro ac gs u hb hg h
    have e41 : ac.tmps[41]?.getD undef = .bool true := h.tm 11 41 rfl rfl
    have e66 : ac.tmps[66]?.getD undef = .bool true := h.tm 36 66 rfl rfl
    refine opFree rfl ?_
    exact relRun (v := .bool true) (w' := u) (by simp [go_sem, e41, e66]) (okP hg rfl)
  intro vs gs u hb hg hr
  have r0 : vs 0 = .agg #[.slice none 0 0, .int .i64 0, .int .i64 0, .int .i64 0, .int .i64 0] := hr 0 (by decide)
  have r1 : vs 1 = .agg #[.slice none 0 0, .int .i64 0, .int .i64 0, .int .i64 0, .int .i64 0] := hr 1 (by decide)
  have r2 : vs 2 = .bool true := hr 2 (by decide)
  have r3 : vs 3 = .bool true := hr 3 (by decide)
  have r4 : vs 4 = .int .i64 4 := hr 4 (by decide)
  have r5 : vs 5 = .bool true := hr 5 (by decide)
  have r6 : vs 6 = .bool true := hr 6 (by decide)
  have r7 : vs 7 = .bool true := hr 7 (by decide)
  have r8 : vs 8 = .bool false := hr 8 (by decide)
  have r9 : vs 9 = .bool true := hr 9 (by decide)
  have r10 : vs 10 = .bool true := hr 10 (by decide)
  have r11 : vs 11 = .bool true := hr 11 (by decide)
  have r12 : vs 12 = .pointer none := hr 12 (by decide)
  have r13 : vs 13 = .pointer (some ⟨sb, 3, none⟩) := hr 13 (by decide)
  have r14 : vs 14 = .int .i64 q.n := hr 14 (by decide)
  have r15 : vs 15 = .slice none 0 0 := hr 15 (by decide)
  have r16 : vs 16 = .int .i64 0 := hr 16 (by decide)
  have r17 : vs 17 = .pointer none := hr 17 (by decide)
  have r18 : vs 18 = .slice none 0 0 := hr 18 (by decide)
  have r19 : vs 19 = .int .i64 0 := hr 19 (by decide)
  have r20 : vs 20 = .int .i64 0 := hr 20 (by decide)
  have r21 : vs 21 = .pointer none := hr 21 (by decide)
  have r22 : vs 22 = .slice none 0 0 := hr 22 (by decide)
  have r23 : vs 23 = .int .i64 0 := hr 23 (by decide)
  have r24 : vs 24 = .int .i64 0 := hr 24 (by decide)
  have r25 : vs 25 = .pointer none := hr 25 (by decide)
  have r26 : vs 26 = .int .i64 0 := hr 26 (by decide)
  have r27 : vs 27 = .int .i64 0 := hr 27 (by decide)
  have r28 : vs 28 = .pointer none := hr 28 (by decide)
  have r29 : vs 29 = .pointer (some ⟨sb, 4, none⟩) := hr 29 (by decide)
  have r30 : vs 30 = .int .i64 q.round := hr 30 (by decide)
  have r31 : vs 31 = .int .i64 0 := hr 31 (by decide)
  have r32 : vs 32 = .int .i64 0 := hr 32 (by decide)
  have r33 : vs 33 = .pointer none := hr 33 (by decide)
  have r34 : vs 34 = .int .i64 0 := hr 34 (by decide)
  have r35 : vs 35 = .int .i64 0 := hr 35 (by decide)
  have r36 : vs 36 = .bool true := hr 36 (by decide)
  have r37 : vs 37 = .bool true := hr 37 (by decide)
  simp only [List.take_succ_cons, List.take_zero, List.drop_succ_cons, List.drop_zero, putOps, r0, r1, r2, r3, r4, r5, r6, r7, r8, r9, r10, r11, r12, r13, r14, r15, r16, r17, r18, r19, r20, r21, r22, r23, r24, r25, r26, r27, r28, r29, r30, r31, r32, r33, r34, r35, r36, r37]
  simp only [Act.put, List.setIfInBounds_toArray, List.set_cons_succ, List.set_cons_zero]
  clear hr r0 r1 r2 r3 r4 r5 r6 r7 r8 r9 r10 r11 r12 r13 r14 r15 r16 r17 r18 r19 r20 r21 r22 r23 r24 r25 r26 r27 r28 r29 r30 r31 r32 r33 r34 r35 r36 r37
  -- GER
  go_wp2
  go_ret
  exact ⟨rfl, Below.next hB2.out hb (Nat.le_of_lt (hsb.out ▸ hS2.out.lt))⟩
end Go.Proofs.Ytealopempjempaa.Gt
