/- DERIVED. The walk over the statement GatePlays: what a gate answers, and has, in whatever row, of any channel, is what the document says. -/
import Derived.Test.YtealopempjempaaGatePlaysP
import Derived.Test.YtealopempjempaaRegJ
import Derived.Test.YtealopempjempaaGateL
import Derived.Test.YtealopempjempaaCfgG
import Derived.Test.YtealopempjempaaGateX
namespace Go.Proofs.Ytealopempjempaa.Gt
set_option linter.unusedVariables false
set_option linter.unusedSimpArgs false
open Go.RowKit Go.Proofs.Ytealopempjempaa.K Go.Proofs.Ytealopempjempaa.Lb Go.Proofs.Ytealopempjempaa.La Go.Proofs.Ytealopempjempaa.Cf Go.Proofs.Ytealopempjempaa.Rl
set_option maxHeartbeats 4000000 in
set_option maxRecDepth 100000 in
theorem gplays_c {w : World} (k : Chan) (raw : Bool) {ao : Option Addr} {n0 c0 : Nat} {qs : List (Value × GSt)} (hs0 : GStepsAt w (.slice ao n0 c0) qs) : Calls Try.prog 8 #[aggC k, .bool raw, .slice ao n0 c0] w (LivesPost w) := by
  replace hs0 := hid hs0
  have hb0 := hid ((Below.refl w.heap.size w).alloc (Nat.le_refl _) (.cells #[.int .i64 k.kind, .int .i64 k.frm, .int .i64 k.to, .int .i64 k.words, .int .i64 k.refresh, .int .i64 k.lanes, .int .i64 k.depth, .int .i64 k.hold, .int .i64 k.life, .int .i64 k.rate, .int .i64 k.cap] 23))
  have hK0 := hid (pts.newA w #[.int .i64 k.kind, .int .i64 k.frm, .int .i64 k.to, .int .i64 k.words, .int .i64 k.refresh, .int .i64 k.lanes, .int .i64 k.depth, .int .i64 k.hold, .int .i64 k.life, .int .i64 k.rate, .int .i64 k.cap] 23)
  have hgd := hid (fun w => good_c w k)
  generalize goodK k = kg at hgd
  unfold aggC at *
  go_enter Try.func8, Try.ntmps8
  go_upto_region 3 with (first | (go_at_call 10; (with_reducible refine (lives_c _).mono ?_); rintro e W1 ⟨rfl, hb⟩; have hK1 := hid (hK0.out.below hb); have hB1 := hid (Below.next hb0.out hb hb0.out.size); clear hb))
  obtain ⟨kb, hkb⟩ : ∃ kb, kb = w.heap.size := ⟨_, rfl⟩
  rw [← hkb] at hK1 ⊢
  have hkb0 : w.heap.size ≤ kb := by omega
  replace hkb := hid hkb
  clear hb0 hK0
  have y0 := (hK1.out).cell 0
  have y1 := (hK1.out).cell 1
  have y2 := (hK1.out).cell 2
  have y3 := (hK1.out).cell 3
  have y4 := (hK1.out).cell 4
  have y5 := (hK1.out).cell 5
  have y6 := (hK1.out).cell 6
  have y7 := (hK1.out).cell 7
  have y8 := (hK1.out).cell 8
  have y9 := (hK1.out).cell 9
  have y10 := (hK1.out).cell 10
  have yl := (hK1.out).lt
  have yf := fun o => (hK1.out).frozen o
  simp only [List.getElem?_cons_zero, List.getElem?_cons_succ] at y0 y1 y2 y3 y4 y5 y6 y7 y8 y9 y10
  go_upto_if 27 with fail
  go_cut [] from 27 to 29 (fun wx => ∃ kk : Chan, pts wx kb [.int .i64 kk.kind, .int .i64 kk.frm, .int .i64 kk.to, .int .i64 kk.words, .int .i64 kk.refresh, .int .i64 kk.lanes, .int .i64 kk.depth, .int .i64 kk.hold, .int .i64 kk.life, .int .i64 kk.rate, .int .i64 kk.cap] 23 ∧ Below w.heap.size w wx)
  case first =>
    cases raw with
    | true =>
      go_wp2
      go_meet
      case rel => exact ⟨k, hK1.out, hB1.out⟩
    | false =>
      go_upto_region 4 with fail
      clear y0 y1 y2 y3 y4 y5 y6 y7 y8 y9 y10 yl yf
      -- REG empennage/empennagelaw12.GatePlays|4|GatePlays.4
      refine region_tab 2 [Sp.eq (.agg #[.int .i64 k.kind, .int .i64 k.frm, .int .i64 k.to, .int .i64 k.words, .int .i64 k.refresh, .int .i64 k.lanes, .int .i64 k.depth, .int .i64 k.hold, .int .i64 k.life, .int .i64 k.rate, .int .i64 k.cap]), Sp.eq (.agg #[.int .i64 kg.kind, .int .i64 kg.frm, .int .i64 kg.to, .int .i64 kg.words, .int .i64 kg.refresh, .int .i64 kg.lanes, .int .i64 kg.depth, .int .i64 kg.hold, .int .i64 kg.life, .int .i64 kg.rate, .int .i64 kg.cap])] (fun _ _ _ _ _ h => h) (by kernel_rfl) (by kernel_rfl) ⟨?_, ?_, trivial⟩ ?_
      · intro ac gs u hb hg h
        have e3 : ac.tmps[3]?.getD undef = .pointer (some ⟨kb, 0, none⟩) := h.inm 3 rfl rfl
        refine opFree rfl ?_
        exact relRun (v := .agg #[.int .i64 k.kind, .int .i64 k.frm, .int .i64 k.to, .int .i64 k.words, .int .i64 k.refresh, .int .i64 k.lanes, .int .i64 k.depth, .int .i64 k.hold, .int .i64 k.life, .int .i64 k.rate, .int .i64 k.cap]) (w' := u) (by simp [go_sem, e3, ((hK1.out.below hb).cell 0), ((hK1.out.below hb).cell 1), ((hK1.out.below hb).cell 2), ((hK1.out.below hb).cell 3), ((hK1.out.below hb).cell 4), ((hK1.out.below hb).cell 5), ((hK1.out.below hb).cell 6), ((hK1.out.below hb).cell 7), ((hK1.out.below hb).cell 8), ((hK1.out.below hb).cell 9), ((hK1.out.below hb).cell 10)]) (okP hg rfl)
      · intro ac gs u hb hg h
        have e28 : ac.tmps[28]?.getD undef = .agg #[.int .i64 k.kind, .int .i64 k.frm, .int .i64 k.to, .int .i64 k.words, .int .i64 k.refresh, .int .i64 k.lanes, .int .i64 k.depth, .int .i64 k.hold, .int .i64 k.life, .int .i64 k.rate, .int .i64 k.cap] := h.tm 0 28 rfl rfl
        refine opFree rfl ?_
        refine relCall (f := _) (args := #[.agg #[.int .i64 k.kind, .int .i64 k.frm, .int .i64 k.to, .int .i64 k.words, .int .i64 k.refresh, .int .i64 k.lanes, .int .i64 k.depth, .int .i64 k.hold, .int .i64 k.life, .int .i64 k.rate, .int .i64 k.cap]]) (by simp [go_sem, e28]; rfl) ?_
        refine (hgd.out _).mono ?_
        rintro e w' ⟨rfl, hb'⟩
        exact ⟨_, rfl, okB hg hb' rfl⟩
      intro vs gs u hb hg hr
      have r0 : vs 0 = .agg #[.int .i64 k.kind, .int .i64 k.frm, .int .i64 k.to, .int .i64 k.words, .int .i64 k.refresh, .int .i64 k.lanes, .int .i64 k.depth, .int .i64 k.hold, .int .i64 k.life, .int .i64 k.rate, .int .i64 k.cap] := hr 0 (by decide)
      have r1 : vs 1 = .agg #[.int .i64 kg.kind, .int .i64 kg.frm, .int .i64 kg.to, .int .i64 kg.words, .int .i64 kg.refresh, .int .i64 kg.lanes, .int .i64 kg.depth, .int .i64 kg.hold, .int .i64 kg.life, .int .i64 kg.rate, .int .i64 kg.cap] := hr 1 (by decide)
      simp only [List.take_succ_cons, List.take_zero, List.drop_succ_cons, List.drop_zero, putOps, r0, r1]
      simp only [Act.put, List.setIfInBounds_toArray, List.set_cons_succ, List.set_cons_zero]
      clear hr r0 r1
      -- GER
      have hK3 := hid (hK1.out.below hb)
      have hB3 := hid (Below.next hB1.out hb hB1.out.size)
      have hfin := hid (show ∃ kk : Chan, pts (setN u kb 0 [.int .i64 kg.kind, .int .i64 kg.frm, .int .i64 kg.to, .int .i64 kg.words, .int .i64 kg.refresh, .int .i64 kg.lanes, .int .i64 kg.depth, .int .i64 kg.hold, .int .i64 kg.life, .int .i64 kg.rate, .int .i64 kg.cap]) kb [.int .i64 kk.kind, .int .i64 kk.frm, .int .i64 kk.to, .int .i64 kk.words, .int .i64 kk.refresh, .int .i64 kk.lanes, .int .i64 kk.depth, .int .i64 kk.hold, .int .i64 kk.life, .int .i64 kk.rate, .int .i64 kk.cap] 23 ∧ Below w.heap.size w (setN u kb 0 [.int .i64 kg.kind, .int .i64 kg.frm, .int .i64 kg.to, .int .i64 kg.words, .int .i64 kg.refresh, .int .i64 kg.lanes, .int .i64 kg.depth, .int .i64 kg.hold, .int .i64 kg.life, .int .i64 kg.rate, .int .i64 kg.cap]) from ⟨kg, setN_pts0 hK3.out [.int .i64 kg.kind, .int .i64 kg.frm, .int .i64 kg.to, .int .i64 kg.words, .int .i64 kg.refresh, .int .i64 kg.lanes, .int .i64 kg.depth, .int .i64 kg.hold, .int .i64 kg.life, .int .i64 kg.rate, .int .i64 kg.cap] rfl, setN_below kb hkb0 [.int .i64 kg.kind, .int .i64 kg.frm, .int .i64 kg.to, .int .i64 kg.words, .int .i64 kg.refresh, .int .i64 kg.lanes, .int .i64 kg.depth, .int .i64 kg.hold, .int .i64 kg.life, .int .i64 kg.rate, .int .i64 kg.cap] 0 _ hB3.out⟩)
      refine lStore (cs := [.int .i64 kg.kind, .int .i64 kg.frm, .int .i64 kg.to, .int .i64 kg.words, .int .i64 kg.refresh, .int .i64 kg.lanes, .int .i64 kg.depth, .int .i64 kg.hold, .int .i64 kg.life, .int .i64 kg.rate, .int .i64 kg.cap]) rfl rfl rfl rfl hK3.out rfl (by kernel_rfl) rfl ?_
      clear hb hg hgd
      go_wp2
      go_meet
      case rel => exact hfin.out
  case rest =>
    clear hK1 hB1 hgd y0 y1 y2 y3 y4 y5 y6 y7 y8 y9 y10 yl yf
    obtain ⟨kk, hK4, hB4⟩ := hcut
    generalize hw4 : wc = w4 at hK4 hB4 ⊢
    clear hw4
    replace hK4 := hid hK4
    replace hB4 := hid hB4
    go_upto_region 5 with fail
    -- REG empennage/empennagelaw12.GatePlays|5|GatePlays.5
    refine region_tab 6 [Sp.eq (.agg #[.int .i64 kk.kind, .int .i64 kk.frm, .int .i64 kk.to, .int .i64 kk.words, .int .i64 kk.refresh, .int .i64 kk.lanes, .int .i64 kk.depth, .int .i64 kk.hold, .int .i64 kk.life, .int .i64 kk.rate, .int .i64 kk.cap]), ⟨fun v gs u => GNewO w4.heap.size kk gs u v, fun v gs w gs' w' h hs => h.st hs⟩, Sp.eq (.agg #[.int .i64 kk.kind, .int .i64 kk.frm, .int .i64 kk.to, .int .i64 kk.words, .int .i64 kk.refresh, .int .i64 kk.lanes, .int .i64 kk.depth, .int .i64 kk.hold, .int .i64 kk.life, .int .i64 kk.rate, .int .i64 kk.cap]), Sp.eq (aggG kk (.slice none 0 0) (newB kk.rate kk.cap) 0), ⟨fun v gs u => BOut w4.heap.size 60 zeroG gs u v, fun v gs w gs' w' h hs => h.st hs⟩, ⟨fun v gs u => GNewO w4.heap.size kk gs u v, fun v gs w gs' w' h hs => h.st hs⟩] (fun _ _ _ _ _ h => h) (by kernel_rfl) (by kernel_rfl) ⟨?_, ?_, ?_, ?_, ?_, ?_, trivial⟩ ?_
    · intro ac gs u hb hg h
      have e3 : ac.tmps[3]?.getD undef = .pointer (some ⟨kb, 0, none⟩) := h.inm 3 rfl rfl
      refine opFree rfl ?_
      exact relRun (v := .agg #[.int .i64 kk.kind, .int .i64 kk.frm, .int .i64 kk.to, .int .i64 kk.words, .int .i64 kk.refresh, .int .i64 kk.lanes, .int .i64 kk.depth, .int .i64 kk.hold, .int .i64 kk.life, .int .i64 kk.rate, .int .i64 kk.cap]) (w' := u) (by simp [go_sem, e3, ((hK4.out.below hb).cell 0), ((hK4.out.below hb).cell 1), ((hK4.out.below hb).cell 2), ((hK4.out.below hb).cell 3), ((hK4.out.below hb).cell 4), ((hK4.out.below hb).cell 5), ((hK4.out.below hb).cell 6), ((hK4.out.below hb).cell 7), ((hK4.out.below hb).cell 8), ((hK4.out.below hb).cell 9), ((hK4.out.below hb).cell 10)]) (okP hg rfl)
    · intro ac gs u hb hg h
      have e30 : ac.tmps[30]?.getD undef = .agg #[.int .i64 kk.kind, .int .i64 kk.frm, .int .i64 kk.to, .int .i64 kk.words, .int .i64 kk.refresh, .int .i64 kk.lanes, .int .i64 kk.depth, .int .i64 kk.hold, .int .i64 kk.life, .int .i64 kk.rate, .int .i64 kk.cap] := h.tm 0 30 rfl rfl
      refine opFree rfl ?_
      refine relCall (f := _) (args := #[.agg #[.int .i64 kk.kind, .int .i64 kk.frm, .int .i64 kk.to, .int .i64 kk.words, .int .i64 kk.refresh, .int .i64 kk.lanes, .int .i64 kk.depth, .int .i64 kk.hold, .int .i64 kk.life, .int .i64 kk.rate, .int .i64 kk.cap]]) (by simp [go_sem, e30]; rfl) ?_
      refine (gnew_o kk hb hg).mono ?_
      rintro e w' ⟨v, rfl, ho, hb'⟩
      exact ⟨_, rfl, okB hg hb' ho⟩
    · intro ac gs u hb hg h
      have e3 : ac.tmps[3]?.getD undef = .pointer (some ⟨kb, 0, none⟩) := h.inm 3 rfl rfl
      refine opFree rfl ?_
      exact relRun (v := .agg #[.int .i64 kk.kind, .int .i64 kk.frm, .int .i64 kk.to, .int .i64 kk.words, .int .i64 kk.refresh, .int .i64 kk.lanes, .int .i64 kk.depth, .int .i64 kk.hold, .int .i64 kk.life, .int .i64 kk.rate, .int .i64 kk.cap]) (w' := u) (by simp [go_sem, e3, ((hK4.out.below hb).cell 0), ((hK4.out.below hb).cell 1), ((hK4.out.below hb).cell 2), ((hK4.out.below hb).cell 3), ((hK4.out.below hb).cell 4), ((hK4.out.below hb).cell 5), ((hK4.out.below hb).cell 6), ((hK4.out.below hb).cell 7), ((hK4.out.below hb).cell 8), ((hK4.out.below hb).cell 9), ((hK4.out.below hb).cell 10)]) (okP hg rfl)
    · intro ac gs u hb hg h
      have e32 : ac.tmps[32]?.getD undef = .agg #[.int .i64 kk.kind, .int .i64 kk.frm, .int .i64 kk.to, .int .i64 kk.words, .int .i64 kk.refresh, .int .i64 kk.lanes, .int .i64 kk.depth, .int .i64 kk.hold, .int .i64 kk.life, .int .i64 kk.rate, .int .i64 kk.cap] := h.tm 2 32 rfl rfl
      refine opFree rfl ?_
      refine relCall (f := _) (args := #[.agg #[.int .i64 kk.kind, .int .i64 kk.frm, .int .i64 kk.to, .int .i64 kk.words, .int .i64 kk.refresh, .int .i64 kk.lanes, .int .i64 kk.depth, .int .i64 kk.hold, .int .i64 kk.life, .int .i64 kk.rate, .int .i64 kk.cap]]) (by simp [go_sem, e32]; rfl) ?_
      refine (rgnew_c _ kk).mono ?_
      rintro e w' ⟨rfl, hb'⟩
      exact ⟨_, rfl, okB hg hb' rfl⟩
    · intro ac gs u hb hg h
      refine opFree rfl ?_
      exact relRun (v := .pointer (some ⟨u.heap.size, 0, none⟩)) (w' := u.alloc (.cells zeroG.toArray 60)) (by simp [go_sem, zeroG]) (okA _ hg ⟨_, rfl, List.mem_cons_self, hb.size, pts.newA u _ _⟩)
    · intro ac gs u hb hg h
      have e31 := h.tm 1 31 rfl rfl
      refine opFree rfl ?_
      exact relAssignT _ rfl rfl (okP hg e31)
    intro vs gs u hb hg hr
    have r0 : vs 0 = .agg #[.int .i64 kk.kind, .int .i64 kk.frm, .int .i64 kk.to, .int .i64 kk.words, .int .i64 kk.refresh, .int .i64 kk.lanes, .int .i64 kk.depth, .int .i64 kk.hold, .int .i64 kk.life, .int .i64 kk.rate, .int .i64 kk.cap] := hr 0 (by decide)
    have r1 := hr 1 (by decide)
    have r2 : vs 2 = .agg #[.int .i64 kk.kind, .int .i64 kk.frm, .int .i64 kk.to, .int .i64 kk.words, .int .i64 kk.refresh, .int .i64 kk.lanes, .int .i64 kk.depth, .int .i64 kk.hold, .int .i64 kk.life, .int .i64 kk.rate, .int .i64 kk.cap] := hr 2 (by decide)
    have r3 : vs 3 = aggG kk (.slice none 0 0) (newB kk.rate kk.cap) 0 := hr 3 (by decide)
    have r4 := hr 4 (by decide)
    have r5 := hr 5 (by decide)
    obtain ⟨rb, e8, hrb, hrb0, hrp⟩ := r4
    obtain ⟨gb, M5, e7, hG5, hM5⟩ := r5
    simp only [List.take_succ_cons, List.take_zero, List.drop_succ_cons, List.drop_zero, putOps, r0, r2, r3, e8, e7]
    simp only [Act.put, List.setIfInBounds_toArray, List.set_cons_succ, List.set_cons_zero]
    clear hr r0 r2 r3 e8 e7
    -- GER
    have hM5b := hid hM5
    refine lStore (cs := encGt kk (.slice none 0 0) (newB kk.rate kk.cap) 0) rfl rfl rfl rfl hrp rfl (by kernel_rfl) rfl ?_
    have hR6 := hid (show RAt (setN u rb 0 (encGt kk (.slice none 0 0) (newB kk.rate kk.cap) 0)) M5 rb ⟨kk, [], newB kk.rate kk.cap, 0⟩ (.slice none 0 0) from ⟨setN_pts0 hrp _ rfl, fun hm => (hM5 rb hm).2 hrb, MsgsR.nil _ _, Plain.nil⟩)
    have hG6 := hid (GateM.setNb hG5 (b := rb) (fun hm => (hM5 rb hm).2 hrb) (encGt kk (.slice none 0 0) (newB kk.rate kk.cap) 0) 0)
    have hW6 := hid (Wd.setN (show Wd w4.heap.size w4 u M5 from ⟨hb, fun b h => (hM5 b h).1, hG5.lt, hb.size⟩) hrb0 (encGt kk (.slice none 0 0) (newB kk.rate kk.cap) 0) 0)
    generalize setN u rb 0 (encGt kk (.slice none 0 0) (newB kk.rate kk.cap) 0) = w6 at hR6 hG6 hW6 ⊢
    have hL4 := hid hB4.out.size
    replace hrb0 := hid hrb0
    go_wp2_with (first | (go_at_call 20; (with_reducible refine (gearly_c (w0 := w) _ hs0.out).mono ?_); rintro e w' ⟨v', rfl, hv', rfl⟩; have hl80 := hid (show (qs.take 80).length ≤ 80 by simp; omega); generalize qs.take 80 = ys at hv' hl80; obtain ⟨a3, c3, rfl⟩ := hv'.shape; replace hv' := hid hv'))
    go_loopg [9, 10, 11, 12, 13, 14, 15, 16, 17, 18, 19, 20, 21, 22, 23] ys.length (fun gg si s10 s11 s12 s13 s14 s15 s16 s17 s18 s19 s20 s21 s22 s23 wr => ∃ (i : Nat) (g : Gte) (M : Nat → Prop) (rv : Value), i ≤ ys.length ∧ gg = ys.length - i ∧ si = .int .i64 i ∧ g.seq ≤ i ∧ g.ms.length ≤ i ∧ GateM wr M gb g ∧ Wd w4.heap.size w4 wr M ∧ RAt wr M rb g rv)
    case atStart => exact ⟨0, _, M5, _, by omega, rfl, rfl, by simp, by simp, hG6.out, hW6.out, hR6.out⟩
    case round =>
      clear hG6 hW6 hR6
      obtain ⟨i, g, M, rv, hi, hgg, rfl, hsq, hms, hG, hW, hR⟩ := hrel
      have hBw := hid (hB4.out.trans (hW.below.mono hL4.out))
      have hend := hid (show LivesPost w (.returned (.bool true)) wr from ⟨rfl, hBw.out⟩)
      by_cases hlt : i < ys.length
      · obtain ⟨xg, xo, xa, xc, rfl, xl, xw, c0, c1, c2, c3', c4, c5⟩ := hv'.out.atD hBw.out hlt
        have hi80 : i < 80 := Nat.lt_of_lt_of_le hlt hl80.out
        have d1 : decide ((i : Int) < ys.length) = true := decide_eq_true (by omega)
        generalize ys[i].2 = q at xw c0 c1 c2 c3' c4 c5
        have hbb := (Below.refl wr.heap.size wr).alloc (Nat.le_refl _) (.cells #[.int .i64 q.k, .int .i64 q.mode, .int .i64 q.lane, .int .i64 q.n, .int .i64 q.round, .slice xa q.ws.length xc] 26)
        have hP := hid (pts.newA wr #[.int .i64 q.k, .int .i64 q.mode, .int .i64 q.lane, .int .i64 q.n, .int .i64 q.round, .slice xa q.ws.length xc] 26)
        have hG1 := hid (hG.below hbb)
        have hW1 := hid (hW.next hbb)
        have hR1 := hid (hR.below hbb)
        have hnP := hid (show ¬ M wr.heap.size from fun hm => Nat.lt_irrefl _ (hG.lt wr.heap.size hm))
        have xw1 := hid ((xw.below hBw.out).below hbb)
        replace xw := hid xw
        have hpr0 := hid (show wr.heap.size ≠ rb from fun e => by have := hR.r.lt; omega)
        clear hG hW hR hbb
        go_upto_region 11 with fail
        generalize wr.alloc (.cells #[.int .i64 q.k, .int .i64 q.mode, .int .i64 q.lane, .int .i64 q.n, .int .i64 q.round, .slice xa q.ws.length xc] 26) = w5 at hP hG1 hW1 hR1 xw1 ⊢
        obtain ⟨pb, hpb⟩ : ∃ pb, pb = wr.heap.size := ⟨_, rfl⟩
        rw [← hpb] at hP hnP hpr0 ⊢
        replace hpb := hid hpb
        clear c0 c1 c2 c3' c4 c5 xl d1
        have p0 := hP.out.cell 0
        have p1 := hP.out.cell 1
        have p2 := hP.out.cell 2
        have p3 := hP.out.cell 3
        have p4 := hP.out.cell 4
        have p5 := hP.out.cell 5
        have pl := hP.out.lt
        simp only [List.getElem?_cons_zero, List.getElem?_cons_succ] at p0 p1 p2 p3 p4 p5
        have hkd := hid (show 0 ≤ kindT q.k ∧ kindT q.k < 8 from by unfold kindT; omega)
        go_upto_block 2 with (first | (go_at_call 23; (with_reducible refine (gkind_c _ q _ _ _).mono ?_); rintro e w6 ⟨rfl, hb⟩; have hG6 := hid (hG1.out.below hb); have hW6 := hid (hW1.out.next hb); have hR6 := hid (hR1.out.below hb); have hP6 := hid (hP.out.below hb); have xw6 := hid (xw1.out.below hb); clear hb))
        clear p0 p1 p2 p3 p4 p5 pl hG1 hW1 hR1 hP xw1
        generalize kindT q.k = K at hkd ⊢
        have hbnd := hid (show g.seq ≤ (i : Int) ∧ g.ms.length ≤ i from ⟨hsq, hms⟩)
        replace hsq := hid (show 0 ≤ g.seq ∧ g.seq < 1000000 from ⟨by obtain ⟨_, _, _, hA, _, _⟩ := hG6.out; exact hA.s.1, by omega⟩)
        replace hms := hid (show g.ms.length < 1000 by omega)
        have hbk := hid (show g.b.Ok by obtain ⟨_, _, _, hA, _, _⟩ := hG6.out; exact hA.ok)
        go_cut [11, 12, 13, 14, 15, 16, 17, 18, 19, 20, 21, 22, 23] from 48 to 149 (fun v11 u12 u13 u14 u15 u16 u17 u18 u19 u20 u21 u22 u23 wx => v11 = .bool true ∧ ∃ (g' : Gte) (M' : Nat → Prop) (rv' : Value), g'.seq ≤ i + 1 ∧ g'.ms.length ≤ i + 1 ∧ GateM wx M' gb g' ∧ Wd w4.heap.size w4 wx M' ∧ RAt wx M' rb g' rv')
        case first =>
          by_cases hK5 : K < 5
          · go_upto_if 48 with fail
            go_cut [48] from 48 to 53 (fun v wx => v = .bool true ∧ w6 = wx)
            case first =>
              rcases (show K = 0 ∨ K = 1 ∨ K = 2 ∨ K = 3 ∨ K = 4 by have := hkd.out; omega) with rfl | rfl | rfl | rfl | rfl
              all_goals go_wp2
              all_goals go_meet
              all_goals exact ⟨rfl, rfl⟩
            case rest =>
              obtain ⟨rfl, rfl⟩ := hcut
              obtain ⟨R, hR0⟩ : ∃ R, offerT g q.mode q.lane (cutW q.ws) q.n q.round = R := ⟨_, rfl⟩
              replace hR0 := hid hR0
              go_upto_region 18 with fail
              -- REG empennage/empennagelaw12.GatePlays|18|GatePlays.18
              refine region_tab 18 [Sp.eq (aggG g.k rv g.b g.seq), Sp.eq (.pointer (some ⟨pb, 1, none⟩)), Sp.eq (.int .i64 q.mode), Sp.eq (.pointer (some ⟨pb, 2, none⟩)), Sp.eq (.int .i64 q.lane), Sp.eq (.agg #[.int .i64 q.k, .int .i64 q.mode, .int .i64 q.lane, .int .i64 q.n, .int .i64 q.round, .slice xa q.ws.length xc]), Sp.eq (.slice xa (cutW q.ws).length xc), Sp.eq (.pointer (some ⟨pb, 3, none⟩)), Sp.eq (.int .i64 q.n), Sp.eq (.pointer (some ⟨pb, 4, none⟩)), Sp.eq (.int .i64 q.round), ⟨fun v gs u => ROut (fun b => ¬ M b ∧ b ≠ rb) R gs u v, fun v gs w gs' w' h hs => h.st hs⟩, ⟨fun v gs u => ROut (fun b => ¬ M b ∧ b ≠ rb) R gs u v, fun v gs w gs' w' h hs => h.st hs⟩, ⟨fun v gs u => GAgg (fun b => ¬ M b ∧ b ≠ rb) R.1 gs u v, fun v gs w gs' w' h hs => h.st hs⟩, ⟨fun v gs u => MAgg (fun b => ¬ M b ∧ b ≠ rb) R.2.1 gs u v, fun v gs w gs' w' h hs => h.st hs⟩, Sp.eq (.int .i64 R.2.2), ⟨fun v gs u => BOut w6.heap.size 60 zeroG gs u v, fun v gs w gs' w' h hs => h.st hs⟩, ⟨fun v gs u => BOut w6.heap.size 37 zeroM gs u v, fun v gs w gs' w' h hs => h.st hs⟩] (fun _ _ _ _ _ h => h) (by kernel_rfl) (by kernel_rfl) ⟨?_, ?_, ?_, ?_, ?_, ?_, ?_, ?_, ?_, ?_, ?_, ?_, ?_, ?_, ?_, ?_, ?_, ?_, trivial⟩ ?_
              · intro ac gs u hb hg h
                have e8 : ac.tmps[8]?.getD undef = .pointer (some ⟨rb, 0, none⟩) := h.inm 8 rfl rfl
                refine opFree rfl ?_
                exact relRun (v := aggG g.k rv g.b g.seq) (w' := u) (xLoad (cs := encGt g.k rv g.b g.seq) rfl e8 ((hR6.out.below hb).r) Try.underlying60 rfl (by kernel_rfl)) (okP hg rfl)
              · intro ac gs u hb hg h
                have e10 : ac.tmps[10]?.getD undef = .pointer (some ⟨pb, 0, none⟩) := h.inm 10 rfl rfl
                refine opFree rfl ?_
                exact relRun (v := .pointer (some ⟨pb, 1, none⟩)) (w' := u) (by simp [go_sem, e10]) (okP hg rfl)
              · intro ac gs u hb hg h
                have e56 : ac.tmps[56]?.getD undef = .pointer (some ⟨pb, 1, none⟩) := h.tm 1 56 rfl rfl
                refine opFree rfl ?_
                exact relRun (v := .int .i64 q.mode) (w' := u) (by simp [go_sem, e56, ((hP6.out.below hb).cell 1)]) (okP hg rfl)
              · intro ac gs u hb hg h
                have e10 : ac.tmps[10]?.getD undef = .pointer (some ⟨pb, 0, none⟩) := h.inm 10 rfl rfl
                refine opFree rfl ?_
                exact relRun (v := .pointer (some ⟨pb, 2, none⟩)) (w' := u) (by simp [go_sem, e10]) (okP hg rfl)
              · intro ac gs u hb hg h
                have e58 : ac.tmps[58]?.getD undef = .pointer (some ⟨pb, 2, none⟩) := h.tm 3 58 rfl rfl
                refine opFree rfl ?_
                exact relRun (v := .int .i64 q.lane) (w' := u) (by simp [go_sem, e58, ((hP6.out.below hb).cell 2)]) (okP hg rfl)
              · intro ac gs u hb hg h
                have e10 : ac.tmps[10]?.getD undef = .pointer (some ⟨pb, 0, none⟩) := h.inm 10 rfl rfl
                refine opFree rfl ?_
                exact relRun (v := .agg #[.int .i64 q.k, .int .i64 q.mode, .int .i64 q.lane, .int .i64 q.n, .int .i64 q.round, .slice xa q.ws.length xc]) (w' := u) (by simp [go_sem, e10, ((hP6.out.below hb).cell 0), ((hP6.out.below hb).cell 1), ((hP6.out.below hb).cell 2), ((hP6.out.below hb).cell 3), ((hP6.out.below hb).cell 4), ((hP6.out.below hb).cell 5)]) (okP hg rfl)
              · intro ac gs u hb hg h
                have e60 : ac.tmps[60]?.getD undef = .agg #[.int .i64 q.k, .int .i64 q.mode, .int .i64 q.lane, .int .i64 q.n, .int .i64 q.round, .slice xa q.ws.length xc] := h.tm 5 60 rfl rfl
                refine opFree rfl ?_
                refine relCall (f := _) (args := #[.agg #[.int .i64 q.k, .int .i64 q.mode, .int .i64 q.lane, .int .i64 q.n, .int .i64 q.round, .slice xa q.ws.length xc]]) (by simp [go_sem, e60]; rfl) ?_
                refine (words_c q (xw6.out.below hb)).mono ?_
                rintro e w' ⟨rfl, hb'⟩
                exact ⟨_, rfl, okB hg hb' rfl⟩
              · intro ac gs u hb hg h
                have e10 : ac.tmps[10]?.getD undef = .pointer (some ⟨pb, 0, none⟩) := h.inm 10 rfl rfl
                refine opFree rfl ?_
                exact relRun (v := .pointer (some ⟨pb, 3, none⟩)) (w' := u) (by simp [go_sem, e10]) (okP hg rfl)
              · intro ac gs u hb hg h
                have e62 : ac.tmps[62]?.getD undef = .pointer (some ⟨pb, 3, none⟩) := h.tm 7 62 rfl rfl
                refine opFree rfl ?_
                exact relRun (v := .int .i64 q.n) (w' := u) (by simp [go_sem, e62, ((hP6.out.below hb).cell 3)]) (okP hg rfl)
              · intro ac gs u hb hg h
                have e10 : ac.tmps[10]?.getD undef = .pointer (some ⟨pb, 0, none⟩) := h.inm 10 rfl rfl
                refine opFree rfl ?_
                exact relRun (v := .pointer (some ⟨pb, 4, none⟩)) (w' := u) (by simp [go_sem, e10]) (okP hg rfl)
              · intro ac gs u hb hg h
                have e64 : ac.tmps[64]?.getD undef = .pointer (some ⟨pb, 4, none⟩) := h.tm 9 64 rfl rfl
                refine opFree rfl ?_
                exact relRun (v := .int .i64 q.round) (w' := u) (by simp [go_sem, e64, ((hP6.out.below hb).cell 4)]) (okP hg rfl)
              · intro ac gs u hb hg h
                have e55 : ac.tmps[55]?.getD undef = aggG g.k rv g.b g.seq := h.tm 0 55 rfl rfl
                have e57 : ac.tmps[57]?.getD undef = .int .i64 q.mode := h.tm 2 57 rfl rfl
                have e59 : ac.tmps[59]?.getD undef = .int .i64 q.lane := h.tm 4 59 rfl rfl
                have e61 : ac.tmps[61]?.getD undef = .slice xa (cutW q.ws).length xc := h.tm 6 61 rfl rfl
                have e63 : ac.tmps[63]?.getD undef = .int .i64 q.n := h.tm 8 63 rfl rfl
                have e65 : ac.tmps[65]?.getD undef = .int .i64 q.round := h.tm 10 65 rfl rfl
                refine opFree rfl ?_
                have hof := roffer_o hR6.out hb hg hG6.out.lt hms.out hbk.out hsq.out (show IntsAt _ u (.slice xa (cutW q.ws).length xc) (cutW q.ws) from (xw6.out.below hb).cut 8) (by unfold cutW; simp; omega) q.mode q.lane q.n q.round
                rw [hR0.out] at hof
                refine relCall (f := _) (args := #[aggG g.k rv g.b g.seq, .int .i64 q.mode, .int .i64 q.lane, .slice xa (cutW q.ws).length xc, .int .i64 q.n, .int .i64 q.round]) (by simp [go_sem, e55, e57, e59, e61, e63, e65]; rfl) ?_
                refine (hof).mono ?_
                rintro e w' ⟨v, rfl, ho, hb'⟩
                exact ⟨_, rfl, okB hg hb' ho⟩
              · intro ac gs u hb hg h
                have e66 := h.tm 11 66 rfl rfl
                refine opFree rfl ?_
                exact relMoveT _ rfl rfl (okP hg e66)
              · intro ac gs u hb hg h
                have e54 := h.tm 12 54 rfl rfl
                refine opFree rfl ?_
                obtain ⟨x, y, hx, h1, h2⟩ := e54.parts
                exact relRun (v := x) (w' := u) (by simp [go_sem, hx]) (okP hg h1)
              · intro ac gs u hb hg h
                have e54 := h.tm 12 54 rfl rfl
                refine opFree rfl ?_
                obtain ⟨x, y, hx, h1, h2⟩ := e54.parts
                exact relRun (v := y) (w' := u) (by simp [go_sem, hx]) (okP hg h2)
              · intro ac gs u hb hg h
                have e54 := h.tm 12 54 rfl rfl
                refine opFree rfl ?_
                obtain ⟨x, y, hx, h1, h2⟩ := e54.parts
                exact relRun (v := .int .i64 R.2.2) (w' := u) (by simp [go_sem, hx]) (okP hg rfl)
              · intro ac gs u hb hg h
                refine opFree rfl ?_
                exact relRun (v := .pointer (some ⟨u.heap.size, 0, none⟩)) (w' := u.alloc (.cells zeroG.toArray 60)) (by simp [go_sem, zeroG]) (okA _ hg ⟨_, rfl, List.mem_cons_self, hb.size, pts.newA u _ _⟩)
              · intro ac gs u hb hg h
                refine opFree rfl ?_
                exact relRun (v := .pointer (some ⟨u.heap.size, 0, none⟩)) (w' := u.alloc (.cells zeroM.toArray 37)) (by simp [go_sem, zeroM]) (okA _ hg ⟨_, rfl, List.mem_cons_self, hb.size, pts.newA u _ _⟩)
              intro vs gs u hb hg hr
              have r0 : vs 0 = aggG g.k rv g.b g.seq := hr 0 (by decide)
              have r1 : vs 1 = .pointer (some ⟨pb, 1, none⟩) := hr 1 (by decide)
              have r2 : vs 2 = .int .i64 q.mode := hr 2 (by decide)
              have r3 : vs 3 = .pointer (some ⟨pb, 2, none⟩) := hr 3 (by decide)
              have r4 : vs 4 = .int .i64 q.lane := hr 4 (by decide)
              have r5 : vs 5 = .agg #[.int .i64 q.k, .int .i64 q.mode, .int .i64 q.lane, .int .i64 q.n, .int .i64 q.round, .slice xa q.ws.length xc] := hr 5 (by decide)
              have r6 : vs 6 = .slice xa (cutW q.ws).length xc := hr 6 (by decide)
              have r7 : vs 7 = .pointer (some ⟨pb, 3, none⟩) := hr 7 (by decide)
              have r8 : vs 8 = .int .i64 q.n := hr 8 (by decide)
              have r9 : vs 9 = .pointer (some ⟨pb, 4, none⟩) := hr 9 (by decide)
              have r10 : vs 10 = .int .i64 q.round := hr 10 (by decide)
              have r11 := hr 11 (by decide)
              have r12 := hr 12 (by decide)
              have r13 := hr 13 (by decide)
              have r14 := hr 14 (by decide)
              have r15 : vs 15 = .int .i64 R.2.2 := hr 15 (by decide)
              have r16 := hr 16 (by decide)
              have r17 := hr 17 (by decide)
              obtain ⟨nb, e12, hnb, hnb0, hnp⟩ := r16
              obtain ⟨mb, e13, hmb, hmb0, hmp⟩ := r17
              obtain ⟨rv', e67, hq', hpv'⟩ := r13
              obtain ⟨am, cm, e68, him⟩ := r14
              clear r11 r12
              simp only [List.take_succ_cons, List.take_zero, List.drop_succ_cons, List.drop_zero, putOps, r0, r1, r2, r3, r4, r5, r6, r7, r8, r9, r10, r15, e12, e13, e67, e68]
              simp only [Act.put, List.setIfInBounds_toArray, List.set_cons_succ, List.set_cons_zero]
              clear hr r0 r1 r2 r3 r4 r5 r6 r7 r8 r9 r10 r15 e12 e13 e67 e68
              -- GER
              have hne : nb ≠ mb := fun e => by subst e; have := hnp.symm.trans hmp; simp [zeroG, zeroM] at this
              have hmbM := hid (show ¬ M mb from fun hm => by have := hG6.out.lt mb hm; omega)
              have hb7 := setN_below mb hmb0 (encV am cm R.2.1) 0 _ (setN_below nb hnb0 (encGt R.1.k rv' R.1.b R.1.seq) 0 _ hb)
              have hR7 := hid (hR6.out.below hb7)
              have hG7 := hid (hG6.out.below hb7)
              have hW7 := hid (hW6.out.next hb7)
              have hP7 := hid (hP6.out.below hb7)
              have xw7 := hid (xw6.out.below hb7)
              have hN7 := hid (setN_other hne (encV am cm R.2.1) 0 _ (setN_pts0 hnp (encGt R.1.k rv' R.1.b R.1.seq) rfl))
              have hM7 := hid (setN_pts0 (setN_other hne.symm (encGt R.1.k rv' R.1.b R.1.seq) 0 _ hmp) (encV am cm R.2.1) rfl)
              have hq7 := hid ((hq'.kept (setN_own nb (encGt R.1.k rv' R.1.b R.1.seq) 0 u).size (fun c hc hlt => (setN_own nb (encGt R.1.k rv' R.1.b R.1.seq) 0 u).block c hlt (fun e => hc.2 (e ▸ hnb)))).kept (setN_own mb (encV am cm R.2.1) 0 _).size (fun c hc hlt => (setN_own mb (encV am cm R.2.1) 0 _).block c hlt (fun e => hc.2 (e ▸ hmb))))
              have hi7 := hid (IntsAt.setN (IntsAt.setN him (fun h => h.2 hnb) (encGt R.1.k rv' R.1.b R.1.seq) 0) (fun h => h.2 hmb) (encV am cm R.2.1) 0)
              replace hnb0 := hid (show rb < nb ∧ rb < mb from ⟨by have := hR6.out.r.lt; omega, by have := hR6.out.r.lt; omega⟩)
              refine lStore (cs := encGt R.1.k rv' R.1.b R.1.seq) rfl rfl rfl rfl hnp rfl (by kernel_rfl) (encGt_one hpv') ?_
              refine lStore (cs := encV am cm R.2.1) rfl rfl rfl rfl (setN_other hne.symm (encGt R.1.k rv' R.1.b R.1.seq) 0 _ hmp) rfl (by kernel_rfl) rfl ?_
              refine lPure (v := .int .i64 R.2.2) rfl (by simp [go_sem, Act.put]) ?_
              generalize setN (setN u nb 0 (encGt R.1.k rv' R.1.b R.1.seq)) mb 0 (encV am cm R.2.1) = w7 at hR7 hG7 hW7 hP7 xw7 hN7 hM7 hq7 hi7 ⊢
              clear hG6 hW6 hR6 hP6 xw6 hq' him hnp hmp hb7 hb hg
              go_upto_region 19 with fail
              refine wp_region_lit ?_
              refine lLoad (cs := encGt R.1.k rv' R.1.b R.1.seq) rfl rfl rfl hN7.out Try.underlying60 rfl (by kernel_rfl) ?_
              refine lStore (cs := encGt R.1.k rv' R.1.b R.1.seq) rfl rfl rfl rfl hR7.out.r rfl (by kernel_rfl) (encGt_one hpv') ?_
              have hR8 := hid (RAt.set hR7.out (g' := R.1) (hq7.out.mono (fun b h _ => h.1)) hpv')
              have hG8 := hid (GateM.setNb hG7.out hR7.out.nr (encGt R.1.k rv' R.1.b R.1.seq) 0)
              have hW8 := hid (Wd.setN hW7.out hrb0.out (encGt R.1.k rv' R.1.b R.1.seq) 0)
              have hpr := hid (show pb ≠ rb from fun e => hpr0.out e)
              have hP8 := hid (setN_other hpr.out (encGt R.1.k rv' R.1.b R.1.seq) 0 _ hP7.out)
              have xw8 := hid ((IntsAt.setN (xw7.out.mono (ok' := fun b => b < w.heap.size) (fun b h _ => h)) (b := rb) (by have := hrb0.out; have := hL4.out; omega) (encGt R.1.k rv' R.1.b R.1.seq) 0).mono (ok' := fun b => ¬ M b ∧ b < w.heap.size) (fun b h _ => ⟨fun hm => by have := hW7.out.ge b hm; have := hL4.out; omega, h⟩))
              have hM78 := hid (setN_other (b := rb) (by have := hnb0.out; omega) (encGt R.1.k rv' R.1.b R.1.seq) 0 _ hM7.out)
              have hi8 := hid (IntsAt.setN hi7.out (b := rb) (fun h => h.1.2 rfl) (encGt R.1.k rv' R.1.b R.1.seq) 0)
              generalize setN w7 rb 0 (encGt R.1.k rv' R.1.b R.1.seq) = w8 at hR8 hG8 hW8 hP8 xw8 hM78 hi8 ⊢
              clear hR7 hG7 hW7 hP7 xw7 hN7 hM7 hq7 hi7
              have hM8 := hid hG8.out.lt
              go_upto_region 20 with fail
              -- REG empennage/empennagelaw12.GatePlays|20|GatePlays.20
              refine region_chg 16 (M) 11 (fun u => GateM u M gb g) [Sp.eq (.pointer (some ⟨gb, 0, none⟩)), Sp.eq (.pointer (some ⟨pb, 1, none⟩)), Sp.eq (.int .i64 q.mode), Sp.eq (.pointer (some ⟨pb, 2, none⟩)), Sp.eq (.int .i64 q.lane), Sp.eq (.agg #[.int .i64 q.k, .int .i64 q.mode, .int .i64 q.lane, .int .i64 q.n, .int .i64 q.round, .slice xa q.ws.length xc]), Sp.eq (.slice xa (cutW q.ws).length xc), Sp.eq (.pointer (some ⟨pb, 3, none⟩)), Sp.eq (.int .i64 q.n), Sp.eq (.pointer (some ⟨pb, 4, none⟩)), Sp.eq (.int .i64 q.round), ⟨fun v gs u => OOut w8.heap.size M gb R gs u v, fun v gs w gs' w' h hs => h.st hs⟩, ⟨fun v gs u => TOut w8.heap.size R gs u v, fun v gs w gs' w' h hs => h.st hs⟩, ⟨fun v gs u => MOut w8.heap.size R.2.1 gs u v, fun v gs w gs' w' h hs => h.st hs⟩, Sp.eq (.int .i64 R.2.2), ⟨fun v gs u => BOut w8.heap.size 37 zeroM gs u v, fun v gs w gs' w' h hs => h.st hs⟩] (fun _ _ _ _ _ h => h) (by kernel_rfl) (by kernel_rfl) (hG8.out) (fun u u' h hb => h.below hb) (fun j hj => match j with | 0 => fun _ _ _ _ h _ => h | 1 => fun _ _ _ _ h _ => h | 2 => fun _ _ _ _ h _ => h | 3 => fun _ _ _ _ h _ => h | 4 => fun _ _ _ _ h _ => h | 5 => fun _ _ _ _ h _ => h | 6 => fun _ _ _ _ h _ => h | 7 => fun _ _ _ _ h _ => h | 8 => fun _ _ _ _ h _ => h | 9 => fun _ _ _ _ h _ => h | 10 => fun _ _ _ _ h _ => h | 11 => absurd rfl hj | 12 => fun _ _ _ _ h hc => h.chg hc hM8.out | 13 => fun _ _ _ _ h hc => h.chg hc hM8.out | 14 => fun _ _ _ _ h _ => h | 15 => fun _ _ _ _ h hc => h.chg hc hM8.out | _ + 16 => fun _ _ _ _ h _ => h) ⟨?_, ?_, ?_, ?_, ?_, ?_, ?_, ?_, ?_, ?_, ?_, ?_, ?_, ?_, ?_, ?_, trivial⟩ ?_
              · intro ac gs u hb hg hi h
                have e7 : ac.tmps[7]?.getD undef = .pointer (some ⟨gb, 0, none⟩) := h.inm 7 rfl rfl
                refine opFree rfl ?_
                exact relMoveT _ rfl e7 (okPc rfl hg rfl)
              · intro ac gs u hb hg hi h
                have e10 : ac.tmps[10]?.getD undef = .pointer (some ⟨pb, 0, none⟩) := h.inm 10 rfl rfl
                refine opFree rfl ?_
                exact relRun (v := .pointer (some ⟨pb, 1, none⟩)) (w' := u) (by simp [go_sem, e10]) (okPc rfl hg rfl)
              · intro ac gs u hb hg hi h
                have e73 : ac.tmps[73]?.getD undef = .pointer (some ⟨pb, 1, none⟩) := h.tm 1 73 rfl rfl
                refine opFree rfl ?_
                exact relRun (v := .int .i64 q.mode) (w' := u) (by simp [go_sem, e73, ((hP8.out.chg hb hnP.out).cell 1)]) (okPc rfl hg rfl)
              · intro ac gs u hb hg hi h
                have e10 : ac.tmps[10]?.getD undef = .pointer (some ⟨pb, 0, none⟩) := h.inm 10 rfl rfl
                refine opFree rfl ?_
                exact relRun (v := .pointer (some ⟨pb, 2, none⟩)) (w' := u) (by simp [go_sem, e10]) (okPc rfl hg rfl)
              · intro ac gs u hb hg hi h
                have e75 : ac.tmps[75]?.getD undef = .pointer (some ⟨pb, 2, none⟩) := h.tm 3 75 rfl rfl
                refine opFree rfl ?_
                exact relRun (v := .int .i64 q.lane) (w' := u) (by simp [go_sem, e75, ((hP8.out.chg hb hnP.out).cell 2)]) (okPc rfl hg rfl)
              · intro ac gs u hb hg hi h
                have e10 : ac.tmps[10]?.getD undef = .pointer (some ⟨pb, 0, none⟩) := h.inm 10 rfl rfl
                refine opFree rfl ?_
                exact relRun (v := .agg #[.int .i64 q.k, .int .i64 q.mode, .int .i64 q.lane, .int .i64 q.n, .int .i64 q.round, .slice xa q.ws.length xc]) (w' := u) (by simp [go_sem, e10, ((hP8.out.chg hb hnP.out).cell 0), ((hP8.out.chg hb hnP.out).cell 1), ((hP8.out.chg hb hnP.out).cell 2), ((hP8.out.chg hb hnP.out).cell 3), ((hP8.out.chg hb hnP.out).cell 4), ((hP8.out.chg hb hnP.out).cell 5)]) (okPc rfl hg rfl)
              · intro ac gs u hb hg hi h
                have e77 : ac.tmps[77]?.getD undef = .agg #[.int .i64 q.k, .int .i64 q.mode, .int .i64 q.lane, .int .i64 q.n, .int .i64 q.round, .slice xa q.ws.length xc] := h.tm 5 77 rfl rfl
                refine opFree rfl ?_
                refine relCall (f := _) (args := #[.agg #[.int .i64 q.k, .int .i64 q.mode, .int .i64 q.lane, .int .i64 q.n, .int .i64 q.round, .slice xa q.ws.length xc]]) (by simp [go_sem, e77]; rfl) ?_
                refine (words_c q (xw8.out.chg hb (fun b h _ => h.1))).mono ?_
                rintro e w' ⟨rfl, hb'⟩
                exact ⟨_, rfl, okBc rfl hg hb' rfl⟩
              · intro ac gs u hb hg hi h
                have e10 : ac.tmps[10]?.getD undef = .pointer (some ⟨pb, 0, none⟩) := h.inm 10 rfl rfl
                refine opFree rfl ?_
                exact relRun (v := .pointer (some ⟨pb, 3, none⟩)) (w' := u) (by simp [go_sem, e10]) (okPc rfl hg rfl)
              · intro ac gs u hb hg hi h
                have e79 : ac.tmps[79]?.getD undef = .pointer (some ⟨pb, 3, none⟩) := h.tm 7 79 rfl rfl
                refine opFree rfl ?_
                exact relRun (v := .int .i64 q.n) (w' := u) (by simp [go_sem, e79, ((hP8.out.chg hb hnP.out).cell 3)]) (okPc rfl hg rfl)
              · intro ac gs u hb hg hi h
                have e10 : ac.tmps[10]?.getD undef = .pointer (some ⟨pb, 0, none⟩) := h.inm 10 rfl rfl
                refine opFree rfl ?_
                exact relRun (v := .pointer (some ⟨pb, 4, none⟩)) (w' := u) (by simp [go_sem, e10]) (okPc rfl hg rfl)
              · intro ac gs u hb hg hi h
                have e81 : ac.tmps[81]?.getD undef = .pointer (some ⟨pb, 4, none⟩) := h.tm 9 81 rfl rfl
                refine opFree rfl ?_
                exact relRun (v := .int .i64 q.round) (w' := u) (by simp [go_sem, e81, ((hP8.out.chg hb hnP.out).cell 4)]) (okPc rfl hg rfl)
              · intro ac gs u hb hg hi h
                have e72 : ac.tmps[72]?.getD undef = .pointer (some ⟨gb, 0, none⟩) := h.tm 0 72 rfl rfl
                have e74 : ac.tmps[74]?.getD undef = .int .i64 q.mode := h.tm 2 74 rfl rfl
                have e76 : ac.tmps[76]?.getD undef = .int .i64 q.lane := h.tm 4 76 rfl rfl
                have e78 : ac.tmps[78]?.getD undef = .slice xa (cutW q.ws).length xc := h.tm 6 78 rfl rfl
                have e80 : ac.tmps[80]?.getD undef = .int .i64 q.n := h.tm 8 80 rfl rfl
                have e82 : ac.tmps[82]?.getD undef = .int .i64 q.round := h.tm 10 82 rfl rfl
                refine opFree rfl ?_
                have hof := offer_c (hi rfl) (v := .slice xa (cutW q.ws).length xc) (ws := cutW q.ws) (((xw8.out.chg hb (fun b h _ => h.1)).cut 8).mono (fun b h hlt => ⟨h.1, hlt⟩)) (by unfold cutW; simp; omega) hsq.out.2 q.mode q.lane q.n q.round
                rw [hR0.out] at hof
                refine relCall (f := _) (args := #[.pointer (some ⟨gb, 0, none⟩), .int .i64 q.mode, .int .i64 q.lane, .slice xa (cutW q.ws).length xc, .int .i64 q.n, .int .i64 q.round]) (by simp [go_sem, e72, e74, e76, e78, e80, e82]; rfl) ?_
                refine (hof).mono ?_
                rintro e w' hp
                obtain ⟨v, rfl, ho, hc⟩ := OOut.of hb hg hp
                exact ⟨_, rfl, okC hg hc ho⟩
              · intro ac gs u hb hg hi h
                have e83 := h.tm 11 83 rfl rfl
                refine opFree rfl ?_
                exact relMoveT _ rfl rfl (okPc rfl hg e83.1)
              · intro ac gs u hb hg hi h
                have e71 := h.tm 12 71 rfl rfl
                refine opFree rfl ?_
                obtain ⟨x, hx, hl⟩ := TOut.msg e71
                exact relRun (v := x) (w' := u) (by simp [go_sem, hx]) (okPc rfl hg hl)
              · intro ac gs u hb hg hi h
                have e71 := h.tm 12 71 rfl rfl
                refine opFree rfl ?_
                obtain ⟨x, hx, hl⟩ := TOut.msg e71
                exact relRun (v := .int .i64 R.2.2) (w' := u) (by simp [go_sem, hx]) (okPc rfl hg rfl)
              · intro ac gs u hb hg hi h
                refine opFree rfl ?_
                exact relRun (v := .pointer (some ⟨u.heap.size, 0, none⟩)) (w' := u.alloc (.cells zeroM.toArray 37)) (by simp [go_sem, zeroM]) (okAc rfl _ hg ⟨_, rfl, List.mem_cons_self, hb.size, pts.newA u _ _⟩)
              intro vs gs u hb hg hr
              have r0 : vs 0 = .pointer (some ⟨gb, 0, none⟩) := hr 0 (by decide)
              have r1 : vs 1 = .pointer (some ⟨pb, 1, none⟩) := hr 1 (by decide)
              have r2 : vs 2 = .int .i64 q.mode := hr 2 (by decide)
              have r3 : vs 3 = .pointer (some ⟨pb, 2, none⟩) := hr 3 (by decide)
              have r4 : vs 4 = .int .i64 q.lane := hr 4 (by decide)
              have r5 : vs 5 = .agg #[.int .i64 q.k, .int .i64 q.mode, .int .i64 q.lane, .int .i64 q.n, .int .i64 q.round, .slice xa q.ws.length xc] := hr 5 (by decide)
              have r6 : vs 6 = .slice xa (cutW q.ws).length xc := hr 6 (by decide)
              have r7 : vs 7 = .pointer (some ⟨pb, 3, none⟩) := hr 7 (by decide)
              have r8 : vs 8 = .int .i64 q.n := hr 8 (by decide)
              have r9 : vs 9 = .pointer (some ⟨pb, 4, none⟩) := hr 9 (by decide)
              have r10 : vs 10 = .int .i64 q.round := hr 10 (by decide)
              have r11 := hr 11 (by decide)
              have r12 := hr 12 (by decide)
              have r13 := hr 13 (by decide)
              have r14 : vs 14 = .int .i64 R.2.2 := hr 14 (by decide)
              have r15 := hr 15 (by decide)
              obtain ⟨kb2, e15, hkb2, hkn0, hkp⟩ := r15
              obtain ⟨-, M8, hG9, hM9⟩ := r11
              obtain ⟨a1, c1, e84, hi9⟩ := r13
              clear r12
              simp only [List.take_succ_cons, List.take_zero, List.drop_succ_cons, List.drop_zero, putOps, r0, r1, r2, r3, r4, r5, r6, r7, r8, r9, r10, r14, e15, e84]
              simp only [Act.put, List.setIfInBounds_toArray, List.set_cons_succ, List.set_cons_zero]
              clear hr r0 r1 r2 r3 r4 r5 r6 r7 r8 r9 r10 r14 e15 e84
              -- GER
              have hbA := hb.trans (setN_own kb2 (encV a1 c1 R.2.1) 0 u) (fun i h => .inr (by rw [h]; exact hkn0))
              have hM8u : ∀ b, M8 b → M b ∨ w8.heap.size ≤ b := fun b h => (hM9 b h).imp id (fun h => h.1)
              have hk8 : ¬ M8 kb2 := fun h => by rcases hM9 kb2 h with h | h; exact (by have := hM8.out kb2 h; omega); exact h.2 hkb2
              have hnk : mb ≠ kb2 := fun e => by have := hM78.out.lt; omega
              have hMA := hid (hM78.out.chg hbA hmbM.out)
              have hKA := hid (setN_pts0 hkp (encV a1 c1 R.2.1) rfl)
              have hiA := hid (hi8.out.chg hbA (fun b h _ => h.1.1))
              have hjA := hid (IntsAt.setN hi9 (b := kb2) (fun h => h.2 hkb2) (encV a1 c1 R.2.1) 0)
              have hGA := hid (GateM.setNb hG9 hk8 (encV a1 c1 R.2.1) 0)
              have hWA := hid (Wd.step hW8.out hbA hM8u hGA.out.lt)
              have hRA := hid (RAt.step hR8.out hbA hM8u)
              refine lStore (cs := encV a1 c1 R.2.1) rfl rfl rfl rfl hkp rfl (by kernel_rfl) rfl ?_
              refine lPure (v := .int .i64 R.2.2) rfl (by simp [go_sem, Act.put]) ?_
              generalize setN u kb2 0 (encV a1 c1 R.2.1) = wA at hMA hKA hiA hjA hGA hWA hRA ⊢
              clear hbA hM8u hb hg hR8 hG8 hW8 hP8 xw8 hM78 hi8 hi9 hG9 hkp
              have hole := hid (show R.1.seq ≤ (i : Int) + 1 ∧ R.1.ms.length ≤ i + 1 from by have := offer_le g q.mode q.lane q.n q.round (cutW q.ws); rw [hR0.out] at this; have := hbnd.out; omega)
              go_upto_region 21 with fail
              -- REG empennage/empennagelaw12.GatePlays|21|GatePlays.21
              refine region_tab 9 [Sp.eq (.agg (encV am cm R.2.1).toArray), Sp.eq (.agg (encV a1 c1 R.2.1).toArray), Sp.eq (.bool true), Sp.eq (.bool true), Sp.eq (.int .i64 R.2.2), Sp.eq (.int .i64 R.2.2), Sp.eq (.bool true), Sp.eq (.bool true), Sp.eq (.bool true)] (fun _ _ _ _ _ h => h) (by kernel_rfl) (by kernel_rfl) ⟨?_, ?_, ?_, ?_, ?_, ?_, ?_, ?_, ?_, trivial⟩ ?_
              · intro ac gs u hb hg h
                have e13 : ac.tmps[13]?.getD undef = .pointer (some ⟨mb, 0, none⟩) := h.inm 13 rfl rfl
                refine opFree rfl ?_
                exact relRun (v := .agg (encV am cm R.2.1).toArray) (w' := u) (xLoad (cs := encV am cm R.2.1) rfl e13 (hMA.out.below hb) Try.underlying37 rfl (by kernel_rfl)) (okP hg rfl)
              · intro ac gs u hb hg h
                have e15 : ac.tmps[15]?.getD undef = .pointer (some ⟨kb2, 0, none⟩) := h.inm 15 rfl rfl
                refine opFree rfl ?_
                exact relRun (v := .agg (encV a1 c1 R.2.1).toArray) (w' := u) (xLoad (cs := encV a1 c1 R.2.1) rfl e15 (hKA.out.below hb) Try.underlying37 rfl (by kernel_rfl)) (okP hg rfl)
              · intro ac gs u hb hg h
                have e86 : ac.tmps[86]?.getD undef = .agg (encV am cm R.2.1).toArray := h.tm 0 86 rfl rfl
                have e87 : ac.tmps[87]?.getD undef = .agg (encV a1 c1 R.2.1).toArray := h.tm 1 87 rfl rfl
                refine opFree rfl ?_
                refine relCall (f := _) (args := #[.agg (encV am cm R.2.1).toArray, .agg (encV a1 c1 R.2.1).toArray]) (by simp [go_sem, e86, e87]; rfl) ?_
                refine (R2.one_eq (hiA.out.below hb) (hjA.out.below hb) rfl).mono ?_
                rintro e w' ⟨rfl, hb'⟩
                exact ⟨_, rfl, okB hg hb' rfl⟩
              · intro ac gs u hb hg h
                have e88 : ac.tmps[88]?.getD undef = .bool true := h.tm 2 88 rfl rfl
                refine opFree rfl ?_
                exact relMoveT _ rfl e88 (okP hg rfl)
              · intro ac gs u hb hg h
                have e89 : ac.tmps[89]?.getD undef = .bool true := h.tm 3 89 rfl rfl
                have e16 : ac.tmps[16]?.getD undef = .int .i64 R.2.2 := h.inm 16 rfl rfl
                refine opWant 3 89 rfl rfl e89 ?_
                exact relMoveT _ rfl e16 (okP hg rfl)
              · intro ac gs u hb hg h
                have e89 : ac.tmps[89]?.getD undef = .bool true := h.tm 3 89 rfl rfl
                have e14 : ac.tmps[14]?.getD undef = .int .i64 R.2.2 := h.inm 14 rfl rfl
                refine opWant 3 89 rfl rfl e89 ?_
                exact relMoveT _ rfl e14 (okP hg rfl)
              · intro ac gs u hb hg h
                have e89 : ac.tmps[89]?.getD undef = .bool true := h.tm 3 89 rfl rfl
                have e90 : ac.tmps[90]?.getD undef = .int .i64 R.2.2 := h.tm 4 90 rfl rfl
                have e91 : ac.tmps[91]?.getD undef = .int .i64 R.2.2 := h.tm 5 91 rfl rfl
                refine opWant 3 89 rfl rfl e89 ?_
                exact relRun (v := .bool true) (w' := u) (by simp [go_sem, e89, e90, e91]) (okP hg rfl)
              · intro ac gs u hb hg h
                have e89 : ac.tmps[89]?.getD undef = .bool true := h.tm 3 89 rfl rfl
                have e92 : ac.tmps[92]?.getD undef = .bool true := h.tm 6 92 rfl rfl
                refine opFree rfl ?_
                exact relRun (v := .bool true) (w' := u) (by simp [go_sem, e89, e92]) (okP hg rfl)
              · intro ac gs u hb hg h
                have e93 : ac.tmps[93]?.getD undef = .bool true := h.tm 7 93 rfl rfl
                refine opFree rfl ?_
                exact relAssignT _ rfl e93 (okP hg rfl)
              intro vs gs u hb hg hr
              have r0 : vs 0 = .agg (encV am cm R.2.1).toArray := hr 0 (by decide)
              have r1 : vs 1 = .agg (encV a1 c1 R.2.1).toArray := hr 1 (by decide)
              have r2 : vs 2 = .bool true := hr 2 (by decide)
              have r3 : vs 3 = .bool true := hr 3 (by decide)
              have r4 : vs 4 = .int .i64 R.2.2 := hr 4 (by decide)
              have r5 : vs 5 = .int .i64 R.2.2 := hr 5 (by decide)
              have r6 : vs 6 = .bool true := hr 6 (by decide)
              have r7 : vs 7 = .bool true := hr 7 (by decide)
              have r8 : vs 8 = .bool true := hr 8 (by decide)
              simp only [List.take_succ_cons, List.take_zero, List.drop_succ_cons, List.drop_zero, putOps, r0, r1, r2, r3, r4, r5, r6, r7, r8]
              simp only [Act.put, List.setIfInBounds_toArray, List.set_cons_succ, List.set_cons_zero]
              clear hr r0 r1 r2 r3 r4 r5 r6 r7 r8
              refine wpList_nil ?_
              -- GER
              have hGB := hid (hGA.out.below hb)
              have hWB := hid (hWA.out.next hb)
              have hRB := hid (hRA.out.below hb)
              clear hMA hKA hiA hjA hGA hWA hRA hb hg
              go_wp2
              go_meet
              case rel => exact ⟨rfl, R.1, M8, rv', hole.out.1, hole.out.2, hGB.out, hWB.out, hRB.out⟩
          · rcases (show K = 5 ∨ K = 6 ∨ K = 7 by have := hkd.out; omega) with rfl | rfl | rfl
            · -- Take
              obtain ⟨qs0, hq0, hqm⟩ := hR6.out.q
              have hrt := rtake_any (ln := lnT g.k.lanes) (pl := plT g.k.depth) hqm hR6.out.pv
              unfold RTake at hrt
              rw [hq0] at hrt
              have htk := fun (u : World) (h : GateM u M gb g) => gtake_c h
              unfold GHand HandAny at htk
              obtain ⟨pt, hpt⟩ : ∃ pt, pt = qs0.tail := ⟨_, rfl⟩
              rw [← hpt] at hrt
              have hpt1 := hid (show pt.map Prod.snd = sortM (sortM g.ms).tail by rw [sortM_tail, ← hq0, hpt, List.map_tail])
              have hle := hid (show (sortM g.ms).tail.length ≤ i + 1 by rw [List.length_tail, sortM_len]; have := hbnd.out.2; omega)
              generalize hdM (sortM g.ms) = m0 at hrt htk
              generalize (!(sortM g.ms).isEmpty) = bo at hrt htk
              generalize (sortM g.ms).tail = mt at htk hpt1 hle
              obtain ⟨ra, rc, rfl⟩ := hqm.shape
              have x11 := hR6.out.r.cell 11
              have x12 := hR6.out.r.cell 12
              have x13 := hR6.out.r.cell 13
              have xl := hR6.out.r.lt
              simp only [encGt, List.getElem?_cons_zero, List.getElem?_cons_succ] at x11 x12 x13
              replace hrt := hid hrt
              replace htk := hid htk
              clear hpt hq0 hqm hP6 xw6
              go_upto_region 24 with (first | (go_at_call 30; (with_reducible refine (hrt.out).mono ?_); rintro e wA ⟨⟨rv1, a1, c1, rfl, hq1, hpv1, hi1⟩, hbA⟩; obtain ⟨xa, xc, rfl⟩ := hq1.shape; have hRA := hR6.out.below hbA; have hGA := hG6.out.below hbA; have hWA := hW6.out.next hbA; clear hbA))
              have hbB := ((Below.refl wA.heap.size wA).alloc (Nat.le_refl _) (.cells #[.int .i64 (lnT g.k.lanes), .int .i64 (plT g.k.depth), .slice xa pt.length xc] 56)).alloc (by simp) (.cells #[.slice a1 m0.words.length c1, .int .i64 m0.lane, .int .i64 m0.stamp, .int .i64 m0.late, .int .i64 m0.seq] 37)
              have hRB := hRA.below hbB
              have hGB := hGA.below hbB
              have hWB := hWA.next hbB
              have hqB := hq1.below hbB
              have hiB := hi1.below hbB
              have hB0 := (pts.newA wA #[.int .i64 (lnT g.k.lanes), .int .i64 (plT g.k.depth), .slice xa pt.length xc] 56).alloc (.cells #[.slice a1 m0.words.length c1, .int .i64 m0.lane, .int .i64 m0.stamp, .int .i64 m0.late, .int .i64 m0.seq] 37)
              have hB1 := pts.newA (wA.alloc (.cells #[.int .i64 (lnT g.k.lanes), .int .i64 (plT g.k.depth), .slice xa pt.length xc] 56)) #[.slice a1 m0.words.length c1, .int .i64 m0.lane, .int .i64 m0.stamp, .int .i64 m0.late, .int .i64 m0.seq] 37
              rw [show (wA.alloc (.cells #[.int .i64 (lnT g.k.lanes), .int .i64 (plT g.k.depth), .slice xa pt.length xc] 56)).heap.size = wA.heap.size + 1 from by simp] at hB1
              have hn1 := hid (show wA.heap.size + 1 ≠ rb ∧ ¬ M (wA.heap.size + 1) from ⟨by have := hRA.r.lt; omega, fun hm => by have := hWA.lt _ hm; omega⟩)
              clear hbB hq1 hi1 hRA hGA hWA x11 x12 x13 xl
              generalize (wA.alloc (.cells #[.int .i64 (lnT g.k.lanes), .int .i64 (plT g.k.depth), .slice xa pt.length xc] 56)).alloc (.cells #[.slice a1 m0.words.length c1, .int .i64 m0.lane, .int .i64 m0.stamp, .int .i64 m0.late, .int .i64 m0.seq] 37) = wB at hRB hGB hWB hqB hiB hB0 hB1 ⊢
              generalize wA.heap.size + 1 = b1 at hB1 hn1 ⊢
              generalize wA.heap.size = b0 at hB0 ⊢
              have y0 := hB0.cell 0
              have y1 := hB0.cell 1
              have y2 := hB0.cell 2
              have yl := hB0.lt
              have z11 := hRB.r.cell 11
              have z12 := hRB.r.cell 12
              have z13 := hRB.r.cell 13
              have zl := hRB.r.lt
              have zf := fun o => hRB.r.frozen o
              simp only [encGt, List.getElem?_cons_zero, List.getElem?_cons_succ] at y0 y1 y2 z11 z12 z13
              have hRC := hid (hRB.setL (ms' := mt) (rv' := .slice xa pt.length xc) ⟨pt, hpt1.out, hqB⟩ hpv1)
              have hGC := hid (GateM.setNb hGB hRB.nr [.int .i64 (lnT g.k.lanes), .int .i64 (plT g.k.depth), .slice xa pt.length xc] 11)
              have hWC := hid (Wd.setN hWB hrb0.out [.int .i64 (lnT g.k.lanes), .int .i64 (plT g.k.depth), .slice xa pt.length xc] 11)
              have hBC := hid (setN_other hn1.out.1 [.int .i64 (lnT g.k.lanes), .int .i64 (plT g.k.depth), .slice xa pt.length xc] 11 _ hB1)
              have hiC := hid (IntsAt.setN hiB (b := rb) (fun h => h.2 rfl) [.int .i64 (lnT g.k.lanes), .int .i64 (plT g.k.depth), .slice xa pt.length xc] 11)
              clear hqB hpv1 hRB hGB hWB hiB hB0 hB1
              go_upto_region 25 with fail
              change Code.wp _ _ _ _ (setN wB rb 11 [.int .i64 (lnT g.k.lanes), .int .i64 (plT g.k.depth), .slice xa pt.length xc])
              generalize setN wB rb 11 [.int .i64 (lnT g.k.lanes), .int .i64 (plT g.k.depth), .slice xa pt.length xc] = wC at hRC hGC hWC hBC hiC ⊢
              clear y0 y1 y2 yl z11 z12 z13 zl zf
              go_upto_region 26 with (first | (go_at_call 24; (with_reducible refine (htk.out _ hGC.out).mono ?_); rintro e wD ⟨⟨a3, cx3, rfl, hi3⟩, hGD, hCD⟩))
              have hbE := (Below.refl wD.heap.size wD).alloc (Nat.le_refl _) (.cells #[.slice a3 m0.words.length cx3, .int .i64 m0.lane, .int .i64 m0.stamp, .int .i64 m0.late, .int .i64 m0.seq] 37)
              have hRE := hid ((hRC.out.chg hCD).below hbE)
              have hGE := hid (hGD.below hbE)
              have hWE := hid ((hWC.out.chg hCD).next hbE)
              have hBE := (hBC.out.chg hCD hn1.out.2).below hbE
              have hiE := hid ((hiC.out.kept hCD.size (fun b hb hlt => hCD.block b hlt hb.1)).below hbE)
              have hi3E := hid (hi3.below hbE)
              have hB2 := pts.newA wD #[.slice a3 m0.words.length cx3, .int .i64 m0.lane, .int .i64 m0.stamp, .int .i64 m0.late, .int .i64 m0.seq] 37
              clear hbE hGD hCD hi3 hRC hGC hWC hBC hiC
              generalize grow M wC wD = M9 at hRE hGE hWE
              generalize wD.alloc (.cells #[.slice a3 m0.words.length cx3, .int .i64 m0.lane, .int .i64 m0.stamp, .int .i64 m0.late, .int .i64 m0.seq] 37) = wE at hRE hGE hWE hBE hiE hi3E hB2 ⊢
              generalize wD.heap.size = b2 at hB2 ⊢
              have y0 := hBE.cell 0
              have y1 := hBE.cell 1
              have y2 := hBE.cell 2
              have y3 := hBE.cell 3
              have y4 := hBE.cell 4
              have yl := hBE.lt
              have z0 := hB2.cell 0
              have z1 := hB2.cell 1
              have z2 := hB2.cell 2
              have z3 := hB2.cell 3
              have z4 := hB2.cell 4
              have zl := hB2.lt
              simp only [List.getElem?_cons_zero, List.getElem?_cons_succ] at y0 y1 y2 y3 y4 z0 z1 z2 z3 z4
              clear hBE hB2
              have hone := hid (R2.one_eq (m := m0) (m' := m0) hiE.out hi3E.out rfl)
              clear hiE hi3E
              go_upto_block 99 with (first | (go_at_call 19; (with_reducible refine (hone.out).mono ?_); rintro e wF ⟨rfl, hbF⟩; have hRF := hid (hRE.out.below hbF); have hGF := hid (hGE.out.below hbF); have hWF := hid (hWE.out.next hbF); clear hbF y0 y1 y2 y3 y4 yl z0 z1 z2 z3 z4 zl hRE hGE hWE))
              go_meet
              case rel => exact ⟨rfl, _, M9, _, by have := hbnd.out.1; exact (show g.seq ≤ (i : Int) + 1 by omega), hle.out, hGF.out, hWF.out, hRF.out⟩
            · -- Sweep
              obtain ⟨qs0, hq0, hqm⟩ := hR6.out.q
              have hsm0 : qs0.length < 1000000 := by have e1 := congrArg List.length hq0; rw [List.length_map, sortM_len] at e1; have := hms.out; omega
              have hrt := Rl.sweep_c (ln := lnT g.k.lanes) (pl := plT g.k.depth) hqm hsm0 q.n
              unfold SweepPost at hrt
              have hpr := filt_snd (fun m => !lateT q.n m.late) qs0
              have hpo := filt_snd (fun m => lateT q.n m.late) qs0
              rw [hq0] at hpr hpo
              change ((qs0.filter (fun p => !lateV q.n p)).map Prod.snd = _) at hpr
              change ((qs0.filter (lateV q.n)).map Prod.snd = _) at hpo
              generalize qs0.filter (fun p => !lateV q.n p) = pr at hrt hpr
              generalize qs0.filter (lateV q.n) = po at hrt hpo
              have hgs := hid (fun (u : World) (h : GateM u M gb g) => gsweep_c h q.n)
              have hle := hid (show ((sortM g.ms).filter (fun m => !lateT q.n m.late)).length ≤ i + 1 by have h1 := List.length_filter_le (fun m : Msg => !lateT q.n m.late) (sortM g.ms); rw [sortM_len] at h1; have := hbnd.out.2; omega)
              have hpr1 := hid (show pr.map Prod.snd = sortM ((sortM g.ms).filter (fun m => !lateT q.n m.late)) by rw [sortM_filter]; exact hpr)
              replace hpo := hid hpo
              obtain ⟨ra, rc, rfl⟩ := hqm.shape
              have x11 := hR6.out.r.cell 11
              have x12 := hR6.out.r.cell 12
              have x13 := hR6.out.r.cell 13
              have xl := hR6.out.r.lt
              have tn := hP6.out.cell 3
              have tl := hP6.out.lt
              simp only [encGt, List.getElem?_cons_zero, List.getElem?_cons_succ] at x11 x12 x13 tn
              replace hrt := hid hrt
              clear hq0 hqm xw6 hpr hsm0
              go_upto_region 29 with (first | (go_at_call 31; (with_reducible refine (hrt.out).mono ?_); rintro e wA ⟨v1, v2, rfl, hq1, hpv1, hq2, hbA⟩; obtain ⟨xa, xc, rfl⟩ := hq1.shape; obtain ⟨ya, yc, rfl⟩ := hq2.shape; have hRA := hR6.out.below hbA; have hGA := hG6.out.below hbA; have hWA := hW6.out.next hbA; have hPA := hP6.out.below hbA; have hszA := hbA.size; clear hbA))
              have hbB := (Below.refl wA.heap.size wA).alloc (Nat.le_refl _) (.cells #[.int .i64 (lnT g.k.lanes), .int .i64 (plT g.k.depth), .slice xa pr.length xc] 56)
              have hap : ∀ b, w6.heap.size ≤ b → ¬ M b ∧ b ≠ rb := fun b h => ⟨fun hm => by have := hG6.out.lt b hm; omega, fun e => by have := hR6.out.r.lt; omega⟩
              have hRB := hRA.below hbB
              have hGB := hGA.below hbB
              have hWB := hWA.next hbB
              have hPB := hPA.below hbB
              have hqB := (hq1.mono (ok' := fun b => ¬ M b ∧ b ≠ rb) (okw' := fun b => ¬ M b ∧ b ≠ rb) (fun b h _ => hap b h) (fun b h _ => h)).below hbB
              have hq2B := (hq2.mono (ok' := fun b => ¬ M b ∧ b ≠ rb) (okw' := fun b => ¬ M b ∧ b ≠ rb) (fun b h _ => hap b h) (fun b h _ => h)).below hbB
              have hB0 := pts.newA wA #[.int .i64 (lnT g.k.lanes), .int .i64 (plT g.k.depth), .slice xa pr.length xc] 56
              clear hbB hq1 hq2 hRA hGA hWA hPA x11 x12 x13 xl tn tl hap
              generalize wA.alloc (.cells #[.int .i64 (lnT g.k.lanes), .int .i64 (plT g.k.depth), .slice xa pr.length xc] 56) = wB at hRB hGB hWB hPB hqB hq2B hB0 ⊢
              generalize wA.heap.size = b0 at hB0 hszA ⊢
              have y0 := hB0.cell 0
              have y1 := hB0.cell 1
              have y2 := hB0.cell 2
              have yl := hB0.lt
              have z11 := hRB.r.cell 11
              have z12 := hRB.r.cell 12
              have z13 := hRB.r.cell 13
              have zl := hRB.r.lt
              have zf := fun o => hRB.r.frozen o
              simp only [encGt, List.getElem?_cons_zero, List.getElem?_cons_succ] at y0 y1 y2 z11 z12 z13
              have hRC := hid (hRB.setL (ms' := (sortM g.ms).filter (fun m => !lateT q.n m.late)) (rv' := .slice xa pr.length xc) ⟨pr, hpr1.out, hqB⟩ hpv1)
              have hGC := hid (GateM.setNb hGB hRB.nr [.int .i64 (lnT g.k.lanes), .int .i64 (plT g.k.depth), .slice xa pr.length xc] 11)
              have hWC := hid (Wd.setN hWB hrb0.out [.int .i64 (lnT g.k.lanes), .int .i64 (plT g.k.depth), .slice xa pr.length xc] 11)
              have hPC := hid (setN_other (b := rb) (fun e => hpr0.out e) [.int .i64 (lnT g.k.lanes), .int .i64 (plT g.k.depth), .slice xa pr.length xc] 11 _ hPB)
              have hqC := hid (MsgsAt.setN hq2B (b := rb) (fun h => h.2 rfl) (fun h => h.2 rfl) [.int .i64 (lnT g.k.lanes), .int .i64 (plT g.k.depth), .slice xa pr.length xc] 11)
              clear hqB hq2B hpv1 hRB hGB hWB hPB hB0
              go_upto_region 30 with fail
              change Code.wp _ _ _ _ (setN wB rb 11 [.int .i64 (lnT g.k.lanes), .int .i64 (plT g.k.depth), .slice xa pr.length xc])
              generalize setN wB rb 11 [.int .i64 (lnT g.k.lanes), .int .i64 (plT g.k.depth), .slice xa pr.length xc] = wC at hRC hGC hWC hPC hqC ⊢
              clear y0 y1 y2 yl z11 z12 z13 zl zf
              have tn := hPC.out.cell 3
              have tl := hPC.out.lt
              simp only [List.getElem?_cons_zero, List.getElem?_cons_succ] at tn
              clear hPC
              go_upto_block 99 with (first | (go_at_call 17; (with_reducible refine (hgs.out _ hGC.out).mono ?_); rintro e wD ⟨v7, rfl, ⟨p7, hp7, hv7⟩, hGD, hCD⟩; obtain ⟨za, zc, rfl⟩ := hv7.shape; have hRD := hid (hRC.out.chg hCD); have hWD := hid (hWC.out.chg hCD); have hqD := hqC.out.kept hCD.size (fun b hb hlt => hCD.block b hlt (hb.elim (fun h => h.1) (fun h => h.1))); have hsame := hid (R2.same_eq hv7 hqD (hp7.trans hpo.out.symm)); replace hGD := hid hGD; clear hCD hv7 hp7 hqD) | (go_at_call 27; (with_reducible refine (hsame.out).mono ?_); rintro e wE ⟨rfl, hbE⟩; have hRE := hid (hRD.out.below hbE); have hGE := hid (hGD.out.below hbE); have hWE := hid (hWD.out.next hbE); clear hbE))
              go_meet
              case rel => exact ⟨rfl, _, _, _, by have := hbnd.out.1; exact (show g.seq ≤ (i : Int) + 1 by omega), hle.out, hGE.out, hWE.out, hRE.out⟩
            · -- Flush
              have tn := hP6.out.cell 3
              have tl := hP6.out.lt
              simp only [List.getElem?_cons_zero, List.getElem?_cons_succ] at tn
              obtain ⟨ra, rc, hsh⟩ := hR6.out.q.shape
              subst hsh
              generalize (sortM g.ms).length = rn at hR6
              by_cases d4 : q.n.tmod 4 = 0
              · have d4' : (q.n.tmod 4 == 0) = true := by simp [d4]
                have d4'' : decide (q.n.tmod 4 = 0) = true := decide_eq_true d4
                go_upto_region 33 with fail
                -- REG empennage/empennagelaw12.GatePlays|33|GatePlays.33
                refine region_chg 7 (M) 1 (fun u => GateM u M gb g) [Sp.eq (.pointer (some ⟨gb, 0, none⟩)), Sp.of (fun v u => MsgsR (fun _ => True) u v (sortM g.ms) ∧ ∃ M2 : Nat → Prop, GateM u M2 gb { g with ms := [] } ∧ ∀ b, M2 b → M b ∨ w6.heap.size ≤ b) (fun v w w' h hb => (show _ ∧ _ from ⟨h.1.below hb, h.2.imp (fun _ h2 => ⟨h2.1.below hb, h2.2⟩)⟩)), Sp.eq (.pointer (some ⟨rb, 11, none⟩)), Sp.eq (.pointer (some ⟨rb, 13, none⟩)), Sp.eq (.slice ra rn rc), Sp.eq (.bool true), Sp.eq (.bool true)] (fun _ _ _ _ _ h => h) (by kernel_rfl) (by kernel_rfl) (hG6.out) (fun u u' h hb => h.below hb) (fun j hj => match j with | 0 => fun _ _ _ _ h _ => h | 1 => absurd rfl hj | 2 => fun _ _ _ _ h _ => h | 3 => fun _ _ _ _ h _ => h | 4 => fun _ _ _ _ h _ => h | 5 => fun _ _ _ _ h _ => h | 6 => fun _ _ _ _ h _ => h | _ + 7 => fun _ _ _ _ h _ => h) ⟨?_, ?_, ?_, ?_, ?_, ?_, ?_, trivial⟩ ?_
                · intro ac gs u hb hg hi h
                  have e7 : ac.tmps[7]?.getD undef = .pointer (some ⟨gb, 0, none⟩) := h.inm 7 rfl rfl
                  refine opFree rfl ?_
                  exact relMoveT _ rfl e7 (okPc rfl hg rfl)
                · intro ac gs u hb hg hi h
                  have e142 : ac.tmps[142]?.getD undef = .pointer (some ⟨gb, 0, none⟩) := h.tm 0 142 rfl rfl
                  refine opFree rfl ?_
                  refine relCall (f := _) (args := #[.pointer (some ⟨gb, 0, none⟩)]) (by simp [go_sem, e142]; rfl) ?_
                  refine (gflush_c (hi rfl)).mono ?_
                  rintro e w' ⟨v, rfl, hv, hL, hC⟩
                  exact ⟨_, rfl, okC hg hC ⟨hv.mono (fun _ _ _ => trivial), _, hL, fun b h => h.imp id (fun h => Nat.le_trans hb.size h.1)⟩⟩
                · intro ac gs u hb hg hi h
                  have e8 : ac.tmps[8]?.getD undef = .pointer (some ⟨rb, 0, none⟩) := h.inm 8 rfl rfl
                  refine opFree rfl ?_
                  exact relRun (v := .pointer (some ⟨rb, 11, none⟩)) (w' := u) (by simp [go_sem, e8]) (okPc rfl hg rfl)
                · intro ac gs u hb hg hi h
                  have e144 : ac.tmps[144]?.getD undef = .pointer (some ⟨rb, 11, none⟩) := h.tm 2 144 rfl rfl
                  refine opFree rfl ?_
                  exact relRun (v := .pointer (some ⟨rb, 13, none⟩)) (w' := u) (by simp [go_sem, e144]) (okPc rfl hg rfl)
                · intro ac gs u hb hg hi h
                  have e145 : ac.tmps[145]?.getD undef = .pointer (some ⟨rb, 13, none⟩) := h.tm 3 145 rfl rfl
                  refine opFree rfl ?_
                  exact relRun (v := .slice ra rn rc) (w' := u) (by simp [go_sem, e145, ((hR6.out.r.chg hb hR6.out.nr).cell 13), encGt]) (okPc rfl hg rfl)
                · intro ac gs u hb hg hi h
                  have e143 := h.tm 1 143 rfl rfl
                  have e146 : ac.tmps[146]?.getD undef = .slice ra rn rc := h.tm 4 146 rfl rfl
                  refine opFree rfl ?_
                  obtain ⟨⟨q1, hq1, hqm1⟩, M2, hG2, -⟩ := e143
                  obtain ⟨q2, hq2, hqm2⟩ := (hR6.out.chg hb).q
                  refine relCall (f := _) (args := #[ac.tmps[143]?.getD undef, .slice ra rn rc]) (by simp [go_sem, e146]; rfl) ?_
                  refine (R2.same_eq hqm1 hqm2 (by rw [hq1, hq2])).mono ?_
                  rintro e w' ⟨rfl, hb'⟩
                  exact ⟨_, rfl, okBc rfl hg hb' rfl⟩
                · intro ac gs u hb hg hi h
                  have e147 : ac.tmps[147]?.getD undef = .bool true := h.tm 5 147 rfl rfl
                  refine opFree rfl ?_
                  exact relAssignT _ rfl e147 (okPc rfl hg rfl)
                intro vs gs u hb hg hr
                have r0 : vs 0 = .pointer (some ⟨gb, 0, none⟩) := hr 0 (by decide)
                have r1 := hr 1 (by decide)
                have r2 : vs 2 = .pointer (some ⟨rb, 11, none⟩) := hr 2 (by decide)
                have r3 : vs 3 = .pointer (some ⟨rb, 13, none⟩) := hr 3 (by decide)
                have r4 : vs 4 = .slice ra rn rc := hr 4 (by decide)
                have r5 : vs 5 = .bool true := hr 5 (by decide)
                have r6 : vs 6 = .bool true := hr 6 (by decide)
                simp only [List.take_succ_cons, List.take_zero, List.drop_succ_cons, List.drop_zero, putOps, r0, r2, r3, r4, r5, r6]
                simp only [Act.put, List.setIfInBounds_toArray, List.set_cons_succ, List.set_cons_zero]
                clear hr r0 r2 r3 r4 r5 r6
                refine wpList_nil ?_
                -- GER
                obtain ⟨-, M2, hG2, hM2⟩ := r1
                have hRB := RAt.step hR6.out hb hM2
                have hWB := Wd.step hW6.out hb hM2 hG2.lt
                have x11 := hRB.r.cell 13
                have xl := hRB.r.lt
                have xf := fun o => hRB.r.frozen o
                simp only [encGt, List.getElem?_cons_zero, List.getElem?_cons_succ] at x11
                have hRC := hid hRB.set0
                have hGC := hid (GateM.setNb hG2 hRB.nr [.slice none 0 0] 13)
                have hWC := hid (Wd.setN hWB hrb0.out [.slice none 0 0] 13)
                clear hb hg hRB hWB hG2 tn tl
                go_wp2
                go_meet
                case rel => exact ⟨rfl, _, _, _, by have := hbnd.out.1; exact (show g.seq ≤ (i : Int) + 1 by omega), by simp, hGC.out, hWC.out, hRC.out⟩
              · have d4' : (q.n.tmod 4 == 0) = false := by simp [d4]
                have d4'' : decide (q.n.tmod 4 = 0) = false := decide_eq_false d4
                go_wp2
                go_meet
                case rel => exact ⟨rfl, g, M, _, by have := hbnd.out.1; omega, by have := hbnd.out.2; omega, hG6.out, hW6.out, hR6.out⟩
        case rest =>
          clear hG6 hW6 hR6 hP6 xw6
          obtain ⟨rfl, g', M', rv', hs', hms', hG, hW, hR⟩ := hcut
          obtain ⟨ra, rc, rfl⟩ := hR.q.shape
          rw [sortM_len] at hR
          replace hG := hid hG
          replace hW := hid hW
          replace hR := hid hR
          have hcs := hid (show comeB g'.b g'.b.round = g'.b from comeB_self (by obtain ⟨_, _, _, hA, _, _⟩ := hG.out; exact hA.ok))
          go_upto_region 35 with fail
          -- REG empennage/empennagelaw12.GatePlays|35|GatePlays.35
          refine region_chgJ 38 (M') 32 (fun u => GateM u M' gb g') (fun u => ∃ M2 : Nat → Prop, GateM u M2 gb g' ∧ ∀ b, M2 b → M' b ∨ wc.heap.size ≤ b) [Sp.eq (.bool true), Sp.eq (.bool false), Sp.eq (.bool false), Sp.eq (.pointer (some ⟨gb, 0, none⟩)), Sp.eq (.int .i64 g'.ms.length), Sp.eq (.pointer (some ⟨rb, 11, none⟩)), Sp.eq (.pointer (some ⟨rb, 13, none⟩)), Sp.eq (.slice ra g'.ms.length rc), Sp.eq (.int .i64 g'.ms.length), Sp.eq (.bool false), Sp.eq (.bool false), Sp.eq (.bool false), Sp.eq (.pointer (some ⟨gb, 0, none⟩)), Sp.of (fun v u => MsgsR (fun b => ¬ M' b) u v (sortM g'.ms)) (fun v w w' h hb => MsgsR.below h hb), Sp.eq (.pointer (some ⟨rb, 11, none⟩)), Sp.eq (.pointer (some ⟨rb, 13, none⟩)), Sp.eq (.slice ra g'.ms.length rc), Sp.eq (.bool true), Sp.eq (.bool false), Sp.eq (.bool false), Sp.eq (.bool false), Sp.eq (.pointer (some ⟨gb, 0, none⟩)), Sp.eq (.int .i64 g'.seq), Sp.eq (.pointer (some ⟨rb, 18, none⟩)), Sp.eq (.int .i64 g'.seq), Sp.eq (.bool false), Sp.eq (.bool false), Sp.eq (.bool false), Sp.eq (.pointer (some ⟨gb, 0, none⟩)), Sp.eq (.pointer (some ⟨rb, 14, none⟩)), Sp.eq (.pointer (some ⟨rb, 17, none⟩)), Sp.eq (.int .i64 g'.b.round), Sp.eq (.int .i64 g'.b.tokens), Sp.eq (.pointer (some ⟨rb, 14, none⟩)), Sp.eq (.pointer (some ⟨rb, 16, none⟩)), Sp.eq (.int .i64 g'.b.tokens), Sp.eq (.bool false), Sp.eq (.bool false)] (fun _ _ _ _ _ h => h) (by kernel_rfl) (by kernel_rfl) (hG.out) (fun u u' h hb => h.below hb) (⟨_, hG.out, fun b h => .inl h⟩) (fun u u' h hb => let ⟨M2, h2, h3⟩ := h; ⟨M2, h2.below hb, h3⟩) (fun j hj => match j with | 0 => fun _ _ _ _ h _ => h | 1 => fun _ _ _ _ h _ => h | 2 => fun _ _ _ _ h _ => h | 3 => fun _ _ _ _ h _ => h | 4 => fun _ _ _ _ h _ => h | 5 => fun _ _ _ _ h _ => h | 6 => fun _ _ _ _ h _ => h | 7 => fun _ _ _ _ h _ => h | 8 => fun _ _ _ _ h _ => h | 9 => fun _ _ _ _ h _ => h | 10 => fun _ _ _ _ h _ => h | 11 => fun _ _ _ _ h _ => h | 12 => fun _ _ _ _ h _ => h | 13 => fun _ _ _ _ h hc => h.kept hc.size (fun b hb hlt => hc.block b hlt hb) | 14 => fun _ _ _ _ h _ => h | 15 => fun _ _ _ _ h _ => h | 16 => fun _ _ _ _ h _ => h | 17 => fun _ _ _ _ h _ => h | 18 => fun _ _ _ _ h _ => h | 19 => fun _ _ _ _ h _ => h | 20 => fun _ _ _ _ h _ => h | 21 => fun _ _ _ _ h _ => h | 22 => fun _ _ _ _ h _ => h | 23 => fun _ _ _ _ h _ => h | 24 => fun _ _ _ _ h _ => h | 25 => fun _ _ _ _ h _ => h | 26 => fun _ _ _ _ h _ => h | 27 => fun _ _ _ _ h _ => h | 28 => fun _ _ _ _ h _ => h | 29 => fun _ _ _ _ h _ => h | 30 => fun _ _ _ _ h _ => h | 31 => fun _ _ _ _ h _ => h | 32 => absurd rfl hj | 33 => fun _ _ _ _ h _ => h | 34 => fun _ _ _ _ h _ => h | 35 => fun _ _ _ _ h _ => h | 36 => fun _ _ _ _ h _ => h | 37 => fun _ _ _ _ h _ => h | _ + 38 => fun _ _ _ _ h _ => h) ⟨?_, ?_, ?_, ?_, ?_, ?_, ?_, ?_, ?_, ?_, ?_, ?_, ?_, ?_, ?_, ?_, ?_, ?_, ?_, ?_, ?_, ?_, ?_, ?_, ?_, ?_, ?_, ?_, ?_, ?_, ?_, ?_, ?_, ?_, ?_, ?_, ?_, ?_, trivial⟩ ?_
          · intro ac gs u hb hg hi h
            have e11 : ac.tmps[11]?.getD undef = .bool true := h.inm 11 rfl rfl
            refine opFree rfl ?_
            exact relMoveT _ rfl e11 (okPj rfl hg rfl)
          · intro ac gs u hb hg hi h
            have e150 : ac.tmps[150]?.getD undef = .bool true := h.tm 0 150 rfl rfl
            refine opFree rfl ?_
            exact relRun (v := .bool false) (w' := u) (by simp [go_sem, e150]) (okPj rfl hg rfl)
          · intro ac gs u hb hg hi h
            have e151 : ac.tmps[151]?.getD undef = .bool false := h.tm 1 151 rfl rfl
            refine opFree rfl ?_
            exact relMoveT _ rfl e151 (okPj rfl hg rfl)
          · intro ac gs u hb hg hi h
            have e152 : ac.tmps[152]?.getD undef = .bool false := h.tm 2 152 rfl rfl
            have e7 : ac.tmps[7]?.getD undef = .pointer (some ⟨gb, 0, none⟩) := h.inm 7 rfl rfl
            refine opWant 2 152 rfl rfl e152 ?_
            exact relMoveT _ rfl e7 (okPj rfl hg rfl)
          · intro ac gs u hb hg hi h
            have e152 : ac.tmps[152]?.getD undef = .bool false := h.tm 2 152 rfl rfl
            have e153 : ac.tmps[153]?.getD undef = .pointer (some ⟨gb, 0, none⟩) := h.tm 3 153 rfl rfl
            refine opWant 2 152 rfl rfl e152 ?_
            obtain ⟨M2, hJ, -⟩ := hi.2
            refine relCall (f := _) (args := #[.pointer (some ⟨gb, 0, none⟩)]) (by simp [go_sem, e152, e153]; rfl) ?_
            refine (glen_c hJ).mono ?_
            rintro e w' ⟨rfl, rfl⟩
            exact ⟨_, rfl, okPj rfl hg rfl⟩
          · intro ac gs u hb hg hi h
            have e152 : ac.tmps[152]?.getD undef = .bool false := h.tm 2 152 rfl rfl
            have e8 : ac.tmps[8]?.getD undef = .pointer (some ⟨rb, 0, none⟩) := h.inm 8 rfl rfl
            refine opWant 2 152 rfl rfl e152 ?_
            exact relRun (v := .pointer (some ⟨rb, 11, none⟩)) (w' := u) (by simp [go_sem, e152, e8]) (okPj rfl hg rfl)
          · intro ac gs u hb hg hi h
            have e152 : ac.tmps[152]?.getD undef = .bool false := h.tm 2 152 rfl rfl
            have e155 : ac.tmps[155]?.getD undef = .pointer (some ⟨rb, 11, none⟩) := h.tm 5 155 rfl rfl
            refine opWant 2 152 rfl rfl e152 ?_
            exact relRun (v := .pointer (some ⟨rb, 13, none⟩)) (w' := u) (by simp [go_sem, e152, e155]) (okPj rfl hg rfl)
          · intro ac gs u hb hg hi h
            have e152 : ac.tmps[152]?.getD undef = .bool false := h.tm 2 152 rfl rfl
            have e156 : ac.tmps[156]?.getD undef = .pointer (some ⟨rb, 13, none⟩) := h.tm 6 156 rfl rfl
            refine opWant 2 152 rfl rfl e152 ?_
            exact relRun (v := .slice ra g'.ms.length rc) (w' := u) (by simp [go_sem, e152, e156, ((hR.out.r.chg hb hR.out.nr).cell 13), encGt]) (okPj rfl hg rfl)
          · intro ac gs u hb hg hi h
            have e152 : ac.tmps[152]?.getD undef = .bool false := h.tm 2 152 rfl rfl
            have e157 : ac.tmps[157]?.getD undef = .slice ra g'.ms.length rc := h.tm 7 157 rfl rfl
            refine opWant 2 152 rfl rfl e152 ?_
            exact relRun (v := .int .i64 g'.ms.length) (w' := u) (by simp [go_sem, e152, e157]) (okPj rfl hg rfl)
          · intro ac gs u hb hg hi h
            have e152 : ac.tmps[152]?.getD undef = .bool false := h.tm 2 152 rfl rfl
            have e154 : ac.tmps[154]?.getD undef = .int .i64 g'.ms.length := h.tm 4 154 rfl rfl
            have e158 : ac.tmps[158]?.getD undef = .int .i64 g'.ms.length := h.tm 8 158 rfl rfl
            refine opWant 2 152 rfl rfl e152 ?_
            exact relRun (v := .bool false) (w' := u) (by simp [go_sem, e152, e154, e158]) (okPj rfl hg rfl)
          · intro ac gs u hb hg hi h
            have e152 : ac.tmps[152]?.getD undef = .bool false := h.tm 2 152 rfl rfl
            have e159 : ac.tmps[159]?.getD undef = .bool false := h.tm 9 159 rfl rfl
            refine opFree rfl ?_
            exact relRun (v := .bool false) (w' := u) (by simp [go_sem, e152, e159]) (okPj rfl hg rfl)
          · intro ac gs u hb hg hi h
            have e160 : ac.tmps[160]?.getD undef = .bool false := h.tm 10 160 rfl rfl
            refine opFree rfl ?_
            exact relMoveT _ rfl e160 (okPj rfl hg rfl)
          · intro ac gs u hb hg hi h
            have e161 : ac.tmps[161]?.getD undef = .bool false := h.tm 11 161 rfl rfl
            have e7 : ac.tmps[7]?.getD undef = .pointer (some ⟨gb, 0, none⟩) := h.inm 7 rfl rfl
            refine opWant 11 161 rfl rfl e161 ?_
            exact relMoveT _ rfl e7 (okPj rfl hg rfl)
          · intro ac gs u hb hg hi h
            have e161 : ac.tmps[161]?.getD undef = .bool false := h.tm 11 161 rfl rfl
            have e162 : ac.tmps[162]?.getD undef = .pointer (some ⟨gb, 0, none⟩) := h.tm 12 162 rfl rfl
            refine opWant 11 161 rfl rfl e161 ?_
            obtain ⟨M2, hJ, -⟩ := hi.2
            refine relCall (f := _) (args := #[.pointer (some ⟨gb, 0, none⟩)]) (by simp [go_sem, e161, e162]; rfl) ?_
            refine (gall_c hJ).mono ?_
            rintro e w' ⟨v, rfl, hv, hb'⟩
            exact ⟨_, rfl, okBj rfl hg hb' (hv.mono (fun b h _ hm => by have := hG.out.lt b hm; have := hb.size; omega))⟩
          · intro ac gs u hb hg hi h
            have e161 : ac.tmps[161]?.getD undef = .bool false := h.tm 11 161 rfl rfl
            have e8 : ac.tmps[8]?.getD undef = .pointer (some ⟨rb, 0, none⟩) := h.inm 8 rfl rfl
            refine opWant 11 161 rfl rfl e161 ?_
            exact relRun (v := .pointer (some ⟨rb, 11, none⟩)) (w' := u) (by simp [go_sem, e161, e8]) (okPj rfl hg rfl)
          · intro ac gs u hb hg hi h
            have e161 : ac.tmps[161]?.getD undef = .bool false := h.tm 11 161 rfl rfl
            have e164 : ac.tmps[164]?.getD undef = .pointer (some ⟨rb, 11, none⟩) := h.tm 14 164 rfl rfl
            refine opWant 11 161 rfl rfl e161 ?_
            exact relRun (v := .pointer (some ⟨rb, 13, none⟩)) (w' := u) (by simp [go_sem, e161, e164]) (okPj rfl hg rfl)
          · intro ac gs u hb hg hi h
            have e161 : ac.tmps[161]?.getD undef = .bool false := h.tm 11 161 rfl rfl
            have e165 : ac.tmps[165]?.getD undef = .pointer (some ⟨rb, 13, none⟩) := h.tm 15 165 rfl rfl
            refine opWant 11 161 rfl rfl e161 ?_
            exact relRun (v := .slice ra g'.ms.length rc) (w' := u) (by simp [go_sem, e161, e165, ((hR.out.r.chg hb hR.out.nr).cell 13), encGt]) (okPj rfl hg rfl)
          · intro ac gs u hb hg hi h
            have e161 : ac.tmps[161]?.getD undef = .bool false := h.tm 11 161 rfl rfl
            have e163 := h.tm 13 163 rfl rfl
            have e166 : ac.tmps[166]?.getD undef = .slice ra g'.ms.length rc := h.tm 16 166 rfl rfl
            refine opWant 11 161 rfl rfl e161 ?_
            obtain ⟨qs1, h1, m1⟩ := e163
            obtain ⟨qs2, h2, m2⟩ := (hR.out.chg hb).q
            refine relCall (f := _) (args := #[ac.tmps[163]?.getD undef, .slice ra g'.ms.length rc]) (by simp [go_sem, e166]; rfl) ?_
            refine (R2.same_eq m1 m2 (h1.trans h2.symm)).mono ?_
            rintro e w' ⟨rfl, hb'⟩
            exact ⟨_, rfl, okBj rfl hg hb' rfl⟩
          · intro ac gs u hb hg hi h
            have e161 : ac.tmps[161]?.getD undef = .bool false := h.tm 11 161 rfl rfl
            have e167 : ac.tmps[167]?.getD undef = .bool true := h.tm 17 167 rfl rfl
            refine opWant 11 161 rfl rfl e161 ?_
            exact relRun (v := .bool false) (w' := u) (by simp [go_sem, e161, e167]) (okPj rfl hg rfl)
          · intro ac gs u hb hg hi h
            have e161 : ac.tmps[161]?.getD undef = .bool false := h.tm 11 161 rfl rfl
            have e168 : ac.tmps[168]?.getD undef = .bool false := h.tm 18 168 rfl rfl
            refine opFree rfl ?_
            exact relRun (v := .bool false) (w' := u) (by simp [go_sem, e161, e168]) (okPj rfl hg rfl)
          · intro ac gs u hb hg hi h
            have e169 : ac.tmps[169]?.getD undef = .bool false := h.tm 19 169 rfl rfl
            refine opFree rfl ?_
            exact relMoveT _ rfl e169 (okPj rfl hg rfl)
          · intro ac gs u hb hg hi h
            have e170 : ac.tmps[170]?.getD undef = .bool false := h.tm 20 170 rfl rfl
            have e7 : ac.tmps[7]?.getD undef = .pointer (some ⟨gb, 0, none⟩) := h.inm 7 rfl rfl
            refine opWant 20 170 rfl rfl e170 ?_
            exact relMoveT _ rfl e7 (okPj rfl hg rfl)
          · intro ac gs u hb hg hi h
            have e170 : ac.tmps[170]?.getD undef = .bool false := h.tm 20 170 rfl rfl
            have e171 : ac.tmps[171]?.getD undef = .pointer (some ⟨gb, 0, none⟩) := h.tm 21 171 rfl rfl
            refine opWant 20 170 rfl rfl e170 ?_
            obtain ⟨M2, hJ, -⟩ := hi.2
            refine relCall (f := _) (args := #[.pointer (some ⟨gb, 0, none⟩)]) (by simp [go_sem, e170, e171]; rfl) ?_
            refine (gseq_c hJ).mono ?_
            rintro e w' ⟨rfl, rfl⟩
            exact ⟨_, rfl, okPj rfl hg rfl⟩
          · intro ac gs u hb hg hi h
            have e170 : ac.tmps[170]?.getD undef = .bool false := h.tm 20 170 rfl rfl
            have e8 : ac.tmps[8]?.getD undef = .pointer (some ⟨rb, 0, none⟩) := h.inm 8 rfl rfl
            refine opWant 20 170 rfl rfl e170 ?_
            exact relRun (v := .pointer (some ⟨rb, 18, none⟩)) (w' := u) (by simp [go_sem, e170, e8]) (okPj rfl hg rfl)
          · intro ac gs u hb hg hi h
            have e170 : ac.tmps[170]?.getD undef = .bool false := h.tm 20 170 rfl rfl
            have e173 : ac.tmps[173]?.getD undef = .pointer (some ⟨rb, 18, none⟩) := h.tm 23 173 rfl rfl
            refine opWant 20 170 rfl rfl e170 ?_
            exact relRun (v := .int .i64 g'.seq) (w' := u) (by simp [go_sem, e170, e173, ((hR.out.r.chg hb hR.out.nr).cell 18), encGt]) (okPj rfl hg rfl)
          · intro ac gs u hb hg hi h
            have e170 : ac.tmps[170]?.getD undef = .bool false := h.tm 20 170 rfl rfl
            have e172 : ac.tmps[172]?.getD undef = .int .i64 g'.seq := h.tm 22 172 rfl rfl
            have e174 : ac.tmps[174]?.getD undef = .int .i64 g'.seq := h.tm 24 174 rfl rfl
            refine opWant 20 170 rfl rfl e170 ?_
            exact relRun (v := .bool false) (w' := u) (by simp [go_sem, e170, e172, e174]) (okPj rfl hg rfl)
          · intro ac gs u hb hg hi h
            have e170 : ac.tmps[170]?.getD undef = .bool false := h.tm 20 170 rfl rfl
            have e175 : ac.tmps[175]?.getD undef = .bool false := h.tm 25 175 rfl rfl
            refine opFree rfl ?_
            exact relRun (v := .bool false) (w' := u) (by simp [go_sem, e170, e175]) (okPj rfl hg rfl)
          · intro ac gs u hb hg hi h
            have e176 : ac.tmps[176]?.getD undef = .bool false := h.tm 26 176 rfl rfl
            refine opFree rfl ?_
            exact relMoveT _ rfl e176 (okPj rfl hg rfl)
          · intro ac gs u hb hg hi h
            have e177 : ac.tmps[177]?.getD undef = .bool false := h.tm 27 177 rfl rfl
            have e7 : ac.tmps[7]?.getD undef = .pointer (some ⟨gb, 0, none⟩) := h.inm 7 rfl rfl
            refine opWant 27 177 rfl rfl e177 ?_
            exact relMoveT _ rfl e7 (okPj rfl hg rfl)
          · intro ac gs u hb hg hi h
            have e177 : ac.tmps[177]?.getD undef = .bool false := h.tm 27 177 rfl rfl
            have e8 : ac.tmps[8]?.getD undef = .pointer (some ⟨rb, 0, none⟩) := h.inm 8 rfl rfl
            refine opWant 27 177 rfl rfl e177 ?_
            exact relRun (v := .pointer (some ⟨rb, 14, none⟩)) (w' := u) (by simp [go_sem, e177, e8]) (okPj rfl hg rfl)
          · intro ac gs u hb hg hi h
            have e177 : ac.tmps[177]?.getD undef = .bool false := h.tm 27 177 rfl rfl
            have e179 : ac.tmps[179]?.getD undef = .pointer (some ⟨rb, 14, none⟩) := h.tm 29 179 rfl rfl
            refine opWant 27 177 rfl rfl e177 ?_
            exact relRun (v := .pointer (some ⟨rb, 17, none⟩)) (w' := u) (by simp [go_sem, e177, e179]) (okPj rfl hg rfl)
          · intro ac gs u hb hg hi h
            have e177 : ac.tmps[177]?.getD undef = .bool false := h.tm 27 177 rfl rfl
            have e180 : ac.tmps[180]?.getD undef = .pointer (some ⟨rb, 17, none⟩) := h.tm 30 180 rfl rfl
            refine opWant 27 177 rfl rfl e177 ?_
            exact relRun (v := .int .i64 g'.b.round) (w' := u) (by simp [go_sem, e177, e180, ((hR.out.r.chg hb hR.out.nr).cell 17), encGt]) (okPj rfl hg rfl)
          · intro ac gs u hb hg hi h
            have e177 : ac.tmps[177]?.getD undef = .bool false := h.tm 27 177 rfl rfl
            have e178 : ac.tmps[178]?.getD undef = .pointer (some ⟨gb, 0, none⟩) := h.tm 28 178 rfl rfl
            have e181 : ac.tmps[181]?.getD undef = .int .i64 g'.b.round := h.tm 31 181 rfl rfl
            refine opWant 27 177 rfl rfl e177 ?_
            refine relCall (f := _) (args := #[.pointer (some ⟨gb, 0, none⟩), .int .i64 g'.b.round]) (by simp [go_sem, e177, e178, e181]; rfl) ?_
            refine (gtokens2_c (hi.1 rfl) hcs.out).mono ?_
            rintro e w' ⟨rfl, h2, hc⟩
            exact ⟨_, rfl, okJ hg hc ⟨_, h2, fun b h => h.imp id (fun h => Nat.le_trans hb.size h.1)⟩ rfl⟩
          · intro ac gs u hb hg hi h
            have e177 : ac.tmps[177]?.getD undef = .bool false := h.tm 27 177 rfl rfl
            have e8 : ac.tmps[8]?.getD undef = .pointer (some ⟨rb, 0, none⟩) := h.inm 8 rfl rfl
            refine opWant 27 177 rfl rfl e177 ?_
            exact relRun (v := .pointer (some ⟨rb, 14, none⟩)) (w' := u) (by simp [go_sem, e177, e8]) (okPj rfl hg rfl)
          · intro ac gs u hb hg hi h
            have e177 : ac.tmps[177]?.getD undef = .bool false := h.tm 27 177 rfl rfl
            have e183 : ac.tmps[183]?.getD undef = .pointer (some ⟨rb, 14, none⟩) := h.tm 33 183 rfl rfl
            refine opWant 27 177 rfl rfl e177 ?_
            exact relRun (v := .pointer (some ⟨rb, 16, none⟩)) (w' := u) (by simp [go_sem, e177, e183]) (okPj rfl hg rfl)
          · intro ac gs u hb hg hi h
            have e177 : ac.tmps[177]?.getD undef = .bool false := h.tm 27 177 rfl rfl
            have e184 : ac.tmps[184]?.getD undef = .pointer (some ⟨rb, 16, none⟩) := h.tm 34 184 rfl rfl
            refine opWant 27 177 rfl rfl e177 ?_
            exact relRun (v := .int .i64 g'.b.tokens) (w' := u) (by simp [go_sem, e177, e184, ((hR.out.r.chg hb hR.out.nr).cell 16), encGt]) (okPj rfl hg rfl)
          · intro ac gs u hb hg hi h
            have e177 : ac.tmps[177]?.getD undef = .bool false := h.tm 27 177 rfl rfl
            have e182 : ac.tmps[182]?.getD undef = .int .i64 g'.b.tokens := h.tm 32 182 rfl rfl
            have e185 : ac.tmps[185]?.getD undef = .int .i64 g'.b.tokens := h.tm 35 185 rfl rfl
            refine opWant 27 177 rfl rfl e177 ?_
            exact relRun (v := .bool false) (w' := u) (by simp [go_sem, e177, e182, e185]) (okPj rfl hg rfl)
          · intro ac gs u hb hg hi h
            have e177 : ac.tmps[177]?.getD undef = .bool false := h.tm 27 177 rfl rfl
            have e186 : ac.tmps[186]?.getD undef = .bool false := h.tm 36 186 rfl rfl
            refine opFree rfl ?_
            exact relRun (v := .bool false) (w' := u) (by simp [go_sem, e177, e186]) (okPj rfl hg rfl)
          intro vs gs u ⟨hb, hj⟩ hg hr
          have r0 : vs 0 = .bool true := hr 0 (by decide)
          have r1 : vs 1 = .bool false := hr 1 (by decide)
          have r2 : vs 2 = .bool false := hr 2 (by decide)
          have r3 : vs 3 = .pointer (some ⟨gb, 0, none⟩) := hr 3 (by decide)
          have r4 : vs 4 = .int .i64 g'.ms.length := hr 4 (by decide)
          have r5 : vs 5 = .pointer (some ⟨rb, 11, none⟩) := hr 5 (by decide)
          have r6 : vs 6 = .pointer (some ⟨rb, 13, none⟩) := hr 6 (by decide)
          have r7 : vs 7 = .slice ra g'.ms.length rc := hr 7 (by decide)
          have r8 : vs 8 = .int .i64 g'.ms.length := hr 8 (by decide)
          have r9 : vs 9 = .bool false := hr 9 (by decide)
          have r10 : vs 10 = .bool false := hr 10 (by decide)
          have r11 : vs 11 = .bool false := hr 11 (by decide)
          have r12 : vs 12 = .pointer (some ⟨gb, 0, none⟩) := hr 12 (by decide)
          have r13 := hr 13 (by decide)
          have r14 : vs 14 = .pointer (some ⟨rb, 11, none⟩) := hr 14 (by decide)
          have r15 : vs 15 = .pointer (some ⟨rb, 13, none⟩) := hr 15 (by decide)
          have r16 : vs 16 = .slice ra g'.ms.length rc := hr 16 (by decide)
          have r17 : vs 17 = .bool true := hr 17 (by decide)
          have r18 : vs 18 = .bool false := hr 18 (by decide)
          have r19 : vs 19 = .bool false := hr 19 (by decide)
          have r20 : vs 20 = .bool false := hr 20 (by decide)
          have r21 : vs 21 = .pointer (some ⟨gb, 0, none⟩) := hr 21 (by decide)
          have r22 : vs 22 = .int .i64 g'.seq := hr 22 (by decide)
          have r23 : vs 23 = .pointer (some ⟨rb, 18, none⟩) := hr 23 (by decide)
          have r24 : vs 24 = .int .i64 g'.seq := hr 24 (by decide)
          have r25 : vs 25 = .bool false := hr 25 (by decide)
          have r26 : vs 26 = .bool false := hr 26 (by decide)
          have r27 : vs 27 = .bool false := hr 27 (by decide)
          have r28 : vs 28 = .pointer (some ⟨gb, 0, none⟩) := hr 28 (by decide)
          have r29 : vs 29 = .pointer (some ⟨rb, 14, none⟩) := hr 29 (by decide)
          have r30 : vs 30 = .pointer (some ⟨rb, 17, none⟩) := hr 30 (by decide)
          have r31 : vs 31 = .int .i64 g'.b.round := hr 31 (by decide)
          have r32 : vs 32 = .int .i64 g'.b.tokens := hr 32 (by decide)
          have r33 : vs 33 = .pointer (some ⟨rb, 14, none⟩) := hr 33 (by decide)
          have r34 : vs 34 = .pointer (some ⟨rb, 16, none⟩) := hr 34 (by decide)
          have r35 : vs 35 = .int .i64 g'.b.tokens := hr 35 (by decide)
          have r36 : vs 36 = .bool false := hr 36 (by decide)
          have r37 : vs 37 = .bool false := hr 37 (by decide)
          simp only [List.take_succ_cons, List.take_zero, List.drop_succ_cons, List.drop_zero, putOps, r0, r1, r2, r3, r4, r5, r6, r7, r8, r9, r10, r11, r12, r14, r15, r16, r17, r18, r19, r20, r21, r22, r23, r24, r25, r26, r27, r28, r29, r30, r31, r32, r33, r34, r35, r36, r37]
          simp only [Act.put, List.setIfInBounds_toArray, List.set_cons_succ, List.set_cons_zero]
          clear hr r0 r1 r2 r3 r4 r5 r6 r7 r8 r9 r10 r11 r12 r14 r15 r16 r17 r18 r19 r20 r21 r22 r23 r24 r25 r26 r27 r28 r29 r30 r31 r32 r33 r34 r35 r36 r37
          refine wpList_nil ?_
          -- GER
          obtain ⟨M2, hG2, hM2⟩ := hj
          have hWf := hid (Wd.step hW.out hb hM2 hG2.lt)
          have hRf := hid (RAt.step hR.out hb hM2)
          replace hG2 := hid hG2
          clear hb hg
          go_wp2
          go_roundg (ys.length - (i + 1))
          case rel => exact ⟨i + 1, g', M2, _, by omega, rfl, by go_num, by omega, by omega, hG2.out, hWf.out, hRf.out⟩
          case measure => omega
      · have d1 : decide ((i : Int) < ys.length) = false := decide_eq_false (by omega)
        clear hG hW hR
        go_wp2
        go_ret
        exact hend.out
end Go.Proofs.Ytealopempjempaa.Gt
