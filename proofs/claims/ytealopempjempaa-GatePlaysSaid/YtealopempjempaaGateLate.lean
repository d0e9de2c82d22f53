/- DERIVED. The walk over the statement GateLate: a message that is let in is late Life ticks behind its tick, and not ahead of that. -/
import Derived.Test.YtealopempjempaaGateS
import Derived.Test.YtealopempjempaaCfgG
import Derived.Test.YtealopempjempaaRefMsg
import Derived.Test.YtealopempjempaaRegR
namespace Go.Proofs.Ytealopempjempaa.Gt
set_option linter.unusedVariables false
set_option linter.unusedSimpArgs false
open Go.RowKit Go.Proofs.Ytealopempjempaa.K Go.Proofs.Ytealopempjempaa.Lb Go.Proofs.Ytealopempjempaa.La Go.Proofs.Ytealopempjempaa.Cf
structure GoodK (k : Chan) : Prop where
  kind : k.kind = 1
  words : 1 ≤ k.words ∧ k.words ≤ 4
  lanes : 1 ≤ k.lanes ∧ k.lanes ≤ 3
  depth : 1 ≤ k.depth ∧ k.depth ≤ 4
  life : 1 ≤ k.life ∧ k.life ≤ 60
  rate : 0 ≤ k.rate ∧ k.rate ≤ 4
  cap : 1 ≤ k.cap ∧ k.cap ≤ 6
theorem goodK_ok (k : Chan) : GoodK (goodK k) := by
  have h0 : nearT ({ k with kind := 1 } : Chan).kind 0 2 ≠ 0 := by show nearT 1 0 2 ≠ 0; decide
  have e : goodK k = ⟨1, nearT k.frm 0 2, (nearT k.frm 0 2 + nearT k.to 1 (2 - 1)) % 2, nearT k.words 1 4, 0, nearT k.lanes 1 3, nearT k.depth 1 4, nearT k.hold 1 4, nearT k.life 1 60, nearT k.rate 0 5, nearT k.cap 1 6⟩ := by
    unfold goodK goodChan; rw [if_neg h0]
  rw [e]
  have h1 := nearT_in (n := k.words) (least := 1) (many := 4) (by omega)
  have h2 := nearT_in (n := k.lanes) (least := 1) (many := 3) (by omega)
  have h3 := nearT_in (n := k.depth) (least := 1) (many := 4) (by omega)
  have h4 := nearT_in (n := k.life) (least := 1) (many := 60) (by omega)
  have h5 := nearT_in (n := k.rate) (least := 0) (many := 5) (by omega)
  have h6 := nearT_in (n := k.cap) (least := 1) (many := 6) (by omega)
  exact ⟨rfl, by simp only; omega, by simp only; omega, by simp only; omega, by simp only; omega, by simp only; omega, by simp only; omega⟩
def lateM (k : Chan) (N : Int) : Msg := ⟨[5], 0, N, N + k.life, 1⟩
def lateG (k : Chan) (N : Int) : Gte := ⟨k, [lateM k N], useB (comeB (newB k.rate k.cap) 0), 1⟩
theorem late_offer {k : Chan} (h : GoodK k) {N : Int} (h0 : 0 ≤ N) (h1 : N < 1000000) : offerT ⟨k, [], newB k.rate k.cap, 0⟩ 0 0 [5] N 0 = (lateG k N, lateM k N, 0) := by
  have hl := h.lanes
  have hd := h.depth
  have hw := h.words
  have hf := h.life
  have hc := h.cap
  have hr := h.rate
  have hj : judgeT k 0 0 [5] = 0 := by
    rw [judge_words h.kind (by omega) (by omega) (by simp) (by simp; omega)]
    rfl
  have hrm : roomT (lnT k.lanes) (plT k.depth) [] 0 ≠ 0 := by
    have e1 : lnT k.lanes = k.lanes := by unfold lnT; omega
    have e2 : plT k.depth = k.depth := by unfold plT; omega
    rw [e1, e2]
    unfold roomT isT
    rw [if_pos (by simp; omega)]
    simp [ofM]; omega
  have ht : (comeB (newB k.rate k.cap) 0).tokens ≠ 0 := by
    have e : newB k.rate k.cap = ⟨k.rate, k.cap, k.cap, 0⟩ := by unfold newB; congr 1 <;> omega
    rw [e]
    have hm := mulT_in k.rate (subT 0 0)
    simp only [comeB]
    unfold addT cutT at *
    omega
  have hct : cutT N = N := cutT_id h0 (by omega)
  have had : addT N k.life = N + k.life := by unfold addT cutT; omega
  unfold offerT
  rw [if_neg (by simp [hj]), if_neg hrm, if_neg ht]
  simp only [lateG, lateM, hct, had, List.nil_append]
  rfl
theorem late_sort (k : Chan) (N : Int) : sortM [lateM k N] = [lateM k N] := rfl
theorem late_yes {k : Chan} (h : GoodK k) {N n : Int} (h0 : 0 ≤ N) (h1 : N < 1000000) (h2 : 0 ≤ n) (h3 : n < 100) : lateT (N + n) (lateM k N).late = decide (k.life ≤ n) := by
  have hf := h.life
  unfold lateT lateM cutT
  simp only
  congr 1
  apply propext
  omega
theorem late_one {ok : Nat → Prop} {w : World} {v : Value} {m : Msg} (h : MsgsR ok w v [m]) : ∃ g o c a c2, v = .slice (some ⟨g, o, none⟩) 1 c ∧ At5 w g o (.slice a m.words.length c2) m ∧ IntsAt ok w (.slice a m.words.length c2) m.words := by
  obtain ⟨qs, hq, hms⟩ := h
  match qs, hq with
  | [q], hq =>
    have e : q.2 = m := by simpa using hq
    obtain ⟨ao, c, rfl⟩ := hms.shape
    obtain ⟨g, o, a, c2, rfl, -, -, h5, hi⟩ := hms.at5 (i := 0) (by simp)
    simp only [List.getElem_cons_zero, Nat.zero_mul, Nat.add_zero, e] at h5 hi
    exact ⟨g, o, c, a, c2, rfl, h5, hi⟩
theorem cutN {n : Int} : wrap64 ((IntKind.u64.wrap n).tmod 1000000) = (n % 18446744073709551616) % 1000000 := by
  rw [IntKind.wrap_u64, Int.tmod_eq_emod_of_nonneg (by omega)]; unfold wrap64; omega
theorem cutM {n : Int} : wrap64 ((IntKind.u64.wrap n).tmod 100) = (n % 18446744073709551616) % 100 := by
  rw [IntKind.wrap_u64, Int.tmod_eq_emod_of_nonneg (by omega)]; unfold wrap64; omega
set_option maxHeartbeats 4000000 in
set_option maxRecDepth 100000 in
theorem glate_c (w : World) (k : Chan) (now after : Int) : Calls Try.prog 4 #[aggC k, .int .i64 now, .int .i64 after] w (LivesPost w) := by
  have hb0 := hid ((Below.refl w.heap.size w).alloc (Nat.le_refl _) (.cells #[.int .i64 k.kind, .int .i64 k.frm, .int .i64 k.to, .int .i64 k.words, .int .i64 k.refresh, .int .i64 k.lanes, .int .i64 k.depth, .int .i64 k.hold, .int .i64 k.life, .int .i64 k.rate, .int .i64 k.cap] 23))
  have hK0 := hid (pts.newA w #[.int .i64 k.kind, .int .i64 k.frm, .int .i64 k.to, .int .i64 k.words, .int .i64 k.refresh, .int .i64 k.lanes, .int .i64 k.depth, .int .i64 k.hold, .int .i64 k.life, .int .i64 k.rate, .int .i64 k.cap] 23)
  have hok := hid (goodK_ok k)
  have hgd := hid (fun w => good_c w k)
  generalize goodK k = kg at hok hgd
  obtain ⟨sb, hsb⟩ : ∃ sb, sb = w.heap.size := ⟨_, rfl⟩
  unfold aggC at *
  go_enter Try.func4, Try.ntmps4
  go_upto_region 3 with (first | (go_at_call 10; (with_reducible refine (lives_c _).mono ?_); rintro e W1 ⟨rfl, hb⟩; have hK1 := hid (hK0.out.below hb); have hB1 := hid (Below.next hb0.out hb hb0.out.size); have hL1 := hid (Nat.le_trans hb0.out.size hb.size); clear hb))
  rw [← hsb] at hK1 ⊢
  replace hsb := hid hsb
  have y0 := (hK1.out).cell 0
  have y1 := (hK1.out).cell 1
  have y2 := (hK1.out).cell 2
  have y3 := (hK1.out).cell 3
  have y4 := (hK1.out).cell 4
  have y5 := (hK1.out).cell 5
  have y6 := (hK1.out).cell 6
  have y7 := (hK1.out).cell 7
  have y8 := (hK1.out).cell 8
  have y9 := (hK1.out).cell 9
  have y10 := (hK1.out).cell 10
  have yl := (hK1.out).lt
  have yf := fun o => (hK1.out).frozen o
  simp only [List.getElem?_cons_zero, List.getElem?_cons_succ] at y0 y1 y2 y3 y4 y5 y6 y7 y8 y9 y10
  go_upto_region 4 with (first | (go_at_call 11; (with_reducible refine (hgd.out _).mono ?_); rintro e W2 ⟨rfl, hb⟩; have hK2 := hid (hK1.out.below hb); have hB2 := hid (Below.next hB1.out hb hL1.out); have hL2 := hid (Nat.le_trans hL1.out hb.size); clear hb; have x0 := (hK2.out).cell 0; have x1 := (hK2.out).cell 1; have x2 := (hK2.out).cell 2; have x3 := (hK2.out).cell 3; have x4 := (hK2.out).cell 4; have x5 := (hK2.out).cell 5; have x6 := (hK2.out).cell 6; have x7 := (hK2.out).cell 7; have x8 := (hK2.out).cell 8; have x9 := (hK2.out).cell 9; have x10 := (hK2.out).cell 10; have xl := (hK2.out).lt; have xf := fun o => (hK2.out).frozen o; simp only [List.getElem?_cons_zero, List.getElem?_cons_succ] at x0 x1 x2 x3 x4 x5 x6 x7 x8 x9 x10))
  clear y0 y1 y2 y3 y4 y5 y6 y7 y8 y9 y10 yl yf
  have hsw : w.heap.size ≤ sb := by have := hsb.out; omega
  have hset := (((((((((((hK2.out.set 0 (.int .i64 kg.kind)).set 1 (.int .i64 kg.frm)).set 2 (.int .i64 kg.to)).set 3 (.int .i64 kg.words)).set 4 (.int .i64 kg.refresh)).set 5 (.int .i64 kg.lanes)).set 6 (.int .i64 kg.depth)).set 7 (.int .i64 kg.hold)).set 8 (.int .i64 kg.life)).set 9 (.int .i64 kg.rate)).set 10 (.int .i64 kg.cap))
  simp only [List.set_cons_zero, List.set_cons_succ] at hset
  have hbs := (Below.setCell (p := ⟨sb, 10, none⟩) (Below.setCell (p := ⟨sb, 9, none⟩) (Below.setCell (p := ⟨sb, 8, none⟩) (Below.setCell (p := ⟨sb, 7, none⟩) (Below.setCell (p := ⟨sb, 6, none⟩) (Below.setCell (p := ⟨sb, 5, none⟩) (Below.setCell (p := ⟨sb, 4, none⟩) (Below.setCell (p := ⟨sb, 3, none⟩) (Below.setCell (p := ⟨sb, 2, none⟩) (Below.setCell (p := ⟨sb, 1, none⟩) (Below.setCell (p := ⟨sb, 0, none⟩) hB2.out hsw (.int .i64 kg.kind)) hsw (.int .i64 kg.frm)) hsw (.int .i64 kg.to)) hsw (.int .i64 kg.words)) hsw (.int .i64 kg.refresh)) hsw (.int .i64 kg.lanes)) hsw (.int .i64 kg.depth)) hsw (.int .i64 kg.hold)) hsw (.int .i64 kg.life)) hsw (.int .i64 kg.rate)) hsw (.int .i64 kg.cap))
  have hK3 := hid hset
  have hB3 := hid hbs
  have hL3 := hid (show w.heap.size ≤ ((((((((((((W2.setCell ⟨sb, 0, none⟩ (.int .i64 kg.kind)).setCell ⟨sb, 1, none⟩ (.int .i64 kg.frm)).setCell ⟨sb, 2, none⟩ (.int .i64 kg.to)).setCell ⟨sb, 3, none⟩ (.int .i64 kg.words)).setCell ⟨sb, 4, none⟩ (.int .i64 kg.refresh)).setCell ⟨sb, 5, none⟩ (.int .i64 kg.lanes)).setCell ⟨sb, 6, none⟩ (.int .i64 kg.depth)).setCell ⟨sb, 7, none⟩ (.int .i64 kg.hold)).setCell ⟨sb, 8, none⟩ (.int .i64 kg.life)).setCell ⟨sb, 9, none⟩ (.int .i64 kg.rate)).setCell ⟨sb, 10, none⟩ (.int .i64 kg.cap))).heap.size by simpa using hL2.out)
  generalize (((((((((((W2.setCell ⟨sb, 0, none⟩ (.int .i64 kg.kind)).setCell ⟨sb, 1, none⟩ (.int .i64 kg.frm)).setCell ⟨sb, 2, none⟩ (.int .i64 kg.to)).setCell ⟨sb, 3, none⟩ (.int .i64 kg.words)).setCell ⟨sb, 4, none⟩ (.int .i64 kg.refresh)).setCell ⟨sb, 5, none⟩ (.int .i64 kg.lanes)).setCell ⟨sb, 6, none⟩ (.int .i64 kg.depth)).setCell ⟨sb, 7, none⟩ (.int .i64 kg.hold)).setCell ⟨sb, 8, none⟩ (.int .i64 kg.life)).setCell ⟨sb, 9, none⟩ (.int .i64 kg.rate)).setCell ⟨sb, 10, none⟩ (.int .i64 kg.cap)) = W3 at hset hbs hK3 hB3 hL3 ⊢
  clear hset hbs hK1 hB1 hL1 hK2 hB2 hL2 hK0 hb0 hgd
  clear x0 x1 x2 x3 x4 x5 x6 x7 x8 x9 x10 xl xf
  clear hsw
  have x0 := (hK3.out).cell 0
  have x1 := (hK3.out).cell 1
  have x2 := (hK3.out).cell 2
  have x3 := (hK3.out).cell 3
  have x4 := (hK3.out).cell 4
  have x5 := (hK3.out).cell 5
  have x6 := (hK3.out).cell 6
  have x7 := (hK3.out).cell 7
  have x8 := (hK3.out).cell 8
  have x9 := (hK3.out).cell 9
  have x10 := (hK3.out).cell 10
  have xl := (hK3.out).lt
  have xf := fun o => (hK3.out).frozen o
  simp only [List.getElem?_cons_zero, List.getElem?_cons_succ] at x0 x1 x2 x3 x4 x5 x6 x7 x8 x9 x10
  have hnw := hid (gnew_c W3 kg)
  unfold aggC at hnw
  go_upto_region 5 with (first | (go_at_call 15; (with_reducible refine (hnw.out).mono ?_); rintro e w4 ⟨gb, rfl, hG, hb⟩; have hG4 := hid hG; have hW4 := hid (show Wd W3.heap.size W3 w4 (fun b => W3.heap.size ≤ b ∧ b < w4.heap.size) from ⟨hb, fun b h => h.1, fun b h => h.2, hb.size⟩); clear hG hb; generalize (fun b => W3.heap.size ≤ b ∧ b < w4.heap.size) = M4 at hG4 hW4))
  clear x0 x1 x2 x3 x4 x5 x6 x7 x8 x9 x10 xl xf
  have hN := hid (show 0 ≤ (now % 18446744073709551616) % 1000000 ∧ (now % 18446744073709551616) % 1000000 < 1000000 by omega)
  have hM := hid (show 0 ≤ (after % 18446744073709551616) % 100 ∧ (after % 18446744073709551616) % 100 < 100 by omega)
  have hof := hid (late_offer hok.out hN.out.1 hN.out.2)
  have hly := hid (late_yes hok.out hN.out.1 hN.out.2 hM.out.1 hM.out.2)
  have eN := hid (cutN (n := now))
  have eM := hid (cutM (n := after))
  generalize (now % 18446744073709551616) % 1000000 = N at hN hof hly eN
  generalize (after % 18446744073709551616) % 100 = n at hM hly eM
  go_upto_region 6 with fail
  rw [eN.out]
  have hrn : IntKind.i64.wrap (N + n) = N + n := by have := hN.out; have := hM.out; rw [IntKind.wrap_i64]; omega
  replace hrn := hid hrn
  go_upto_region 7 with (first | (go_at_call 16; (with_reducible refine (offerLitS hG4.out 5 0 0 N 0 (show (0 : Int) < 1000000 by decide) rfl).mono ?_); rw [hof.out]; rintro e w5 ⟨a5, c5, M5, rfl, hi, hG, hs5, hC⟩; simp only [lateM, List.length_singleton] at hi hG ⊢; have hb5 := (Below.refl w5.heap.size w5).alloc (Nat.le_refl _) (.cells #[.slice a5 1 c5, .int .i64 0, .int .i64 N, .int .i64 (N + kg.life), .int .i64 1] 37); have hm5 := hid (pts.newA w5 #[.slice a5 1 c5, .int .i64 0, .int .i64 N, .int .i64 (N + kg.life), .int .i64 1] 37); have hG5 := hid (hG.below hb5); have hi5 := hid (hi.below hb5); have hW5 := hid ((hW4.out.chg hC).next hb5); have hq5 := hid (fun h => hG.lt w5.heap.size h); replace hs5 := hid hs5; clear hG hC hb5 hi))
  go_upto_region 8 with fail
  rw [eM.out]
  have hS := gsweep_c hG5.out (wrap64 (N + n))
  have hrn2 : wrap64 (N + n) = N + n := by have := hN.out; have := hM.out; unfold wrap64; omega
  have hwl := hid (show IntKind.i64.wrap (N + kg.life) = N + kg.life from by have := hN.out; have := hok.out.life; rw [IntKind.wrap_i64]; omega)
  rw [show (lateG kg N).ms = [lateM kg N] from rfl, late_sort] at hS
  by_cases hl : kg.life ≤ n
  · have hS2 := hid (show Calls Try.prog 17 #[.pointer (some ⟨gb, 0, none⟩), .int .i64 (wrap64 (N + n))] _ (GTell _ M5 gb (lateG kg N) [lateM kg N] []) from by
      have e : lateT (wrap64 (N + n)) (lateM kg N).late = true := by rw [hrn2, hly.out]; simpa using hl
      simpa [e] using hS)
    have hdl : decide (kg.life ≤ n) = true := decide_eq_true hl
    clear hS hrn2
    go_upto_region 9 with (first | (go_at_call 17; (with_reducible refine (hS2.out).mono ?_); rintro e w6 ⟨v6, rfl, hv, hG, hC⟩; have hG6 := hid hG; have hW6 := hid (hW5.out.chg (hC.mono hs5.out)); have hK6 := hid (hK3.out.below hW6.out.below); have hm6 := hid (hm5.out.chg hC (fun hm => Nat.lt_irrefl _ (hq5.out hm))); have hi6 := hid (hi5.out.chg hC (fun b hb _ hm => hb.2 hm)); obtain ⟨eg, eo, ec, a7, c7, rfl, he, hx⟩ := late_one hv; have he6 := hid he; have hx6 := hid hx; clear hv hG hC he hx))
    obtain ⟨mb, hmb⟩ : ∃ mb, mb = w5.heap.size := ⟨_, rfl⟩
    rw [← hmb] at hm6 ⊢
    replace hmb := hid hmb
    have x8 := hK6.out.cell 8
    simp only [List.getElem?_cons_zero, List.getElem?_cons_succ] at x8
    go_upto_region 10 with fail
    clear x8
    -- REG empennage/empennagelaw12.GateLate|10|GateLate.10a
    refine region_tab 42 [Sp.eq (.int .i64 0), Sp.eq (.bool true), Sp.eq (.bool true), Sp.eq (.pointer (some ⟨mb, 2, none⟩)), Sp.eq (.int .i64 N), Sp.eq (.int .i64 N), Sp.eq (.bool true), Sp.eq (.bool true), Sp.eq (.bool true), Sp.eq (.pointer (some ⟨mb, 3, none⟩)), Sp.eq (.int .i64 (N + kg.life)), Sp.eq (.int .i64 N), Sp.eq (.pointer (some ⟨sb, 8, none⟩)), Sp.eq (.int .i64 kg.life), Sp.eq (.int .i64 (N + kg.life)), Sp.eq (.bool true), Sp.eq (.bool true), Sp.eq (.bool true), Sp.eq (.slice (some ⟨eg, eo, none⟩) 1 ec), Sp.eq (.int .i64 1), Sp.eq (.bool true), Sp.eq (.bool true), Sp.eq (.bool true), Sp.eq (.bool true), Sp.eq (.bool true), Sp.eq (.pointer (some ⟨gb, 0, none⟩)), Sp.eq (.int .i64 0), Sp.eq (.bool true), Sp.eq (.bool true), Sp.eq (.bool true), Sp.eq (.bool true), Sp.eq (.bool true), Sp.eq (.bool true), Sp.eq (.bool false), Sp.eq (.bool false), Sp.eq (.slice (some ⟨eg, eo, none⟩) 1 ec), Sp.eq (.pointer (some ⟨eg, eo, none⟩)), Sp.eq (.agg #[.slice a7 1 c7, .int .i64 0, .int .i64 N, .int .i64 (N + kg.life), .int .i64 1]), Sp.eq (.agg #[.slice a5 1 c5, .int .i64 0, .int .i64 N, .int .i64 (N + kg.life), .int .i64 1]), Sp.eq (.bool true), Sp.eq (.bool true), Sp.eq (.bool true)] (fun _ _ _ _ _ h => h) (by kernel_rfl) (by kernel_rfl) ⟨?_, ?_, ?_, ?_, ?_, ?_, ?_, ?_, ?_, ?_, ?_, ?_, ?_, ?_, ?_, ?_, ?_, ?_, ?_, ?_, ?_, ?_, ?_, ?_, ?_, ?_, ?_, ?_, ?_, ?_, ?_, ?_, ?_, ?_, ?_, ?_, ?_, ?_, ?_, ?_, ?_, ?_, trivial⟩ ?_
    · intro ac gs u hb hg h
      have e9 : ac.tmps[9]?.getD undef = .int .i64 0 := h.inm 9 rfl rfl
      refine opFree rfl ?_
      exact relMoveT _ rfl e9 (okP hg rfl)
    · intro ac gs u hb hg h
      have e43 : ac.tmps[43]?.getD undef = .int .i64 0 := h.tm 0 43 rfl rfl
      refine opFree rfl ?_
      exact relRun (v := .bool true) (w' := u) (by simp [go_sem, e43]) (okP hg rfl)
    · intro ac gs u hb hg h
      have e44 : ac.tmps[44]?.getD undef = .bool true := h.tm 1 44 rfl rfl
      refine opFree rfl ?_
      exact relMoveT _ rfl e44 (okP hg rfl)
    · intro ac gs u hb hg h
      have e45 : ac.tmps[45]?.getD undef = .bool true := h.tm 2 45 rfl rfl
      have e8 : ac.tmps[8]?.getD undef = .pointer (some ⟨mb, 0, none⟩) := h.inm 8 rfl rfl
      refine opWant 2 45 rfl rfl e45 ?_
      exact relRun (v := .pointer (some ⟨mb, 2, none⟩)) (w' := u) (by simp [go_sem, e45, e8]) (okP hg rfl)
    · intro ac gs u hb hg h
      have e45 : ac.tmps[45]?.getD undef = .bool true := h.tm 2 45 rfl rfl
      have e46 : ac.tmps[46]?.getD undef = .pointer (some ⟨mb, 2, none⟩) := h.tm 3 46 rfl rfl
      refine opWant 2 45 rfl rfl e45 ?_
      exact relRun (v := .int .i64 N) (w' := u) (by simp [go_sem, e45, e46, ((hm6.out.below hb).cell 2)]) (okP hg rfl)
    · intro ac gs u hb hg h
      have e45 : ac.tmps[45]?.getD undef = .bool true := h.tm 2 45 rfl rfl
      have e1 : ac.tmps[1]?.getD undef = .int .i64 N := h.inm 1 rfl rfl
      refine opWant 2 45 rfl rfl e45 ?_
      exact relMoveT _ rfl e1 (okP hg rfl)
    · intro ac gs u hb hg h
      have e45 : ac.tmps[45]?.getD undef = .bool true := h.tm 2 45 rfl rfl
      have e47 : ac.tmps[47]?.getD undef = .int .i64 N := h.tm 4 47 rfl rfl
      have e48 : ac.tmps[48]?.getD undef = .int .i64 N := h.tm 5 48 rfl rfl
      refine opWant 2 45 rfl rfl e45 ?_
      exact relRun (v := .bool true) (w' := u) (by simp [go_sem, e45, e47, e48]) (okP hg rfl)
    · intro ac gs u hb hg h
      have e45 : ac.tmps[45]?.getD undef = .bool true := h.tm 2 45 rfl rfl
      have e49 : ac.tmps[49]?.getD undef = .bool true := h.tm 6 49 rfl rfl
      refine opFree rfl ?_
      exact relRun (v := .bool true) (w' := u) (by simp [go_sem, e45, e49]) (okP hg rfl)
    · intro ac gs u hb hg h
      have e50 : ac.tmps[50]?.getD undef = .bool true := h.tm 7 50 rfl rfl
      refine opFree rfl ?_
      exact relMoveT _ rfl e50 (okP hg rfl)
    · intro ac gs u hb hg h
      have e51 : ac.tmps[51]?.getD undef = .bool true := h.tm 8 51 rfl rfl
      have e8 : ac.tmps[8]?.getD undef = .pointer (some ⟨mb, 0, none⟩) := h.inm 8 rfl rfl
      refine opWant 8 51 rfl rfl e51 ?_
      exact relRun (v := .pointer (some ⟨mb, 3, none⟩)) (w' := u) (by simp [go_sem, e51, e8]) (okP hg rfl)
    · intro ac gs u hb hg h
      have e51 : ac.tmps[51]?.getD undef = .bool true := h.tm 8 51 rfl rfl
      have e52 : ac.tmps[52]?.getD undef = .pointer (some ⟨mb, 3, none⟩) := h.tm 9 52 rfl rfl
      refine opWant 8 51 rfl rfl e51 ?_
      exact relRun (v := .int .i64 (N + kg.life)) (w' := u) (by simp [go_sem, e51, e52, ((hm6.out.below hb).cell 3)]) (okP hg rfl)
    · intro ac gs u hb hg h
      have e51 : ac.tmps[51]?.getD undef = .bool true := h.tm 8 51 rfl rfl
      have e1 : ac.tmps[1]?.getD undef = .int .i64 N := h.inm 1 rfl rfl
      refine opWant 8 51 rfl rfl e51 ?_
      exact relMoveT _ rfl e1 (okP hg rfl)
    · intro ac gs u hb hg h
      have e51 : ac.tmps[51]?.getD undef = .bool true := h.tm 8 51 rfl rfl
      have e3 : ac.tmps[3]?.getD undef = .pointer (some ⟨sb, 0, none⟩) := h.inm 3 rfl rfl
      refine opWant 8 51 rfl rfl e51 ?_
      exact relRun (v := .pointer (some ⟨sb, 8, none⟩)) (w' := u) (by simp [go_sem, e51, e3]) (okP hg rfl)
    · intro ac gs u hb hg h
      have e51 : ac.tmps[51]?.getD undef = .bool true := h.tm 8 51 rfl rfl
      have e55 : ac.tmps[55]?.getD undef = .pointer (some ⟨sb, 8, none⟩) := h.tm 12 55 rfl rfl
      refine opWant 8 51 rfl rfl e51 ?_
      exact relRun (v := .int .i64 kg.life) (w' := u) (by simp [go_sem, e51, e55, ((hK6.out.below hb).cell 8)]) (okP hg rfl)
    · intro ac gs u hb hg h
      have e51 : ac.tmps[51]?.getD undef = .bool true := h.tm 8 51 rfl rfl
      have e54 : ac.tmps[54]?.getD undef = .int .i64 N := h.tm 11 54 rfl rfl
      have e56 : ac.tmps[56]?.getD undef = .int .i64 kg.life := h.tm 13 56 rfl rfl
      refine opWant 8 51 rfl rfl e51 ?_
      exact relRun (v := .int .i64 (N + kg.life)) (w' := u) (by simp [go_sem, e51, e54, e56, hwl.out]) (okP hg rfl)
    · intro ac gs u hb hg h
      have e51 : ac.tmps[51]?.getD undef = .bool true := h.tm 8 51 rfl rfl
      have e53 : ac.tmps[53]?.getD undef = .int .i64 (N + kg.life) := h.tm 10 53 rfl rfl
      have e57 : ac.tmps[57]?.getD undef = .int .i64 (N + kg.life) := h.tm 14 57 rfl rfl
      refine opWant 8 51 rfl rfl e51 ?_
      exact relRun (v := .bool true) (w' := u) (by simp [go_sem, e51, e53, e57]) (okP hg rfl)
    · intro ac gs u hb hg h
      have e51 : ac.tmps[51]?.getD undef = .bool true := h.tm 8 51 rfl rfl
      have e58 : ac.tmps[58]?.getD undef = .bool true := h.tm 15 58 rfl rfl
      refine opFree rfl ?_
      exact relRun (v := .bool true) (w' := u) (by simp [go_sem, e51, e58]) (okP hg rfl)
    · intro ac gs u hb hg h
      have e59 : ac.tmps[59]?.getD undef = .bool true := h.tm 16 59 rfl rfl
      refine opFree rfl ?_
      exact relMoveT _ rfl e59 (okP hg rfl)
    · intro ac gs u hb hg h
      have e60 : ac.tmps[60]?.getD undef = .bool true := h.tm 17 60 rfl rfl
      have e11 : ac.tmps[11]?.getD undef = .slice (some ⟨eg, eo, none⟩) 1 ec := h.inm 11 rfl rfl
      refine opWant 17 60 rfl rfl e60 ?_
      exact relMoveT _ rfl e11 (okP hg rfl)
    · intro ac gs u hb hg h
      have e60 : ac.tmps[60]?.getD undef = .bool true := h.tm 17 60 rfl rfl
      have e61 : ac.tmps[61]?.getD undef = .slice (some ⟨eg, eo, none⟩) 1 ec := h.tm 18 61 rfl rfl
      refine opWant 17 60 rfl rfl e60 ?_
      exact relRun (v := .int .i64 1) (w' := u) (by simp [go_sem, e60, e61]) (okP hg rfl)
    · intro ac gs u hb hg h
      have e60 : ac.tmps[60]?.getD undef = .bool true := h.tm 17 60 rfl rfl
      have e62 : ac.tmps[62]?.getD undef = .int .i64 1 := h.tm 19 62 rfl rfl
      refine opWant 17 60 rfl rfl e60 ?_
      exact relRun (v := .bool true) (w' := u) (by simp [go_sem, e60, e62]) (okP hg rfl)
    · intro ac gs u hb hg h
      have e60 : ac.tmps[60]?.getD undef = .bool true := h.tm 17 60 rfl rfl
      have e12 : ac.tmps[12]?.getD undef = .bool true := h.inm 12 rfl rfl
      refine opWant 17 60 rfl rfl e60 ?_
      exact relMoveT _ rfl e12 (okP hg rfl)
    · intro ac gs u hb hg h
      have e60 : ac.tmps[60]?.getD undef = .bool true := h.tm 17 60 rfl rfl
      have e63 : ac.tmps[63]?.getD undef = .bool true := h.tm 20 63 rfl rfl
      have e64 : ac.tmps[64]?.getD undef = .bool true := h.tm 21 64 rfl rfl
      refine opWant 17 60 rfl rfl e60 ?_
      exact relRun (v := .bool true) (w' := u) (by simp [go_sem, e60, e63, e64]) (okP hg rfl)
    · intro ac gs u hb hg h
      have e60 : ac.tmps[60]?.getD undef = .bool true := h.tm 17 60 rfl rfl
      have e65 : ac.tmps[65]?.getD undef = .bool true := h.tm 22 65 rfl rfl
      refine opFree rfl ?_
      exact relRun (v := .bool true) (w' := u) (by simp [go_sem, e60, e65]) (okP hg rfl)
    · intro ac gs u hb hg h
      have e66 : ac.tmps[66]?.getD undef = .bool true := h.tm 23 66 rfl rfl
      refine opFree rfl ?_
      exact relMoveT _ rfl e66 (okP hg rfl)
    · intro ac gs u hb hg h
      have e67 : ac.tmps[67]?.getD undef = .bool true := h.tm 24 67 rfl rfl
      have e7 : ac.tmps[7]?.getD undef = .pointer (some ⟨gb, 0, none⟩) := h.inm 7 rfl rfl
      refine opWant 24 67 rfl rfl e67 ?_
      exact relMoveT _ rfl e7 (okP hg rfl)
    · intro ac gs u hb hg h
      have e67 : ac.tmps[67]?.getD undef = .bool true := h.tm 24 67 rfl rfl
      have e68 : ac.tmps[68]?.getD undef = .pointer (some ⟨gb, 0, none⟩) := h.tm 25 68 rfl rfl
      refine opWant 24 67 rfl rfl e67 ?_
      refine relCall (f := _) (args := #[.pointer (some ⟨gb, 0, none⟩)]) (by simp [go_sem, e67, e68]; rfl) ?_
      refine (glen_c (hG6.out.below hb)).mono ?_
      rintro e w' ⟨rfl, rfl⟩
      exact ⟨_, rfl, okP hg rfl⟩
    · intro ac gs u hb hg h
      have e67 : ac.tmps[67]?.getD undef = .bool true := h.tm 24 67 rfl rfl
      have e69 : ac.tmps[69]?.getD undef = .int .i64 0 := h.tm 26 69 rfl rfl
      refine opWant 24 67 rfl rfl e67 ?_
      exact relRun (v := .bool true) (w' := u) (by simp [go_sem, e67, e69]) (okP hg rfl)
    · intro ac gs u hb hg h
      have e67 : ac.tmps[67]?.getD undef = .bool true := h.tm 24 67 rfl rfl
      have e12 : ac.tmps[12]?.getD undef = .bool true := h.inm 12 rfl rfl
      refine opWant 24 67 rfl rfl e67 ?_
      exact relMoveT _ rfl e12 (okP hg rfl)
    · intro ac gs u hb hg h
      have e67 : ac.tmps[67]?.getD undef = .bool true := h.tm 24 67 rfl rfl
      have e70 : ac.tmps[70]?.getD undef = .bool true := h.tm 27 70 rfl rfl
      have e71 : ac.tmps[71]?.getD undef = .bool true := h.tm 28 71 rfl rfl
      refine opWant 24 67 rfl rfl e67 ?_
      exact relRun (v := .bool true) (w' := u) (by simp [go_sem, e67, e70, e71]) (okP hg rfl)
    · intro ac gs u hb hg h
      have e67 : ac.tmps[67]?.getD undef = .bool true := h.tm 24 67 rfl rfl
      have e72 : ac.tmps[72]?.getD undef = .bool true := h.tm 29 72 rfl rfl
      refine opFree rfl ?_
      exact relRun (v := .bool true) (w' := u) (by simp [go_sem, e67, e72]) (okP hg rfl)
    · intro ac gs u hb hg h
      have e73 : ac.tmps[73]?.getD undef = .bool true := h.tm 30 73 rfl rfl
      refine opFree rfl ?_
      exact relMoveT _ rfl e73 (okP hg rfl)
    · intro ac gs u hb hg h
      have e74 : ac.tmps[74]?.getD undef = .bool true := h.tm 31 74 rfl rfl
      have e12 : ac.tmps[12]?.getD undef = .bool true := h.inm 12 rfl rfl
      refine opWant 31 74 rfl rfl e74 ?_
      exact relMoveT _ rfl e12 (okP hg rfl)
    · intro ac gs u hb hg h
      have e74 : ac.tmps[74]?.getD undef = .bool true := h.tm 31 74 rfl rfl
      have e75 : ac.tmps[75]?.getD undef = .bool true := h.tm 32 75 rfl rfl
      refine opWant 31 74 rfl rfl e74 ?_
      exact relRun (v := .bool false) (w' := u) (by simp [go_sem, e74, e75]) (okP hg rfl)
    · intro ac gs u hb hg h
      have e74 : ac.tmps[74]?.getD undef = .bool true := h.tm 31 74 rfl rfl
      have e76 : ac.tmps[76]?.getD undef = .bool false := h.tm 33 76 rfl rfl
      refine opWant 31 74 rfl rfl e74 ?_
      exact relMoveT _ rfl e76 (okP hg rfl)
    · intro ac gs u hb hg h
      have e77 : ac.tmps[77]?.getD undef = .bool false := h.tm 34 77 rfl rfl
      have e11 : ac.tmps[11]?.getD undef = .slice (some ⟨eg, eo, none⟩) 1 ec := h.inm 11 rfl rfl
      refine opWant 34 77 rfl rfl e77 ?_
      exact relMoveT _ rfl e11 (okP hg rfl)
    · intro ac gs u hb hg h
      have e77 : ac.tmps[77]?.getD undef = .bool false := h.tm 34 77 rfl rfl
      have e78 : ac.tmps[78]?.getD undef = .slice (some ⟨eg, eo, none⟩) 1 ec := h.tm 35 78 rfl rfl
      refine opWant 34 77 rfl rfl e77 ?_
      exact relRun (v := .pointer (some ⟨eg, eo, none⟩)) (w' := u) (by simp [go_sem, e77, e78]) (okP hg rfl)
    · intro ac gs u hb hg h
      have e77 : ac.tmps[77]?.getD undef = .bool false := h.tm 34 77 rfl rfl
      have e79 : ac.tmps[79]?.getD undef = .pointer (some ⟨eg, eo, none⟩) := h.tm 36 79 rfl rfl
      refine opWant 34 77 rfl rfl e77 ?_
      exact relRun (v := .agg #[.slice a7 1 c7, .int .i64 0, .int .i64 N, .int .i64 (N + kg.life), .int .i64 1]) (w' := u) (by simp [go_sem, e77, e79, ((he6.out.below hb).c0), ((he6.out.below hb).c1), ((he6.out.below hb).c2), ((he6.out.below hb).c3), ((he6.out.below hb).c4), lateM]) (okP hg rfl)
    · intro ac gs u hb hg h
      have e77 : ac.tmps[77]?.getD undef = .bool false := h.tm 34 77 rfl rfl
      have e8 : ac.tmps[8]?.getD undef = .pointer (some ⟨mb, 0, none⟩) := h.inm 8 rfl rfl
      refine opWant 34 77 rfl rfl e77 ?_
      exact relRun (v := .agg #[.slice a5 1 c5, .int .i64 0, .int .i64 N, .int .i64 (N + kg.life), .int .i64 1]) (w' := u) (by simp [go_sem, e77, e8, ((hm6.out.below hb).cell 0), ((hm6.out.below hb).cell 1), ((hm6.out.below hb).cell 2), ((hm6.out.below hb).cell 3), ((hm6.out.below hb).cell 4)]) (okP hg rfl)
    · intro ac gs u hb hg h
      have e77 : ac.tmps[77]?.getD undef = .bool false := h.tm 34 77 rfl rfl
      have e80 : ac.tmps[80]?.getD undef = .agg #[.slice a7 1 c7, .int .i64 0, .int .i64 N, .int .i64 (N + kg.life), .int .i64 1] := h.tm 37 80 rfl rfl
      have e81 : ac.tmps[81]?.getD undef = .agg #[.slice a5 1 c5, .int .i64 0, .int .i64 N, .int .i64 (N + kg.life), .int .i64 1] := h.tm 38 81 rfl rfl
      refine opWant 34 77 rfl rfl e77 ?_
      refine relCall (f := _) (args := #[.agg #[.slice a7 1 c7, .int .i64 0, .int .i64 N, .int .i64 (N + kg.life), .int .i64 1], .agg #[.slice a5 1 c5, .int .i64 0, .int .i64 N, .int .i64 (N + kg.life), .int .i64 1]]) (by simp [go_sem, e77, e80, e81]; rfl) ?_
      refine (R2.one_eq (m := lateM kg N) (m' := lateM kg N) (hx6.out.below hb) (hi6.out.below hb) rfl).mono ?_
      rintro e w' ⟨rfl, hb'⟩
      exact ⟨_, rfl, okB hg hb' rfl⟩
    · intro ac gs u hb hg h
      have e74 : ac.tmps[74]?.getD undef = .bool true := h.tm 31 74 rfl rfl
      have e77 : ac.tmps[77]?.getD undef = .bool false := h.tm 34 77 rfl rfl
      have e82 : ac.tmps[82]?.getD undef = .bool true := h.tm 39 82 rfl rfl
      refine opWant 31 74 rfl rfl e74 ?_
      exact relRun (v := .bool true) (w' := u) (by simp [go_sem, e74, e77, e82]) (okP hg rfl)
    · intro ac gs u hb hg h
      have e74 : ac.tmps[74]?.getD undef = .bool true := h.tm 31 74 rfl rfl
      have e83 : ac.tmps[83]?.getD undef = .bool true := h.tm 40 83 rfl rfl
      refine opFree rfl ?_
      exact relRun (v := .bool true) (w' := u) (by simp [go_sem, e74, e83]) (okP hg rfl)
    intro vs gs u hb hg hr
    have r0 : vs 0 = .int .i64 0 := hr 0 (by decide)
    have r1 : vs 1 = .bool true := hr 1 (by decide)
    have r2 : vs 2 = .bool true := hr 2 (by decide)
    have r3 : vs 3 = .pointer (some ⟨mb, 2, none⟩) := hr 3 (by decide)
    have r4 : vs 4 = .int .i64 N := hr 4 (by decide)
    have r5 : vs 5 = .int .i64 N := hr 5 (by decide)
    have r6 : vs 6 = .bool true := hr 6 (by decide)
    have r7 : vs 7 = .bool true := hr 7 (by decide)
    have r8 : vs 8 = .bool true := hr 8 (by decide)
    have r9 : vs 9 = .pointer (some ⟨mb, 3, none⟩) := hr 9 (by decide)
    have r10 : vs 10 = .int .i64 (N + kg.life) := hr 10 (by decide)
    have r11 : vs 11 = .int .i64 N := hr 11 (by decide)
    have r12 : vs 12 = .pointer (some ⟨sb, 8, none⟩) := hr 12 (by decide)
    have r13 : vs 13 = .int .i64 kg.life := hr 13 (by decide)
    have r14 : vs 14 = .int .i64 (N + kg.life) := hr 14 (by decide)
    have r15 : vs 15 = .bool true := hr 15 (by decide)
    have r16 : vs 16 = .bool true := hr 16 (by decide)
    have r17 : vs 17 = .bool true := hr 17 (by decide)
    have r18 : vs 18 = .slice (some ⟨eg, eo, none⟩) 1 ec := hr 18 (by decide)
    have r19 : vs 19 = .int .i64 1 := hr 19 (by decide)
    have r20 : vs 20 = .bool true := hr 20 (by decide)
    have r21 : vs 21 = .bool true := hr 21 (by decide)
    have r22 : vs 22 = .bool true := hr 22 (by decide)
    have r23 : vs 23 = .bool true := hr 23 (by decide)
    have r24 : vs 24 = .bool true := hr 24 (by decide)
    have r25 : vs 25 = .pointer (some ⟨gb, 0, none⟩) := hr 25 (by decide)
    have r26 : vs 26 = .int .i64 0 := hr 26 (by decide)
    have r27 : vs 27 = .bool true := hr 27 (by decide)
    have r28 : vs 28 = .bool true := hr 28 (by decide)
    have r29 : vs 29 = .bool true := hr 29 (by decide)
    have r30 : vs 30 = .bool true := hr 30 (by decide)
    have r31 : vs 31 = .bool true := hr 31 (by decide)
    have r32 : vs 32 = .bool true := hr 32 (by decide)
    have r33 : vs 33 = .bool false := hr 33 (by decide)
    have r34 : vs 34 = .bool false := hr 34 (by decide)
    have r35 : vs 35 = .slice (some ⟨eg, eo, none⟩) 1 ec := hr 35 (by decide)
    have r36 : vs 36 = .pointer (some ⟨eg, eo, none⟩) := hr 36 (by decide)
    have r37 : vs 37 = .agg #[.slice a7 1 c7, .int .i64 0, .int .i64 N, .int .i64 (N + kg.life), .int .i64 1] := hr 37 (by decide)
    have r38 : vs 38 = .agg #[.slice a5 1 c5, .int .i64 0, .int .i64 N, .int .i64 (N + kg.life), .int .i64 1] := hr 38 (by decide)
    have r39 : vs 39 = .bool true := hr 39 (by decide)
    have r40 : vs 40 = .bool true := hr 40 (by decide)
    have r41 : vs 41 = .bool true := hr 41 (by decide)
    simp only [List.take_succ_cons, List.take_zero, List.drop_succ_cons, List.drop_zero, putOps, r0, r1, r2, r3, r4, r5, r6, r7, r8, r9, r10, r11, r12, r13, r14, r15, r16, r17, r18, r19, r20, r21, r22, r23, r24, r25, r26, r27, r28, r29, r30, r31, r32, r33, r34, r35, r36, r37, r38, r39, r40, r41]
    simp only [Act.put, List.setIfInBounds_toArray, List.set_cons_succ, List.set_cons_zero]
    clear hr r0 r1 r2 r3 r4 r5 r6 r7 r8 r9 r10 r11 r12 r13 r14 r15 r16 r17 r18 r19 r20 r21 r22 r23 r24 r25 r26 r27 r28 r29 r30 r31 r32 r33 r34 r35 r36 r37 r38 r39 r40 r41
    -- GER
    go_wp2
    go_ret
    exact ⟨rfl, (hB3.out.trans (hW6.out.below.mono hL3.out)).trans (hb.mono (Nat.le_trans hL3.out hW6.out.le))⟩
  · have hS2 := hid (show Calls Try.prog 17 #[.pointer (some ⟨gb, 0, none⟩), .int .i64 (wrap64 (N + n))] _ (GTell _ M5 gb (lateG kg N) [] [lateM kg N]) from by
      have e : lateT (wrap64 (N + n)) (lateM kg N).late = false := by rw [hrn2, hly.out]; simpa using hl
      simpa [e] using hS)
    have hdl : decide (kg.life ≤ n) = false := decide_eq_false hl
    clear hS hrn2
    go_upto_region 9 with (first | (go_at_call 17; (with_reducible refine (hS2.out).mono ?_); rintro e w6 ⟨v6, rfl, hv, hG, hC⟩; have hG6 := hid hG; have hW6 := hid (hW5.out.chg (hC.mono hs5.out)); have hK6 := hid (hK3.out.below hW6.out.below); have hm6 := hid (hm5.out.chg hC (fun hm => Nat.lt_irrefl _ (hq5.out hm))); obtain ⟨ea, ec, rfl⟩ := hv.shape; simp only [List.length_nil]; clear hv hG hC))
    obtain ⟨mb, hmb⟩ : ∃ mb, mb = w5.heap.size := ⟨_, rfl⟩
    rw [← hmb] at hm6 ⊢
    replace hmb := hid hmb
    have x8 := hK6.out.cell 8
    simp only [List.getElem?_cons_zero, List.getElem?_cons_succ] at x8
    go_upto_region 10 with fail
    clear x8
    -- REG empennage/empennagelaw12.GateLate|10|GateLate.10b
    refine region_tab 42 [Sp.eq (.int .i64 0), Sp.eq (.bool true), Sp.eq (.bool true), Sp.eq (.pointer (some ⟨mb, 2, none⟩)), Sp.eq (.int .i64 N), Sp.eq (.int .i64 N), Sp.eq (.bool true), Sp.eq (.bool true), Sp.eq (.bool true), Sp.eq (.pointer (some ⟨mb, 3, none⟩)), Sp.eq (.int .i64 (N + kg.life)), Sp.eq (.int .i64 N), Sp.eq (.pointer (some ⟨sb, 8, none⟩)), Sp.eq (.int .i64 kg.life), Sp.eq (.int .i64 (N + kg.life)), Sp.eq (.bool true), Sp.eq (.bool true), Sp.eq (.bool true), Sp.eq (.slice ea 0 ec), Sp.eq (.int .i64 0), Sp.eq (.bool false), Sp.eq (.bool false), Sp.eq (.bool true), Sp.eq (.bool true), Sp.eq (.bool true), Sp.eq (.pointer (some ⟨gb, 0, none⟩)), Sp.eq (.int .i64 1), Sp.eq (.bool false), Sp.eq (.bool false), Sp.eq (.bool true), Sp.eq (.bool true), Sp.eq (.bool true), Sp.eq (.bool false), Sp.eq (.bool true), Sp.eq (.bool true), Sp.eq (undef), Sp.eq (undef), Sp.eq (undef), Sp.eq (undef), Sp.eq (undef), Sp.eq (.bool true), Sp.eq (.bool true)] (fun _ _ _ _ _ h => h) (by kernel_rfl) (by kernel_rfl) ⟨?_, ?_, ?_, ?_, ?_, ?_, ?_, ?_, ?_, ?_, ?_, ?_, ?_, ?_, ?_, ?_, ?_, ?_, ?_, ?_, ?_, ?_, ?_, ?_, ?_, ?_, ?_, ?_, ?_, ?_, ?_, ?_, ?_, ?_, ?_, ?_, ?_, ?_, ?_, ?_, ?_, ?_, trivial⟩ ?_
    · intro ac gs u hb hg h
      have e9 : ac.tmps[9]?.getD undef = .int .i64 0 := h.inm 9 rfl rfl
      refine opFree rfl ?_
      exact relMoveT _ rfl e9 (okP hg rfl)
    · intro ac gs u hb hg h
      have e43 : ac.tmps[43]?.getD undef = .int .i64 0 := h.tm 0 43 rfl rfl
      refine opFree rfl ?_
      exact relRun (v := .bool true) (w' := u) (by simp [go_sem, e43]) (okP hg rfl)
    · intro ac gs u hb hg h
      have e44 : ac.tmps[44]?.getD undef = .bool true := h.tm 1 44 rfl rfl
      refine opFree rfl ?_
      exact relMoveT _ rfl e44 (okP hg rfl)
    · intro ac gs u hb hg h
      have e45 : ac.tmps[45]?.getD undef = .bool true := h.tm 2 45 rfl rfl
      have e8 : ac.tmps[8]?.getD undef = .pointer (some ⟨mb, 0, none⟩) := h.inm 8 rfl rfl
      refine opWant 2 45 rfl rfl e45 ?_
      exact relRun (v := .pointer (some ⟨mb, 2, none⟩)) (w' := u) (by simp [go_sem, e45, e8]) (okP hg rfl)
    · intro ac gs u hb hg h
      have e45 : ac.tmps[45]?.getD undef = .bool true := h.tm 2 45 rfl rfl
      have e46 : ac.tmps[46]?.getD undef = .pointer (some ⟨mb, 2, none⟩) := h.tm 3 46 rfl rfl
      refine opWant 2 45 rfl rfl e45 ?_
      exact relRun (v := .int .i64 N) (w' := u) (by simp [go_sem, e45, e46, ((hm6.out.below hb).cell 2)]) (okP hg rfl)
    · intro ac gs u hb hg h
      have e45 : ac.tmps[45]?.getD undef = .bool true := h.tm 2 45 rfl rfl
      have e1 : ac.tmps[1]?.getD undef = .int .i64 N := h.inm 1 rfl rfl
      refine opWant 2 45 rfl rfl e45 ?_
      exact relMoveT _ rfl e1 (okP hg rfl)
    · intro ac gs u hb hg h
      have e45 : ac.tmps[45]?.getD undef = .bool true := h.tm 2 45 rfl rfl
      have e47 : ac.tmps[47]?.getD undef = .int .i64 N := h.tm 4 47 rfl rfl
      have e48 : ac.tmps[48]?.getD undef = .int .i64 N := h.tm 5 48 rfl rfl
      refine opWant 2 45 rfl rfl e45 ?_
      exact relRun (v := .bool true) (w' := u) (by simp [go_sem, e45, e47, e48]) (okP hg rfl)
    · intro ac gs u hb hg h
      have e45 : ac.tmps[45]?.getD undef = .bool true := h.tm 2 45 rfl rfl
      have e49 : ac.tmps[49]?.getD undef = .bool true := h.tm 6 49 rfl rfl
      refine opFree rfl ?_
      exact relRun (v := .bool true) (w' := u) (by simp [go_sem, e45, e49]) (okP hg rfl)
    · intro ac gs u hb hg h
      have e50 : ac.tmps[50]?.getD undef = .bool true := h.tm 7 50 rfl rfl
      refine opFree rfl ?_
      exact relMoveT _ rfl e50 (okP hg rfl)
    · intro ac gs u hb hg h
      have e51 : ac.tmps[51]?.getD undef = .bool true := h.tm 8 51 rfl rfl
      have e8 : ac.tmps[8]?.getD undef = .pointer (some ⟨mb, 0, none⟩) := h.inm 8 rfl rfl
      refine opWant 8 51 rfl rfl e51 ?_
      exact relRun (v := .pointer (some ⟨mb, 3, none⟩)) (w' := u) (by simp [go_sem, e51, e8]) (okP hg rfl)
    · intro ac gs u hb hg h
      have e51 : ac.tmps[51]?.getD undef = .bool true := h.tm 8 51 rfl rfl
      have e52 : ac.tmps[52]?.getD undef = .pointer (some ⟨mb, 3, none⟩) := h.tm 9 52 rfl rfl
      refine opWant 8 51 rfl rfl e51 ?_
      exact relRun (v := .int .i64 (N + kg.life)) (w' := u) (by simp [go_sem, e51, e52, ((hm6.out.below hb).cell 3)]) (okP hg rfl)
    · intro ac gs u hb hg h
      have e51 : ac.tmps[51]?.getD undef = .bool true := h.tm 8 51 rfl rfl
      have e1 : ac.tmps[1]?.getD undef = .int .i64 N := h.inm 1 rfl rfl
      refine opWant 8 51 rfl rfl e51 ?_
      exact relMoveT _ rfl e1 (okP hg rfl)
    · intro ac gs u hb hg h
      have e51 : ac.tmps[51]?.getD undef = .bool true := h.tm 8 51 rfl rfl
      have e3 : ac.tmps[3]?.getD undef = .pointer (some ⟨sb, 0, none⟩) := h.inm 3 rfl rfl
      refine opWant 8 51 rfl rfl e51 ?_
      exact relRun (v := .pointer (some ⟨sb, 8, none⟩)) (w' := u) (by simp [go_sem, e51, e3]) (okP hg rfl)
    · intro ac gs u hb hg h
      have e51 : ac.tmps[51]?.getD undef = .bool true := h.tm 8 51 rfl rfl
      have e55 : ac.tmps[55]?.getD undef = .pointer (some ⟨sb, 8, none⟩) := h.tm 12 55 rfl rfl
      refine opWant 8 51 rfl rfl e51 ?_
      exact relRun (v := .int .i64 kg.life) (w' := u) (by simp [go_sem, e51, e55, ((hK6.out.below hb).cell 8)]) (okP hg rfl)
    · intro ac gs u hb hg h
      have e51 : ac.tmps[51]?.getD undef = .bool true := h.tm 8 51 rfl rfl
      have e54 : ac.tmps[54]?.getD undef = .int .i64 N := h.tm 11 54 rfl rfl
      have e56 : ac.tmps[56]?.getD undef = .int .i64 kg.life := h.tm 13 56 rfl rfl
      refine opWant 8 51 rfl rfl e51 ?_
      exact relRun (v := .int .i64 (N + kg.life)) (w' := u) (by simp [go_sem, e51, e54, e56, hwl.out]) (okP hg rfl)
    · intro ac gs u hb hg h
      have e51 : ac.tmps[51]?.getD undef = .bool true := h.tm 8 51 rfl rfl
      have e53 : ac.tmps[53]?.getD undef = .int .i64 (N + kg.life) := h.tm 10 53 rfl rfl
      have e57 : ac.tmps[57]?.getD undef = .int .i64 (N + kg.life) := h.tm 14 57 rfl rfl
      refine opWant 8 51 rfl rfl e51 ?_
      exact relRun (v := .bool true) (w' := u) (by simp [go_sem, e51, e53, e57]) (okP hg rfl)
    · intro ac gs u hb hg h
      have e51 : ac.tmps[51]?.getD undef = .bool true := h.tm 8 51 rfl rfl
      have e58 : ac.tmps[58]?.getD undef = .bool true := h.tm 15 58 rfl rfl
      refine opFree rfl ?_
      exact relRun (v := .bool true) (w' := u) (by simp [go_sem, e51, e58]) (okP hg rfl)
    · intro ac gs u hb hg h
      have e59 : ac.tmps[59]?.getD undef = .bool true := h.tm 16 59 rfl rfl
      refine opFree rfl ?_
      exact relMoveT _ rfl e59 (okP hg rfl)
    · intro ac gs u hb hg h
      have e60 : ac.tmps[60]?.getD undef = .bool true := h.tm 17 60 rfl rfl
      have e11 : ac.tmps[11]?.getD undef = .slice ea 0 ec := h.inm 11 rfl rfl
      refine opWant 17 60 rfl rfl e60 ?_
      exact relMoveT _ rfl e11 (okP hg rfl)
    · intro ac gs u hb hg h
      have e60 : ac.tmps[60]?.getD undef = .bool true := h.tm 17 60 rfl rfl
      have e61 : ac.tmps[61]?.getD undef = .slice ea 0 ec := h.tm 18 61 rfl rfl
      refine opWant 17 60 rfl rfl e60 ?_
      exact relRun (v := .int .i64 0) (w' := u) (by simp [go_sem, e60, e61]) (okP hg rfl)
    · intro ac gs u hb hg h
      have e60 : ac.tmps[60]?.getD undef = .bool true := h.tm 17 60 rfl rfl
      have e62 : ac.tmps[62]?.getD undef = .int .i64 0 := h.tm 19 62 rfl rfl
      refine opWant 17 60 rfl rfl e60 ?_
      exact relRun (v := .bool false) (w' := u) (by simp [go_sem, e60, e62]) (okP hg rfl)
    · intro ac gs u hb hg h
      have e60 : ac.tmps[60]?.getD undef = .bool true := h.tm 17 60 rfl rfl
      have e12 : ac.tmps[12]?.getD undef = .bool false := h.inm 12 rfl rfl
      refine opWant 17 60 rfl rfl e60 ?_
      exact relMoveT _ rfl e12 (okP hg rfl)
    · intro ac gs u hb hg h
      have e60 : ac.tmps[60]?.getD undef = .bool true := h.tm 17 60 rfl rfl
      have e63 : ac.tmps[63]?.getD undef = .bool false := h.tm 20 63 rfl rfl
      have e64 : ac.tmps[64]?.getD undef = .bool false := h.tm 21 64 rfl rfl
      refine opWant 17 60 rfl rfl e60 ?_
      exact relRun (v := .bool true) (w' := u) (by simp [go_sem, e60, e63, e64]) (okP hg rfl)
    · intro ac gs u hb hg h
      have e60 : ac.tmps[60]?.getD undef = .bool true := h.tm 17 60 rfl rfl
      have e65 : ac.tmps[65]?.getD undef = .bool true := h.tm 22 65 rfl rfl
      refine opFree rfl ?_
      exact relRun (v := .bool true) (w' := u) (by simp [go_sem, e60, e65]) (okP hg rfl)
    · intro ac gs u hb hg h
      have e66 : ac.tmps[66]?.getD undef = .bool true := h.tm 23 66 rfl rfl
      refine opFree rfl ?_
      exact relMoveT _ rfl e66 (okP hg rfl)
    · intro ac gs u hb hg h
      have e67 : ac.tmps[67]?.getD undef = .bool true := h.tm 24 67 rfl rfl
      have e7 : ac.tmps[7]?.getD undef = .pointer (some ⟨gb, 0, none⟩) := h.inm 7 rfl rfl
      refine opWant 24 67 rfl rfl e67 ?_
      exact relMoveT _ rfl e7 (okP hg rfl)
    · intro ac gs u hb hg h
      have e67 : ac.tmps[67]?.getD undef = .bool true := h.tm 24 67 rfl rfl
      have e68 : ac.tmps[68]?.getD undef = .pointer (some ⟨gb, 0, none⟩) := h.tm 25 68 rfl rfl
      refine opWant 24 67 rfl rfl e67 ?_
      refine relCall (f := _) (args := #[.pointer (some ⟨gb, 0, none⟩)]) (by simp [go_sem, e67, e68]; rfl) ?_
      refine (glen_c (hG6.out.below hb)).mono ?_
      rintro e w' ⟨rfl, rfl⟩
      exact ⟨_, rfl, okP hg rfl⟩
    · intro ac gs u hb hg h
      have e67 : ac.tmps[67]?.getD undef = .bool true := h.tm 24 67 rfl rfl
      have e69 : ac.tmps[69]?.getD undef = .int .i64 1 := h.tm 26 69 rfl rfl
      refine opWant 24 67 rfl rfl e67 ?_
      exact relRun (v := .bool false) (w' := u) (by simp [go_sem, e67, e69]) (okP hg rfl)
    · intro ac gs u hb hg h
      have e67 : ac.tmps[67]?.getD undef = .bool true := h.tm 24 67 rfl rfl
      have e12 : ac.tmps[12]?.getD undef = .bool false := h.inm 12 rfl rfl
      refine opWant 24 67 rfl rfl e67 ?_
      exact relMoveT _ rfl e12 (okP hg rfl)
    · intro ac gs u hb hg h
      have e67 : ac.tmps[67]?.getD undef = .bool true := h.tm 24 67 rfl rfl
      have e70 : ac.tmps[70]?.getD undef = .bool false := h.tm 27 70 rfl rfl
      have e71 : ac.tmps[71]?.getD undef = .bool false := h.tm 28 71 rfl rfl
      refine opWant 24 67 rfl rfl e67 ?_
      exact relRun (v := .bool true) (w' := u) (by simp [go_sem, e67, e70, e71]) (okP hg rfl)
    · intro ac gs u hb hg h
      have e67 : ac.tmps[67]?.getD undef = .bool true := h.tm 24 67 rfl rfl
      have e72 : ac.tmps[72]?.getD undef = .bool true := h.tm 29 72 rfl rfl
      refine opFree rfl ?_
      exact relRun (v := .bool true) (w' := u) (by simp [go_sem, e67, e72]) (okP hg rfl)
    · intro ac gs u hb hg h
      have e73 : ac.tmps[73]?.getD undef = .bool true := h.tm 30 73 rfl rfl
      refine opFree rfl ?_
      exact relMoveT _ rfl e73 (okP hg rfl)
    · intro ac gs u hb hg h
      have e74 : ac.tmps[74]?.getD undef = .bool true := h.tm 31 74 rfl rfl
      have e12 : ac.tmps[12]?.getD undef = .bool false := h.inm 12 rfl rfl
      refine opWant 31 74 rfl rfl e74 ?_
      exact relMoveT _ rfl e12 (okP hg rfl)
    · intro ac gs u hb hg h
      have e74 : ac.tmps[74]?.getD undef = .bool true := h.tm 31 74 rfl rfl
      have e75 : ac.tmps[75]?.getD undef = .bool false := h.tm 32 75 rfl rfl
      refine opWant 31 74 rfl rfl e74 ?_
      exact relRun (v := .bool true) (w' := u) (by simp [go_sem, e74, e75]) (okP hg rfl)
    · intro ac gs u hb hg h
      have e74 : ac.tmps[74]?.getD undef = .bool true := h.tm 31 74 rfl rfl
      have e76 : ac.tmps[76]?.getD undef = .bool true := h.tm 33 76 rfl rfl
      refine opWant 31 74 rfl rfl e74 ?_
      exact relMoveT _ rfl e76 (okP hg rfl)
    · intro ac gs u hb hg h
      have e77 : ac.tmps[77]?.getD undef = .bool true := h.tm 34 77 rfl rfl
      exact opSkip 34 77 rfl rfl e77 rfl rfl
    · intro ac gs u hb hg h
      have e77 : ac.tmps[77]?.getD undef = .bool true := h.tm 34 77 rfl rfl
      exact opSkip 34 77 rfl rfl e77 rfl rfl
    · intro ac gs u hb hg h
      have e77 : ac.tmps[77]?.getD undef = .bool true := h.tm 34 77 rfl rfl
      exact opSkip 34 77 rfl rfl e77 rfl rfl
    · intro ac gs u hb hg h
      have e77 : ac.tmps[77]?.getD undef = .bool true := h.tm 34 77 rfl rfl
      exact opSkip 34 77 rfl rfl e77 rfl rfl
    · intro ac gs u hb hg h
      have e77 : ac.tmps[77]?.getD undef = .bool true := h.tm 34 77 rfl rfl
      exact opSkip 34 77 rfl rfl e77 rfl rfl
    · intro ac gs u hb hg h
      have e74 : ac.tmps[74]?.getD undef = .bool true := h.tm 31 74 rfl rfl
      have e77 : ac.tmps[77]?.getD undef = .bool true := h.tm 34 77 rfl rfl
      have e82 : ac.tmps[82]?.getD undef = undef := h.tm 39 82 rfl rfl
      refine opWant 31 74 rfl rfl e74 ?_
      exact relRun (v := .bool true) (w' := u) (by simp [go_sem, e74, e77, e82]) (okP hg rfl)
    · intro ac gs u hb hg h
      have e74 : ac.tmps[74]?.getD undef = .bool true := h.tm 31 74 rfl rfl
      have e83 : ac.tmps[83]?.getD undef = .bool true := h.tm 40 83 rfl rfl
      refine opFree rfl ?_
      exact relRun (v := .bool true) (w' := u) (by simp [go_sem, e74, e83]) (okP hg rfl)
    intro vs gs u hb hg hr
    have r0 : vs 0 = .int .i64 0 := hr 0 (by decide)
    have r1 : vs 1 = .bool true := hr 1 (by decide)
    have r2 : vs 2 = .bool true := hr 2 (by decide)
    have r3 : vs 3 = .pointer (some ⟨mb, 2, none⟩) := hr 3 (by decide)
    have r4 : vs 4 = .int .i64 N := hr 4 (by decide)
    have r5 : vs 5 = .int .i64 N := hr 5 (by decide)
    have r6 : vs 6 = .bool true := hr 6 (by decide)
    have r7 : vs 7 = .bool true := hr 7 (by decide)
    have r8 : vs 8 = .bool true := hr 8 (by decide)
    have r9 : vs 9 = .pointer (some ⟨mb, 3, none⟩) := hr 9 (by decide)
    have r10 : vs 10 = .int .i64 (N + kg.life) := hr 10 (by decide)
    have r11 : vs 11 = .int .i64 N := hr 11 (by decide)
    have r12 : vs 12 = .pointer (some ⟨sb, 8, none⟩) := hr 12 (by decide)
    have r13 : vs 13 = .int .i64 kg.life := hr 13 (by decide)
    have r14 : vs 14 = .int .i64 (N + kg.life) := hr 14 (by decide)
    have r15 : vs 15 = .bool true := hr 15 (by decide)
    have r16 : vs 16 = .bool true := hr 16 (by decide)
    have r17 : vs 17 = .bool true := hr 17 (by decide)
    have r18 : vs 18 = .slice ea 0 ec := hr 18 (by decide)
    have r19 : vs 19 = .int .i64 0 := hr 19 (by decide)
    have r20 : vs 20 = .bool false := hr 20 (by decide)
    have r21 : vs 21 = .bool false := hr 21 (by decide)
    have r22 : vs 22 = .bool true := hr 22 (by decide)
    have r23 : vs 23 = .bool true := hr 23 (by decide)
    have r24 : vs 24 = .bool true := hr 24 (by decide)
    have r25 : vs 25 = .pointer (some ⟨gb, 0, none⟩) := hr 25 (by decide)
    have r26 : vs 26 = .int .i64 1 := hr 26 (by decide)
    have r27 : vs 27 = .bool false := hr 27 (by decide)
    have r28 : vs 28 = .bool false := hr 28 (by decide)
    have r29 : vs 29 = .bool true := hr 29 (by decide)
    have r30 : vs 30 = .bool true := hr 30 (by decide)
    have r31 : vs 31 = .bool true := hr 31 (by decide)
    have r32 : vs 32 = .bool false := hr 32 (by decide)
    have r33 : vs 33 = .bool true := hr 33 (by decide)
    have r34 : vs 34 = .bool true := hr 34 (by decide)
    have r35 : vs 35 = undef := hr 35 (by decide)
    have r36 : vs 36 = undef := hr 36 (by decide)
    have r37 : vs 37 = undef := hr 37 (by decide)
    have r38 : vs 38 = undef := hr 38 (by decide)
    have r39 : vs 39 = undef := hr 39 (by decide)
    have r40 : vs 40 = .bool true := hr 40 (by decide)
    have r41 : vs 41 = .bool true := hr 41 (by decide)
    simp only [List.take_succ_cons, List.take_zero, List.drop_succ_cons, List.drop_zero, putOps, r0, r1, r2, r3, r4, r5, r6, r7, r8, r9, r10, r11, r12, r13, r14, r15, r16, r17, r18, r19, r20, r21, r22, r23, r24, r25, r26, r27, r28, r29, r30, r31, r32, r33, r34, r35, r36, r37, r38, r39, r40, r41]
    simp only [Act.put, List.setIfInBounds_toArray, List.set_cons_succ, List.set_cons_zero]
    clear hr r0 r1 r2 r3 r4 r5 r6 r7 r8 r9 r10 r11 r12 r13 r14 r15 r16 r17 r18 r19 r20 r21 r22 r23 r24 r25 r26 r27 r28 r29 r30 r31 r32 r33 r34 r35 r36 r37 r38 r39 r40 r41
    -- GER
    go_wp2
    go_ret
    exact ⟨rfl, (hB3.out.trans (hW6.out.below.mono hL3.out)).trans (hb.mono (Nat.le_trans hL3.out hW6.out.le))⟩
end Go.Proofs.Ytealopempjempaa.Gt
