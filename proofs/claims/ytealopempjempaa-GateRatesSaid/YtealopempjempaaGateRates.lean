/- DERIVED. The walk over the statement GateRates: no more are let in up to any round than the bucket may give. -/
import Derived.Test.YtealopempjempaaGateLate
import Derived.Test.YtealopempjempaaGateT
import Derived.Test.YtealopempjempaaMostW
namespace Go.Proofs.Ytealopempjempaa.Gt
set_option linter.unusedVariables false
set_option linter.unusedSimpArgs false
open Go.RowKit Go.Proofs.Ytealopempjempaa.K Go.Proofs.Ytealopempjempaa.Lb Go.Proofs.Ytealopempjempaa.La Go.Proofs.Ytealopempjempaa.Cf
/-- Ahead of a turn: n were let in up to the round r. -/
structure RInv (k : Chan) (g : Gte) (r : Int) (n i : Nat) : Prop where
  f_k : g.k = k
  f_ms : g.ms = []
  f_seq : g.seq = n
  f_rate : g.b.rate = k.rate
  f_cap : g.b.cap = k.cap
  f_tok : 0 ≤ g.b.tokens ∧ g.b.tokens ≤ k.cap
  f_rd : 0 ≤ g.b.round ∧ g.b.round ≤ r
  f_r : r ≤ i
  f_n : n ≤ i
  f_sum : g.b.tokens + n ≤ k.cap + k.rate * g.b.round
theorem RInv.start {k : Chan} (h : GoodK k) : RInv k ⟨k, [], newB k.rate k.cap, 0⟩ 0 0 0 := by
  have hc := h.cap
  have hr := h.rate
  have e : newB k.rate k.cap = ⟨k.rate, k.cap, k.cap, 0⟩ := by unfold newB; congr 1 <;> omega
  rw [e]
  exact ⟨rfl, rfl, rfl, rfl, rfl, by simp only; omega, by simp, by simp, by omega, by simp⟩
theorem RInv.step {k : Chan} (h : GoodK k) {g : Gte} {r d : Int} {n i : Nat} (hI : RInv k g r n i) (hi : i < 150) (hd : d = 0 ∨ d = 1) (now : Int) :
    ∃ g' m e, offerT g 0 0 [1] now (r + d) = (g', m, e) ∧ ((e = 0 ∧ g'.ms = [m] ∧ RInv k { g' with ms := [] } (r + d) (n + 1) (i + 1)) ∨ (e = 2 ∧ g'.ms = [] ∧ RInv k g' (r + d) n (i + 1))) := by
  obtain ⟨gk, gms, ⟨br, bc, bt, bd⟩, gs⟩ := g
  obtain ⟨h1, h2, h3, h4, h5, h6, h7, h8, h9, h10⟩ := hI
  simp only at h1 h2 h3 h4 h5 h6 h7 h10
  subst h1 h2 h3 h4 h5
  have hl := h.lanes
  have hdp := h.depth
  have hw := h.words
  have hc := h.cap
  have hr := h.rate
  have hj : judgeT gk 0 0 [1] = 0 := by
    rw [judge_words h.kind (by omega) (by omega) (by simp) (by simp; omega)]
    rfl
  have hrm : roomT (lnT gk.lanes) (plT gk.depth) [] 0 ≠ 0 := by
    have e1 : lnT gk.lanes = gk.lanes := by unfold lnT; omega
    have e2 : plT gk.depth = gk.depth := by unfold plT; omega
    rw [e1, e2]
    unfold roomT isT
    rw [if_pos (by simp; omega)]
    simp [ofM]; omega
  have hs : subT (r + d) bd = r + d - bd := by unfold subT cutT; omega
  have hm : mulT gk.rate (r + d - bd) = gk.rate * (r + d - bd) := by
    have hp : 0 ≤ gk.rate * (r + d - bd) ∧ gk.rate * (r + d - bd) ≤ 4 * 200 := ⟨Int.mul_nonneg hr.1 (by omega), Int.mul_le_mul hr.2 (by omega) (by omega) (by omega)⟩
    unfold mulT
    rw [cutT_id hr.1 (by omega), cutT_id (n := r + d - bd) (by omega) (by omega)]
    omega
  have hp : 0 ≤ gk.rate * (r + d - bd) ∧ gk.rate * (r + d - bd) ≤ 4 * 200 := ⟨Int.mul_nonneg hr.1 (by omega), Int.mul_le_mul hr.2 (by omega) (by omega) (by omega)⟩
  have hmm : gk.rate * (r + d) = gk.rate * bd + gk.rate * (r + d - bd) := by rw [← Int.mul_add]; congr 1; omega
  have hcm : comeB ⟨gk.rate, gk.cap, bt, bd⟩ (r + d) = ⟨gk.rate, gk.cap, min (bt + gk.rate * (r + d - bd)) gk.cap, r + d⟩ := by
    unfold comeB
    simp only [hs, hm]
    congr 1
    · unfold addT cutT; omega
    · unfold addT cutT; omega
  by_cases ht : (comeB ⟨gk.rate, gk.cap, bt, bd⟩ (r + d)).tokens = 0
  · refine ⟨⟨gk, [], comeB ⟨gk.rate, gk.cap, bt, bd⟩ (r + d), n⟩, zeroMsg, 2, ?_, .inr ⟨rfl, rfl, ?_⟩⟩
    · unfold offerT; rw [if_neg (by simp [hj]), if_neg hrm, if_pos ht]
    · rw [hcm] at ht ⊢
      simp only at ht
      exact ⟨rfl, rfl, rfl, rfl, rfl, by simp only; omega, by simp only; omega, by omega, by omega, by simp only; omega⟩
  · refine ⟨_, _, _, by unfold offerT; rw [if_neg (by simp [hj]), if_neg hrm, if_neg ht], .inl ⟨rfl, rfl, ?_⟩⟩
    rw [hcm] at ht ⊢
    simp only at ht
    exact ⟨rfl, rfl, by simp, rfl, rfl, by simp only [useB]; omega, by simp only [useB]; omega, by omega, by omega, by simp only [useB]; omega⟩
theorem RInv.most {k : Chan} (h : GoodK k) {g : Gte} {r : Int} {n i : Nat} (hI : RInv k g r n i) (hr0 : 0 ≤ r) (hi : i ≤ 150) : decide (addT (newB k.rate k.cap).cap ((newB k.rate k.cap).rate * r) < (n : Int)) = false := by
  have hc := h.cap
  have hr := h.rate
  have e : newB k.rate k.cap = ⟨k.rate, k.cap, k.cap, 0⟩ := by unfold newB; congr 1 <;> omega
  rw [e]
  simp only
  have h1 := hI.f_r
  have h2 := hI.f_sum
  have h3 := hI.f_rd
  have h4 := hI.f_tok
  have hp : 0 ≤ k.rate * r ∧ k.rate * r ≤ 4 * 200 := ⟨Int.mul_nonneg hr.1 (by omega), Int.mul_le_mul hr.2 (by omega) (by omega) (by omega)⟩
  have hmm : k.rate * g.b.round ≤ k.rate * r := Int.mul_le_mul_of_nonneg_left h3.2 hr.1
  exact decide_eq_false (by unfold addT cutT; omega)
theorem cut2 {x r : Int} (h : 0 ≤ r ∧ r ≤ 150) : ∃ d, (d = 0 ∨ d = 1) ∧ wrap64 (r + wrap64 ((IntKind.u64.wrap x).tmod 2)) = r + d := by
  refine ⟨(x % 18446744073709551616) % 2, by omega, ?_⟩
  rw [IntKind.wrap_u64, Int.tmod_eq_emod_of_nonneg (by omega)]; unfold wrap64; omega
set_option maxHeartbeats 4000000 in
set_option maxRecDepth 100000 in
theorem grates_c {w : World} (k : Chan) {a : Option Addr} {c : Nat} {xs : List Int} (hx0 : IntsAt (fun b => b < w.heap.size) w (.slice a xs.length c) xs) : Calls Try.prog 6 #[aggC k, .slice a xs.length c] w (LivesPost w) := by
  have hxl := hx0.get.2.2.1
  have hx0 := hid hx0
  have hb0 := hid ((Below.refl w.heap.size w).alloc (Nat.le_refl _) (.cells #[.int .i64 k.kind, .int .i64 k.frm, .int .i64 k.to, .int .i64 k.words, .int .i64 k.refresh, .int .i64 k.lanes, .int .i64 k.depth, .int .i64 k.hold, .int .i64 k.life, .int .i64 k.rate, .int .i64 k.cap] 23))
  have hK0 := hid (pts.newA w #[.int .i64 k.kind, .int .i64 k.frm, .int .i64 k.to, .int .i64 k.words, .int .i64 k.refresh, .int .i64 k.lanes, .int .i64 k.depth, .int .i64 k.hold, .int .i64 k.life, .int .i64 k.rate, .int .i64 k.cap] 23)
  have hok := hid (goodK_ok k)
  have hgd := hid (fun w => good_c w k)
  generalize goodK k = kg at hok hgd
  obtain ⟨sb, hsb⟩ : ∃ sb, sb = w.heap.size := ⟨_, rfl⟩
  unfold aggC at *
  go_enter Try.func6, Try.ntmps6
  go_upto_region 3 with (first | (go_at_call 10; (with_reducible refine (lives_c _).mono ?_); rintro e W1 ⟨rfl, hb⟩; have hK1 := hid (hK0.out.below hb); have hB1 := hid (Below.next hb0.out hb hb0.out.size); have hL1 := hid (Nat.le_trans hb0.out.size hb.size); clear hb))
  rw [← hsb] at hK1 ⊢
  replace hsb := hid hsb
  have y0 := (hK1.out).cell 0
  have y1 := (hK1.out).cell 1
  have y2 := (hK1.out).cell 2
  have y3 := (hK1.out).cell 3
  have y4 := (hK1.out).cell 4
  have y5 := (hK1.out).cell 5
  have y6 := (hK1.out).cell 6
  have y7 := (hK1.out).cell 7
  have y8 := (hK1.out).cell 8
  have y9 := (hK1.out).cell 9
  have y10 := (hK1.out).cell 10
  have yl := (hK1.out).lt
  have yf := fun o => (hK1.out).frozen o
  simp only [List.getElem?_cons_zero, List.getElem?_cons_succ] at y0 y1 y2 y3 y4 y5 y6 y7 y8 y9 y10
  go_upto_region 4 with (first | (go_at_call 11; (with_reducible refine (hgd.out _).mono ?_); rintro e W2 ⟨rfl, hb⟩; have hK2 := hid (hK1.out.below hb); have hB2 := hid (Below.next hB1.out hb hL1.out); have hL2 := hid (Nat.le_trans hL1.out hb.size); clear hb; have x0 := (hK2.out).cell 0; have x1 := (hK2.out).cell 1; have x2 := (hK2.out).cell 2; have x3 := (hK2.out).cell 3; have x4 := (hK2.out).cell 4; have x5 := (hK2.out).cell 5; have x6 := (hK2.out).cell 6; have x7 := (hK2.out).cell 7; have x8 := (hK2.out).cell 8; have x9 := (hK2.out).cell 9; have x10 := (hK2.out).cell 10; have xl := (hK2.out).lt; have xf := fun o => (hK2.out).frozen o; simp only [List.getElem?_cons_zero, List.getElem?_cons_succ] at x0 x1 x2 x3 x4 x5 x6 x7 x8 x9 x10))
  clear y0 y1 y2 y3 y4 y5 y6 y7 y8 y9 y10 yl yf
  have hsw : w.heap.size ≤ sb := by have := hsb.out; omega
  have hset := (((((((((((hK2.out.set 0 (.int .i64 kg.kind)).set 1 (.int .i64 kg.frm)).set 2 (.int .i64 kg.to)).set 3 (.int .i64 kg.words)).set 4 (.int .i64 kg.refresh)).set 5 (.int .i64 kg.lanes)).set 6 (.int .i64 kg.depth)).set 7 (.int .i64 kg.hold)).set 8 (.int .i64 kg.life)).set 9 (.int .i64 kg.rate)).set 10 (.int .i64 kg.cap))
  simp only [List.set_cons_zero, List.set_cons_succ] at hset
  have hbs := (Below.setCell (p := ⟨sb, 10, none⟩) (Below.setCell (p := ⟨sb, 9, none⟩) (Below.setCell (p := ⟨sb, 8, none⟩) (Below.setCell (p := ⟨sb, 7, none⟩) (Below.setCell (p := ⟨sb, 6, none⟩) (Below.setCell (p := ⟨sb, 5, none⟩) (Below.setCell (p := ⟨sb, 4, none⟩) (Below.setCell (p := ⟨sb, 3, none⟩) (Below.setCell (p := ⟨sb, 2, none⟩) (Below.setCell (p := ⟨sb, 1, none⟩) (Below.setCell (p := ⟨sb, 0, none⟩) hB2.out hsw (.int .i64 kg.kind)) hsw (.int .i64 kg.frm)) hsw (.int .i64 kg.to)) hsw (.int .i64 kg.words)) hsw (.int .i64 kg.refresh)) hsw (.int .i64 kg.lanes)) hsw (.int .i64 kg.depth)) hsw (.int .i64 kg.hold)) hsw (.int .i64 kg.life)) hsw (.int .i64 kg.rate)) hsw (.int .i64 kg.cap))
  have hK3 := hid hset
  have hB3 := hid hbs
  have hL3 := hid (show w.heap.size ≤ ((((((((((((W2.setCell ⟨sb, 0, none⟩ (.int .i64 kg.kind)).setCell ⟨sb, 1, none⟩ (.int .i64 kg.frm)).setCell ⟨sb, 2, none⟩ (.int .i64 kg.to)).setCell ⟨sb, 3, none⟩ (.int .i64 kg.words)).setCell ⟨sb, 4, none⟩ (.int .i64 kg.refresh)).setCell ⟨sb, 5, none⟩ (.int .i64 kg.lanes)).setCell ⟨sb, 6, none⟩ (.int .i64 kg.depth)).setCell ⟨sb, 7, none⟩ (.int .i64 kg.hold)).setCell ⟨sb, 8, none⟩ (.int .i64 kg.life)).setCell ⟨sb, 9, none⟩ (.int .i64 kg.rate)).setCell ⟨sb, 10, none⟩ (.int .i64 kg.cap))).heap.size by simpa using hL2.out)
  generalize (((((((((((W2.setCell ⟨sb, 0, none⟩ (.int .i64 kg.kind)).setCell ⟨sb, 1, none⟩ (.int .i64 kg.frm)).setCell ⟨sb, 2, none⟩ (.int .i64 kg.to)).setCell ⟨sb, 3, none⟩ (.int .i64 kg.words)).setCell ⟨sb, 4, none⟩ (.int .i64 kg.refresh)).setCell ⟨sb, 5, none⟩ (.int .i64 kg.lanes)).setCell ⟨sb, 6, none⟩ (.int .i64 kg.depth)).setCell ⟨sb, 7, none⟩ (.int .i64 kg.hold)).setCell ⟨sb, 8, none⟩ (.int .i64 kg.life)).setCell ⟨sb, 9, none⟩ (.int .i64 kg.rate)).setCell ⟨sb, 10, none⟩ (.int .i64 kg.cap)) = W3 at hset hbs hK3 hB3 hL3 ⊢
  clear hset hbs hK1 hB1 hL1 hK2 hB2 hL2 hK0 hb0 hgd
  clear x0 x1 x2 x3 x4 x5 x6 x7 x8 x9 x10 xl xf
  clear hsw
  have x0 := (hK3.out).cell 0
  have x1 := (hK3.out).cell 1
  have x2 := (hK3.out).cell 2
  have x3 := (hK3.out).cell 3
  have x4 := (hK3.out).cell 4
  have x5 := (hK3.out).cell 5
  have x6 := (hK3.out).cell 6
  have x7 := (hK3.out).cell 7
  have x8 := (hK3.out).cell 8
  have x9 := (hK3.out).cell 9
  have x10 := (hK3.out).cell 10
  have xl := (hK3.out).lt
  have xf := fun o => (hK3.out).frozen o
  simp only [List.getElem?_cons_zero, List.getElem?_cons_succ] at x0 x1 x2 x3 x4 x5 x6 x7 x8 x9 x10
  have hnw := hid (gnew_c W3 kg)
  unfold aggC at hnw
  go_upto_region 5 with (first | (go_at_call 15; (with_reducible refine (hnw.out).mono ?_); rintro e w4 ⟨gb, rfl, hG, hb⟩; have hG4 := hid hG; have hW4 := hid (show Wd W3.heap.size W3 w4 (fun b => W3.heap.size ≤ b ∧ b < w4.heap.size) from ⟨hb, fun b h => h.1, fun b h => h.2, hb.size⟩); clear hG hb; generalize (fun b => W3.heap.size ≤ b ∧ b < w4.heap.size) = M4 at hG4 hW4))
  clear x0 x1 x2 x3 x4 x5 x6 x7 x8 x9 x10 xl xf
  have hI0 := hid (RInv.start hok.out)
  go_wp2
  go_loopg [8, 6, 7, 9, 10] 150 (fun gg si sr sn s9 s10 wr => ∃ (i n : Nat) (r : Int) (g : Gte) (M : Nat → Prop), i ≤ 150 ∧ gg = 150 - i ∧ si = .int .i64 i ∧ sr = .int .i64 r ∧ sn = .int .i64 n ∧ 0 ≤ r ∧ RInv kg g r n i ∧ GateM wr M gb g ∧ Wd W3.heap.size W3 wr M)
  case atStart => exact ⟨0, 0, 0, _, M4, by omega, rfl, rfl, rfl, rfl, by omega, hI0.out, hG4.out, hW4.out⟩
  case round =>
    clear hI0 hG4 hW4 hnw
    obtain ⟨i, n, r, g, M, hi, hgg, rfl, rfl, rfl, hr0, hI, hG, hW⟩ := hrel
    have hBw := hid (hB3.out.trans (hW.below.mono hL3.out))
    have hLw := hid (show w.heap.size ≤ wr.heap.size from Nat.le_trans hL3.out hW.le)
    have hend := hid (show LivesPost w (.returned (.bool true)) wr from ⟨rfl, hBw.out⟩)
    by_cases hlt : i < xs.length
    · by_cases h150 : i < 150
      · obtain ⟨-, -, -, hget⟩ := (hx0.out.below hBw.out).get
        obtain ⟨xg, xo, rfl, -, xl, xc⟩ := hget i hlt
        clear hget
        have d1 : decide ((i : Int) < xs.length) = true := decide_eq_true (by omega)
        have d2 : decide ((i : Int) < 150) = true := decide_eq_true (by omega)
        obtain ⟨d, hd, ed⟩ := cut2 (x := xs[i]) (r := r) ⟨hr0, by have := hI.f_r; omega⟩
        obtain ⟨g', m, e0, hof, hcase⟩ := hI.step hok.out h150 hd (i : Int)
        have hrd : 0 ≤ r + d := by omega
        have hGw := hid hG
        have hWw := hid hW
        have hofl := hid (show Calls Try.prog 16 #[.pointer (some ⟨gb, 0, none⟩), .int .i64 0, .int .i64 0, .slice (some ⟨wr.heap.size, 0, none⟩) 1 1, .int .i64 i, .int .i64 (r + d)] (wr.alloc (.cells #[.int .i64 1] 3)) (OfferPost wr M gb (g', m, e0)) from by
          have := offerLit hG 1 0 0 (i : Int) (r + d) (by rw [hI.f_seq]; have := hI.f_n; omega) rfl
          rw [hof] at this; exact this)
        clear hG hW hof
        go_upto_region 10 with fail
        rw [ed]
        replace ed := hid ed
        clear d1 d2
        go_upto_region 11 with (first | (go_at_call 16; (with_reducible refine (hofl.out).mono ?_); rintro e w5 ⟨a5, c5, rfl, -, hG, hC⟩; have hb5 := (Below.refl w5.heap.size w5).alloc (Nat.le_refl _) (.cells #[.slice a5 m.words.length c5, .int .i64 m.lane, .int .i64 m.stamp, .int .i64 m.late, .int .i64 m.seq] 37); have hG5 := hid (hG.below hb5); have hW5 := hid ((hWw.out.chg hC).next hb5); clear hG hC hb5))
        generalize w5.alloc (.cells #[.slice a5 m.words.length c5, .int .i64 m.lane, .int .i64 m.stamp, .int .i64 m.late, .int .i64 m.seq] 37) = w6 at hG5 hW5 ⊢
        generalize grow M wr w5 = M5 at hG5 hW5
        rcases hcase with ⟨rfl, hms, hI2⟩ | ⟨rfl, hms, hI2⟩
        · have hI3 : RInv kg { g' with ms := [] } (r + d) (n + 1) (i + 1) := hI2
          have hn1 : wrap64 ((n : Int) + 1) = ((n + 1 : Nat) : Int) := by have := hI.f_n; unfold wrap64; omega
          replace hn1 := hid hn1
          have htl : (sortM g'.ms).tail = [] := by rw [hms]; rfl
          have hmo := hid (RInv.most hok.out hI3 hrd (by omega))
          have hsq := hid (show ({ g' with ms := [] } : Gte).seq = ((n + 1 : Nat) : Int) from hI3.f_seq)
          have hmc := hid (fun u => most_c u kg.rate kg.cap (n := r + d) ⟨hrd, by have := hI3.f_r; omega⟩)
          have hI4 := hid hI3
          have htk := hid (show Calls Try.prog 24 #[.pointer (some ⟨gb, 0, none⟩)] w6 fun e w' => HandAny M5 (sortM g'.ms) e w' ∧ GateM w' (grow M5 w6 w') gb { g' with ms := [] } ∧ Chg M5 w6 w' from by have := gtake_c hG5.out; unfold GHand at this; rw [htl] at this; exact this)
          clear hI3 hI2 hI htl
          unfold HandAny at htk
          generalize (!(sortM g'.ms).isEmpty) = bo at htk
          generalize hdM (sortM g'.ms) = m7 at htk
          go_upto_region 14 with (first | (go_at_call 24; (with_reducible refine (htk.out).mono ?_); rintro e w7 ⟨⟨a7, c7, rfl, -⟩, hG, hC⟩; have hG7 := hid hG; have hW7 := hid (hW5.out.chg hC); have hK7 := hid (hK3.out.below hW7.out.below); clear hG hC))
          rw [hn1.out]
          have x9 := hK7.out.cell 9
          have x10 := hK7.out.cell 10
          simp only [List.getElem?_cons_zero, List.getElem?_cons_succ] at x9 x10
          go_wp2_with (first | (go_at_call 25; (with_reducible refine (hmc.out _).mono ?_); rintro e w8 ⟨rfl, hb⟩; have hG8 := hid (hG7.out.below hb); have hW8 := hid (hW7.out.next hb); have hmo2 : decide (addT (newB kg.rate kg.cap).cap ((newB kg.rate kg.cap).rate * (r + d)) < (n : Int) + 1) = false := hmo.out; clear hb) | (go_at_call 26; (with_reducible refine (gseq_c hG8.out).mono ?_); rw [hsq.out]; rintro e w' ⟨rfl, rfl⟩) | (go_at_call 18; (with_reducible refine (glen_c hG8.out).mono ?_); simp only [List.length_nil]; rintro e w' ⟨rfl, rfl⟩))
          go_roundg (150 - (i + 1))
          case rel => exact ⟨i + 1, n + 1, r + d, _, _, by omega, rfl, by go_num, rfl, rfl, by omega, hI4.out, hG8.out, hW8.out⟩
          case measure => omega
        · have hI3 : RInv kg { g' with ms := [] } (r + d) n (i + 1) := by
            obtain ⟨gk, gms, gbk, gsq⟩ := g'
            simp only at hms
            subst hms
            exact hI2
          have htl : (sortM g'.ms).tail = [] := by rw [hms]; rfl
          have hmo := hid (RInv.most hok.out hI3 hrd (by omega))
          have hsq := hid (show ({ g' with ms := [] } : Gte).seq = ((n : Nat) : Int) from hI3.f_seq)
          have hmc := hid (fun u => most_c u kg.rate kg.cap (n := r + d) ⟨hrd, by have := hI3.f_r; omega⟩)
          have hI4 := hid hI3
          have htk := hid (show Calls Try.prog 24 #[.pointer (some ⟨gb, 0, none⟩)] w6 fun e w' => HandAny M5 (sortM g'.ms) e w' ∧ GateM w' (grow M5 w6 w') gb { g' with ms := [] } ∧ Chg M5 w6 w' from by have := gtake_c hG5.out; unfold GHand at this; rw [htl] at this; exact this)
          clear hI3 hI2 hI htl
          unfold HandAny at htk
          generalize (!(sortM g'.ms).isEmpty) = bo at htk
          generalize hdM (sortM g'.ms) = m7 at htk
          go_upto_region 14 with (first | (go_at_call 24; (with_reducible refine (htk.out).mono ?_); rintro e w7 ⟨⟨a7, c7, rfl, -⟩, hG, hC⟩; have hG7 := hid hG; have hW7 := hid (hW5.out.chg hC); have hK7 := hid (hK3.out.below hW7.out.below); clear hG hC))
          have x9 := hK7.out.cell 9
          have x10 := hK7.out.cell 10
          simp only [List.getElem?_cons_zero, List.getElem?_cons_succ] at x9 x10
          go_wp2_with (first | (go_at_call 25; (with_reducible refine (hmc.out _).mono ?_); rintro e w8 ⟨rfl, hb⟩; have hG8 := hid (hG7.out.below hb); have hW8 := hid (hW7.out.next hb); have hmo2 := hmo.out; clear hb) | (go_at_call 26; (with_reducible refine (gseq_c hG8.out).mono ?_); rw [hsq.out]; rintro e w' ⟨rfl, rfl⟩) | (go_at_call 18; (with_reducible refine (glen_c hG8.out).mono ?_); simp only [List.length_nil]; rintro e w' ⟨rfl, rfl⟩))
          go_roundg (150 - (i + 1))
          case rel => exact ⟨i + 1, n, r + d, _, _, by omega, rfl, by go_num, rfl, rfl, by omega, hI4.out, hG8.out, hW8.out⟩
          case measure => omega
      · have d1 : decide ((i : Int) < xs.length) = true := decide_eq_true (by omega)
        have d2 : decide ((i : Int) < 150) = false := decide_eq_false (by omega)
        clear hI hG hW
        go_wp2
        go_ret
        exact hend.out
    · have d1 : decide ((i : Int) < xs.length) = false := decide_eq_false (by omega)
      clear hI hG hW
      go_wp2
      go_ret
      exact hend.out
end Go.Proofs.Ytealopempjempaa.Gt
