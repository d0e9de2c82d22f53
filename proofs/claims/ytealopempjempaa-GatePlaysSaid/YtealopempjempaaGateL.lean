/- DERIVED. A gate that isn't there; the small helpers of the statements on gates: plain, the document's example. No statement is proved here. -/
import Derived.Test.YtealopempjempaaGateX
import Derived.Test.YtealopempjempaaLaneH
namespace Go.Proofs.Ytealopempjempaa.Gt
set_option linter.unusedVariables false
set_option linter.unusedSimpArgs false
open Go.RowKit Go.Proofs.Ytealopempjempaa.K Go.Proofs.Ytealopempjempaa.Lb Go.Proofs.Ytealopempjempaa.La Go.Proofs.Ytealopempjempaa.Cf
theorem gsweep_nil (w : World) (now : Int) : Calls Try.prog 17 #[.pointer none, .int .i64 now] w fun e w' => e = .returned (.slice none 0 0) ∧ Below w.heap.size w w' := by
  go_enter Try.func17, Try.ntmps17
  go_wp2_with (first | (go_at_call 45; (with_reducible refine (lanes_nil _).mono ?_); rintro e w' ⟨rfl, rfl⟩) | (go_at_call 46; (with_reducible refine (La.sweep_nil _ _).mono ?_); rintro e w1 ⟨rfl, hb⟩))
  go_ret
  exact ⟨rfl, hb⟩
theorem gflush_nil (w : World) : Calls Try.prog 32 #[.pointer none] w fun e w' => e = .returned (.slice none 0 0) ∧ w = w' := by
  go_enter Try.func32, Try.ntmps32
  go_wp2_with (first | (go_at_call 45; (with_reducible refine (lanes_nil _).mono ?_); rintro e w' ⟨rfl, rfl⟩) | (go_at_call 61; (with_reducible refine (La.flush_nil _).mono ?_); rintro e w' ⟨rfl, rfl⟩))
  go_ret
  exact ⟨rfl, rfl⟩
theorem gall_nil (w : World) : Calls Try.prog 21 #[.pointer none] w fun e w' => e = .returned (.slice none 0 0) ∧ w = w' := by
  go_enter Try.func21, Try.ntmps21
  go_wp2_with (first | (go_at_call 45; (with_reducible refine (lanes_nil _).mono ?_); rintro e w' ⟨rfl, rfl⟩) | (go_at_call 49; (with_reducible refine (La.all_nil _).mono ?_); rintro e w' ⟨rfl, rfl⟩))
  go_ret
  exact ⟨rfl, rfl⟩
theorem glen_nil (w : World) : Calls Try.prog 18 #[.pointer none] w fun e w' => e = .returned (.int .i64 0) ∧ w = w' := by
  go_enter Try.func18, Try.ntmps18
  go_wp2_with (first | (go_at_call 45; (with_reducible refine (lanes_nil _).mono ?_); rintro e w' ⟨rfl, rfl⟩) | (go_at_call 47; (with_reducible refine (La.len_nil _).mono ?_); rintro e w' ⟨rfl, rfl⟩))
  go_ret
  exact ⟨rfl, rfl⟩
theorem gtokens_nil (w : World) (r : Int) : Calls Try.prog 22 #[.pointer none, .int .i64 r] w fun e w' => e = .returned (.int .i64 0) ∧ w = w' := by
  go_enter Try.func22, Try.ntmps22
  go_wp2
  go_ret
  exact ⟨rfl, rfl⟩
theorem gseq_nil (w : World) : Calls Try.prog 26 #[.pointer none] w fun e w' => e = .returned (.int .i64 0) ∧ w = w' := by
  go_enter Try.func26, Try.ntmps26
  go_wp2
  go_ret
  exact ⟨rfl, rfl⟩
set_option maxHeartbeats 1000000 in
theorem gtake_nil (w : World) : Calls Try.prog 24 #[.pointer none] w fun e w' => e = .returned (.tuple #[.agg #[.slice none 0 0, .int .i64 0, .int .i64 0, .int .i64 0, .int .i64 0], .bool false]) ∧ Below w.heap.size w w' := by
  have hb0 := hid ((Below.refl w.heap.size w).alloc (Nat.le_refl _) (.cells #[.slice none 0 0, .int .i64 0, .int .i64 0, .int .i64 0, .int .i64 0] 37))
  have hz := hid (zeroBox w)
  go_enter Try.func24, Try.ntmps24
  go_wp2_with (first | (go_at_call 45; (with_reducible refine (lanes_nil _).mono ?_); rintro e w' ⟨rfl, rfl⟩) | (go_at_call 51; (with_reducible refine (La.take_nilR _).mono ?_); rintro e w1 ⟨rfl, hb⟩; have hz1 := hz.out.below hb; have hb1 := hid (Below.next hb0.out hb (by simp)); have y0 := hz1.cell 0; have y1 := hz1.cell 1; have y2 := hz1.cell 2; have y3 := hz1.cell 3; have y4 := hz1.cell 4; have yl := hz1.lt; have yf := fun o => hz1.frozen o; simp only [List.getElem?_cons_zero, List.getElem?_cons_succ] at y0 y1 y2 y3 y4; clear hz1 hb))
  refine bodyPost_ret (v := .tuple #[.agg #[.slice none 0 0, .int .i64 0, .int .i64 0, .int .i64 0, .int .i64 0], .bool false]) (by simp [results, Try.results24, go_sem, y0, y1, y2, y3, y4, yl]) rfl ⟨rfl, ?_⟩
  exact ((((hb1.out.setCell (Nat.le_refl _) _).setCell (Nat.le_refl _) _).setCell (Nat.le_refl _) _).setCell (Nat.le_refl _) _).setCell (Nat.le_refl _) _
set_option maxHeartbeats 2000000 in
theorem offer_nil (w : World) (mode lane now round : Int) (a : Option Addr) (n c : Nat) : Calls Try.prog 16 #[.pointer none, .int .i64 mode, .int .i64 lane, .slice a n c, .int .i64 now, .int .i64 round] w fun e w' => e = .returned (.tuple #[.agg #[.slice none 0 0, .int .i64 0, .int .i64 0, .int .i64 0, .int .i64 0], .int .i64 4]) ∧ Below w.heap.size w w' := by
  have hb0 := hid ((Below.refl w.heap.size w).alloc (Nat.le_refl _) (.cells #[.slice none 0 0, .int .i64 0, .int .i64 0, .int .i64 0, .int .i64 0] 37))
  have hz := hid (zeroBox w)
  have y0 := hz.out.cell 0
  have y1 := hz.out.cell 1
  have y2 := hz.out.cell 2
  have y3 := hz.out.cell 3
  have y4 := hz.out.cell 4
  have yl := hz.out.lt
  have yf := fun o => hz.out.frozen o
  simp only [List.getElem?_cons_zero, List.getElem?_cons_succ] at y0 y1 y2 y3 y4
  go_enter Try.func16, Try.ntmps16
  go_wp2
  refine bodyPost_ret (v := .tuple #[.agg #[.slice none 0 0, .int .i64 0, .int .i64 0, .int .i64 0, .int .i64 0], .int .i64 4]) (by simp [results, Try.results16, go_sem, y0, y1, y2, y3, y4, yl]) rfl ⟨rfl, ?_⟩
  exact (Below.refl w.heap.size w).alloc (Nat.le_refl _) _
def plainK : Chan := ⟨1, 0, 1, 1, 0, 1, 1, 1, 5, 0, 9⟩
theorem plain_c (w : World) : Calls Try.prog 33 #[] w fun e w' => e = .returned (aggC plainK) ∧ Below w.heap.size w w' := by
  have hb0 := hid ((Below.refl w.heap.size w).alloc (Nat.le_refl _) (.cells #[.int .i64 0, .int .i64 0, .int .i64 0, .int .i64 0, .int .i64 0, .int .i64 0, .int .i64 0, .int .i64 0, .int .i64 0, .int .i64 0, .int .i64 0] 23))
  go_enter Try.func33, Try.ntmps33
  go_wp2
  have hp := pts.newA w #[.int .i64 1, .int .i64 0, .int .i64 1, .int .i64 1, .int .i64 0, .int .i64 1, .int .i64 1, .int .i64 1, .int .i64 5, .int .i64 0, .int .i64 9] 23
  refine bodyPost_ret (v := aggC plainK) (by simp [results, Try.results33, go_sem, aggC, plainK]) rfl ⟨rfl, (Below.refl w.heap.size w).alloc (Nat.le_refl _) _⟩
section
variable {w w' : World} {M : Nat → Prop} {gb : Nat} {g : Gte}
theorem offerLit (h : GateM w M gb g) (x mode lane now round : Int) (hs : g.seq < 1000000) {n : Nat} (hn : n = w.heap.size) : Calls Try.prog 16 #[.pointer (some ⟨gb, 0, none⟩), .int .i64 mode, .int .i64 lane, .slice (some ⟨n, 0, none⟩) 1 1, .int .i64 now, .int .i64 round] (w.alloc (.cells #[.int .i64 x] 3)) (OfferPost w M gb (offerT g mode lane [x] now round)) := by
  subst hn
  have hb := (Below.refl w.heap.size w).alloc (Nat.le_refl _) (.cells #[.int .i64 x] 3)
  have hi : IntsAt (fun b => ¬ M b ∧ b < (w.alloc (.cells #[.int .i64 x] 3)).heap.size) (w.alloc (.cells #[.int .i64 x] 3)) (.slice (some ⟨w.heap.size, 0, none⟩) 1 1) [x] :=
    by
      refine IntsAt.of_pts (xs := [x]) (cap := 1) (ex := []) (pts.newA w #[.int .i64 x] 3) ?_ (by simp) (by unfold maxLen; omega)
      exact ⟨fun hm => by have := h.lt _ hm; omega, by simp⟩
  refine (offer_c (h.below hb) hi (by simp) hs mode lane now round).mono ?_
  rintro e w' ⟨a, c, h1, h2, h3, h4⟩
  refine ⟨a, c, h1, h2.mono (fun b hb' _ => Nat.le_trans hb.size hb'), ?_, (Chg.of_below hb).trans h4 (fun i hi => .inl hi)⟩
  obtain ⟨lb, bb, ML, k1, k2, k3⟩ := h3
  exact ⟨lb, bb, ML, k1, fun b hb' => (k2 b hb').imp id (fun hh => ⟨Nat.le_trans hb.size hh.1, hh.2⟩), fun b hb' => by
    rcases hb' with hb' | hb'
    · exact Nat.lt_of_lt_of_le (h.lt b hb') (Nat.le_trans hb.size h4.size)
    · exact hb'.2⟩
theorem offerLitS (h : GateM w M gb g) (x mode lane now round : Int) (hs : g.seq < 1000000) {n : Nat} (hn : n = w.heap.size) : Calls Try.prog 16 #[.pointer (some ⟨gb, 0, none⟩), .int .i64 mode, .int .i64 lane, .slice (some ⟨n, 0, none⟩) 1 1, .int .i64 now, .int .i64 round] (w.alloc (.cells #[.int .i64 x] 3)) (OfferPostS w M gb (offerT g mode lane [x] now round)) := by
  subst hn
  have hb := (Below.refl w.heap.size w).alloc (Nat.le_refl _) (.cells #[.int .i64 x] 3)
  have hi : IntsAt (fun b => ¬ M b ∧ b < (w.alloc (.cells #[.int .i64 x] 3)).heap.size) (w.alloc (.cells #[.int .i64 x] 3)) (.slice (some ⟨w.heap.size, 0, none⟩) 1 1) [x] :=
    by
      refine IntsAt.of_pts (xs := [x]) (cap := 1) (ex := []) (pts.newA w #[.int .i64 x] 3) ?_ (by simp) (by unfold maxLen; omega)
      exact ⟨fun hm => by have := h.lt _ hm; omega, by simp⟩
  refine (offerS_c (h.below hb) hi (by simp) hs mode lane now round).mono ?_
  rintro e w' ⟨a, c, M', h1, h2, h3, h4, h5⟩
  exact ⟨a, c, M', h1, h2.mono (fun b hb' _ => ⟨Nat.le_trans hb.size hb'.1, hb'.2⟩), h3, fun b hb' => (h4 b hb').imp id (fun hh => ⟨Nat.le_trans hb.size hh.1, hh.2⟩), (Chg.of_below hb).trans h5 (fun i hi => .inl hi)⟩
end
def g1L : Gte := ⟨plainK, [⟨[7], 0, 3, 8, 1⟩], ⟨0, 9, 8, 0⟩, 1⟩
theorem gl1 : offerT ⟨plainK, [], newB plainK.rate plainK.cap, 0⟩ 0 0 [7] 3 0 = (g1L, ⟨[7], 0, 3, 8, 1⟩, 0) := by rfl
theorem gl2 : offerT g1L 0 0 [8] 3 0 = (g1L, zeroMsg, 2) := by rfl
theorem gl3 : (comeB g1L.b 0).tokens = 8 := by rfl
set_option maxHeartbeats 4000000 in
theorem lives_c (w : World) : Calls Try.prog 10 #[] w (LivesPost w) := by
  go_enter Try.func10, Try.ntmps10
  go_upto_region 2 with (first | (go_at_call 33; (with_reducible refine (plain_c _).mono ?_); rintro e w1 ⟨rfl, hb⟩; have hb1 := hid hb; clear hb) | (go_at_call 15; (with_reducible refine (gnew_c _ plainK).mono ?_); rintro e w2 ⟨gb, rfl, hG, hb⟩; have hG2 := hid hG; have hW2 := hid (show Wd w.heap.size w w2 (fun b => w1.heap.size ≤ b ∧ b < w2.heap.size) from ⟨Below.next hb1.out hb hb1.out.size, fun b h => Nat.le_trans hb1.out.size h.1, fun b h => h.2, Nat.le_trans hb1.out.size hb.size⟩); clear hG hb; generalize (fun b => w1.heap.size ≤ b ∧ b < w2.heap.size) = M2 at hG2 hW2))
  go_upto_region 3 with (first | (go_at_call 16; (with_reducible refine (offerLit hG2.out 7 0 0 3 0 (by decide) rfl).mono ?_); rw [gl1]; rintro e w3 ⟨a3, c3, rfl, -, hG, hC⟩; simp only [List.length_singleton] at hG ⊢; have hb3 := (Below.refl w3.heap.size w3).alloc (Nat.le_refl _) (.cells #[.slice a3 1 c3, .int .i64 0, .int .i64 3, .int .i64 8, .int .i64 1] 37); have hp3 := hid (pts.newA w3 #[.slice a3 1 c3, .int .i64 0, .int .i64 3, .int .i64 8, .int .i64 1] 37); have hG3 := hid (hG.below hb3); have hW3 := hid ((hW2.out.chg hC).next hb3); have hq3 := hid (fun h => hG.lt w3.heap.size h); clear hG hC hb3; generalize grow M2 w2 w3 = M3 at hG3 hW3 hq3))
  go_upto_region 4 with (first | (go_at_call 16; (with_reducible refine (offerLit hG3.out 8 0 0 3 0 (by decide) (by simp)).mono ?_); rw [gl2]; rintro e w4 ⟨a4, c4, rfl, -, hG, hC⟩; simp only [zeroMsg, List.length_nil] at hG ⊢; have hb4 := (Below.refl w4.heap.size w4).alloc (Nat.le_refl _) (.cells #[.slice a4 0 c4, .int .i64 0, .int .i64 0, .int .i64 0, .int .i64 0] 37); have hp4 := hid ((hp3.out.chg hC (fun hm => by have := hq3.out hm; omega)).below hb4); have hG4 := hid (hG.below hb4); have hW4 := hid ((hW3.out.chg hC).next hb4); clear hG hC hb4))
  have y3 := hp4.out.cell 3
  have y4 := hp4.out.cell 4
  have yl := hp4.out.lt
  simp only [List.getElem?_cons_zero, List.getElem?_cons_succ] at y3 y4
  go_wp2_with (first | (go_at_call 18; (with_reducible refine (glen_c hG4.out).mono ?_); rintro e w' ⟨rfl, rfl⟩) | (go_at_call 22; (with_reducible refine (gtokens_c hG4.out 0).mono ?_); rintro e w5 ⟨rfl, hG, hC⟩; rw [gl3]; have hW5 := hid (hW4.out.chg hC); clear hG hC))
  go_ret
  exact ⟨rfl, hW5.out.below⟩
end Go.Proofs.Ytealopempjempaa.Gt
