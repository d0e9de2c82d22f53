/- DERIVED. A gate that isn't there; the small helpers of the statements on gates: plain, the document's example. No statement is proved here. -/
import Derived.Test.YtggfallodkbgcaaGateX
import Derived.Test.YtggfallodkbgcaaLaneH
namespace Go.Proofs.Ytggfallodkbgcaa.Gt
set_option linter.unusedVariables false
set_option linter.unusedSimpArgs false
open Go.RowKit Go.Proofs.Ytggfallodkbgcaa.K Go.Proofs.Ytggfallodkbgcaa.Lb Go.Proofs.Ytggfallodkbgcaa.La Go.Proofs.Ytggfallodkbgcaa.Cf
theorem gsweep_nil (w : World) (now : Int) : Calls Try.prog 36 #[.pointer none, .int .i64 now] w fun e w' => e = .returned (.slice none 0 0) ∧ Below w.heap.size w w' := by
  go_enter Try.func36, Try.ntmps36
  go_wp2_with (first | (go_at_call 34; (with_reducible refine (lanes_nil _).mono ?_); rintro e w' ⟨rfl, rfl⟩) | (go_at_call 57; (with_reducible refine (La.sweep_nil _ _).mono ?_); rintro e w1 ⟨rfl, hb⟩))
  go_ret
  exact ⟨rfl, hb⟩
theorem gall_nil (w : World) : Calls Try.prog 14 #[.pointer none] w fun e w' => e = .returned (.slice none 0 0) ∧ w = w' := by
  go_enter Try.func14, Try.ntmps14
  go_wp2_with (first | (go_at_call 34; (with_reducible refine (lanes_nil _).mono ?_); rintro e w' ⟨rfl, rfl⟩) | (go_at_call 35; (with_reducible refine (La.all_nil _).mono ?_); rintro e w' ⟨rfl, rfl⟩))
  go_ret
  exact ⟨rfl, rfl⟩
theorem glen_nil (w : World) : Calls Try.prog 20 #[.pointer none] w fun e w' => e = .returned (.int .i64 0) ∧ w = w' := by
  go_enter Try.func20, Try.ntmps20
  go_wp2_with (first | (go_at_call 34; (with_reducible refine (lanes_nil _).mono ?_); rintro e w' ⟨rfl, rfl⟩) | (go_at_call 42; (with_reducible refine (La.len_nil _).mono ?_); rintro e w' ⟨rfl, rfl⟩))
  go_ret
  exact ⟨rfl, rfl⟩
set_option maxHeartbeats 1000000 in
theorem gtake_nil (w : World) : Calls Try.prog 37 #[.pointer none] w fun e w' => e = .returned (.tuple #[.agg #[.slice none 0 0, .int .i64 0, .int .i64 0, .int .i64 0, .int .i64 0], .bool false]) ∧ Below w.heap.size w w' := by
  have hb0 := hid ((Below.refl w.heap.size w).alloc (Nat.le_refl _) (.cells #[.slice none 0 0, .int .i64 0, .int .i64 0, .int .i64 0, .int .i64 0] 37))
  have hz := hid (zeroBox w)
  go_enter Try.func37, Try.ntmps37
  go_wp2_with (first | (go_at_call 34; (with_reducible refine (lanes_nil _).mono ?_); rintro e w' ⟨rfl, rfl⟩) | (go_at_call 58; (with_reducible refine (La.take_nilR _).mono ?_); rintro e w1 ⟨rfl, hb⟩; have hz1 := hz.out.below hb; have hb1 := hid (Below.next hb0.out hb (by simp)); have y0 := hz1.cell 0; have y1 := hz1.cell 1; have y2 := hz1.cell 2; have y3 := hz1.cell 3; have y4 := hz1.cell 4; have yl := hz1.lt; have yf := fun o => hz1.frozen o; simp only [List.getElem?_cons_zero, List.getElem?_cons_succ] at y0 y1 y2 y3 y4; clear hz1 hb))
  refine bodyPost_ret (v := .tuple #[.agg #[.slice none 0 0, .int .i64 0, .int .i64 0, .int .i64 0, .int .i64 0], .bool false]) (by simp [results, Try.results37, go_sem, y0, y1, y2, y3, y4, yl]) rfl ⟨rfl, ?_⟩
  exact ((((hb1.out.setCell (Nat.le_refl _) _).setCell (Nat.le_refl _) _).setCell (Nat.le_refl _) _).setCell (Nat.le_refl _) _).setCell (Nat.le_refl _) _
set_option maxHeartbeats 2000000 in
theorem offer_nil (w : World) (mode lane now round : Int) (a : Option Addr) (n c : Nat) : Calls Try.prog 13 #[.pointer none, .int .i64 mode, .int .i64 lane, .slice a n c, .int .i64 now, .int .i64 round] w fun e w' => e = .returned (.tuple #[.agg #[.slice none 0 0, .int .i64 0, .int .i64 0, .int .i64 0, .int .i64 0], .int .i64 4]) ∧ Below w.heap.size w w' := by
  have hb0 := hid ((Below.refl w.heap.size w).alloc (Nat.le_refl _) (.cells #[.slice none 0 0, .int .i64 0, .int .i64 0, .int .i64 0, .int .i64 0] 37))
  have hz := hid (zeroBox w)
  have y0 := hz.out.cell 0
  have y1 := hz.out.cell 1
  have y2 := hz.out.cell 2
  have y3 := hz.out.cell 3
  have y4 := hz.out.cell 4
  have yl := hz.out.lt
  have yf := fun o => hz.out.frozen o
  simp only [List.getElem?_cons_zero, List.getElem?_cons_succ] at y0 y1 y2 y3 y4
  go_enter Try.func13, Try.ntmps13
  go_wp2
  refine bodyPost_ret (v := .tuple #[.agg #[.slice none 0 0, .int .i64 0, .int .i64 0, .int .i64 0, .int .i64 0], .int .i64 4]) (by simp [results, Try.results13, go_sem, y0, y1, y2, y3, y4, yl]) rfl ⟨rfl, ?_⟩
  exact (Below.refl w.heap.size w).alloc (Nat.le_refl _) _
def plainK : Chan := ⟨1, 0, 1, 1, 0, 1, 1, 1, 5, 0, 9⟩
section
variable {w w' : World} {M : Nat → Prop} {gb : Nat} {g : Gte}
theorem offerLit (h : GateM w M gb g) (x mode lane now round : Int) (hs : g.seq < 1000000) {n : Nat} (hn : n = w.heap.size) : Calls Try.prog 13 #[.pointer (some ⟨gb, 0, none⟩), .int .i64 mode, .int .i64 lane, .slice (some ⟨n, 0, none⟩) 1 1, .int .i64 now, .int .i64 round] (w.alloc (.cells #[.int .i64 x] 3)) (OfferPost w M gb (offerT g mode lane [x] now round)) := by
  subst hn
  have hb := (Below.refl w.heap.size w).alloc (Nat.le_refl _) (.cells #[.int .i64 x] 3)
  have hi : IntsAt (fun b => ¬ M b ∧ b < (w.alloc (.cells #[.int .i64 x] 3)).heap.size) (w.alloc (.cells #[.int .i64 x] 3)) (.slice (some ⟨w.heap.size, 0, none⟩) 1 1) [x] :=
    by
      refine IntsAt.of_pts (xs := [x]) (cap := 1) (ex := []) (pts.newA w #[.int .i64 x] 3) ?_ (by simp) (by unfold maxLen; omega)
      exact ⟨fun hm => by have := h.lt _ hm; omega, by simp⟩
  refine (offer_c (h.below hb) hi (by simp) hs mode lane now round).mono ?_
  rintro e w' ⟨a, c, h1, h2, h3, h4⟩
  refine ⟨a, c, h1, h2.mono (fun b hb' _ => Nat.le_trans hb.size hb'), ?_, (Chg.of_below hb).trans h4 (fun i hi => .inl hi)⟩
  obtain ⟨lb, bb, ML, k1, k2, k3⟩ := h3
  exact ⟨lb, bb, ML, k1, fun b hb' => (k2 b hb').imp id (fun hh => ⟨Nat.le_trans hb.size hh.1, hh.2⟩), fun b hb' => by
    rcases hb' with hb' | hb'
    · exact Nat.lt_of_lt_of_le (h.lt b hb') (Nat.le_trans hb.size h4.size)
    · exact hb'.2⟩
theorem offerLitS (h : GateM w M gb g) (x mode lane now round : Int) (hs : g.seq < 1000000) {n : Nat} (hn : n = w.heap.size) : Calls Try.prog 13 #[.pointer (some ⟨gb, 0, none⟩), .int .i64 mode, .int .i64 lane, .slice (some ⟨n, 0, none⟩) 1 1, .int .i64 now, .int .i64 round] (w.alloc (.cells #[.int .i64 x] 3)) (OfferPostS w M gb (offerT g mode lane [x] now round)) := by
  subst hn
  have hb := (Below.refl w.heap.size w).alloc (Nat.le_refl _) (.cells #[.int .i64 x] 3)
  have hi : IntsAt (fun b => ¬ M b ∧ b < (w.alloc (.cells #[.int .i64 x] 3)).heap.size) (w.alloc (.cells #[.int .i64 x] 3)) (.slice (some ⟨w.heap.size, 0, none⟩) 1 1) [x] :=
    by
      refine IntsAt.of_pts (xs := [x]) (cap := 1) (ex := []) (pts.newA w #[.int .i64 x] 3) ?_ (by simp) (by unfold maxLen; omega)
      exact ⟨fun hm => by have := h.lt _ hm; omega, by simp⟩
  refine (offerS_c (h.below hb) hi (by simp) hs mode lane now round).mono ?_
  rintro e w' ⟨a, c, M', h1, h2, h3, h4, h5⟩
  exact ⟨a, c, M', h1, h2.mono (fun b hb' _ => ⟨Nat.le_trans hb.size hb'.1, hb'.2⟩), h3, fun b hb' => (h4 b hb').imp id (fun hh => ⟨Nat.le_trans hb.size hh.1, hh.2⟩), (Chg.of_below hb).trans h5 (fun i hi => .inl hi)⟩
end
def g1L : Gte := ⟨plainK, [⟨[7], 0, 3, 8, 1⟩], ⟨0, 9, 8, 0⟩, 1⟩
theorem gl1 : offerT ⟨plainK, [], newB plainK.rate plainK.cap, 0⟩ 0 0 [7] 3 0 = (g1L, ⟨[7], 0, 3, 8, 1⟩, 0) := by rfl
theorem gl2 : offerT g1L 0 0 [8] 3 0 = (g1L, zeroMsg, 2) := by rfl
theorem gl3 : (comeB g1L.b 0).tokens = 8 := by rfl
end Go.Proofs.Ytggfallodkbgcaa.Gt
