/- DERIVED. The walk over gate.Take: the first message of all. No statement is proved here. -/
import Derived.Test.YtggfallodkbgcaaGateX
namespace Go.Proofs.Ytggfallodkbgcaa.Gt
set_option linter.unusedVariables false
set_option linter.unusedSimpArgs false
open Go.RowKit Go.Proofs.Ytggfallodkbgcaa.K Go.Proofs.Ytggfallodkbgcaa.Lb Go.Proofs.Ytggfallodkbgcaa.La Go.Proofs.Ytggfallodkbgcaa.Cf
section
variable {w w' : World} {M ML : Nat → Prop} {gb lb bb : Nat} {g : Gte} {ln pl : Int} {ms : List Msg}
theorem take_anyM (h : LanesM w M lb ln pl ms) : Calls Try.prog 58 #[.pointer (some ⟨lb, 0, none⟩)] w fun e w' => HandAny M (sortM ms) e w' ∧ LanesM w' (grow M w w') lb ln pl (sortM ms).tail ∧ Chg M w w' := by
  cases hs : sortM ms with
  | nil =>
    have : ms = [] := List.eq_nil_of_length_eq_zero (by have := Sp.sortL_len (key := lane1) ms; unfold sortM at hs; rw [hs] at this; exact this.symm)
    subst this
    exact (take_none h).mono fun e w' ⟨h1, h2, h3⟩ => ⟨⟨none, 0, h1, IntsAt.nil _ _⟩, h2, h3⟩
  | cons m r => exact (take_some h hs).mono fun e w' ⟨⟨a, c, h1, h2⟩, h3, h4⟩ => ⟨⟨a, c, h1, h2⟩, h3, h4⟩
def GHand (w : World) (M : Nat → Prop) (gb : Nat) (g : Gte) (e : Ending) (w' : World) : Prop := HandAny M (sortM g.ms) e w' ∧ GateM w' (grow M w w') gb { g with ms := (sortM g.ms).tail } ∧ Chg M w w'
set_option maxHeartbeats 1000000 in
theorem gtake_c (h : GateM w M gb g) : Calls Try.prog 37 #[.pointer (some ⟨gb, 0, none⟩)] w (GHand w M gb g) := by
  have hb0 := (Below.refl w.heap.size w).alloc (Nat.le_refl _) (.cells #[.slice none 0 0, .int .i64 0, .int .i64 0, .int .i64 0, .int .i64 0] 37)
  have hz := zeroBox w
  have hMw := hid h.lt
  obtain ⟨lb, bb, ML, hA, hM, hMl⟩ := h.below hb0
  have hln := hid (lanes_c hA)
  have htk := hid (take_anyM hA.L)
  replace hM := hid hM
  replace hMl := hid hMl
  replace hA := hid hA
  replace hz := hid hz
  replace hb0 := hid hb0
  clear h
  unfold HandAny at htk
  unfold GHand HandAny
  generalize (!(sortM g.ms).isEmpty) = bo at htk ⊢
  generalize hdM (sortM g.ms) = m0 at htk ⊢
  go_enter Try.func37, Try.ntmps37
  go_wp2_with (first | (go_at_call 34; (with_reducible refine (hln.out).mono ?_); rintro e w' ⟨rfl, rfl⟩) | (go_at_call 58; (with_reducible refine (htk.out).mono ?_); rintro e w1 ⟨⟨a1, c1, rfl, hi1⟩, hL1, hC1⟩; have hz1 := hz.out.chg hC1 (fun hm => by have := hMw.out _ (hM.out _ (.inl hm)); omega); have y0 := hz1.cell 0; have y1 := hz1.cell 1; have y2 := hz1.cell 2; have y3 := hz1.cell 3; have y4 := hz1.cell 4; have yl := hz1.lt; have yf := fun o => hz1.frozen o; simp only [List.getElem?_cons_zero, List.getElem?_cons_succ] at y0 y1 y2 y3 y4; have hA1 := hid (hA.out.setL hC1 hL1); have hC2 := hid ((Chg.of_below (M := M) hb0.out).trans hC1 (fun i hi => .inl (hM.out i (.inl hi)))); replace hi1 := hid hi1; replace hC1 := hid hC1; clear hL1 hz1))
  have hMLM := hid (fun b (hb : ML b) => hM.out b (.inl hb))
  refine bodyPost_ret (v := .tuple #[.agg #[.slice a1 m0.words.length c1, .int .i64 m0.lane, .int .i64 m0.stamp, .int .i64 m0.late, .int .i64 m0.seq], .bool bo]) (by simp [results, Try.results37, go_sem, y0, y1, y2, y3, y4, yl]) rfl ⟨⟨a1, c1, rfl, ?_⟩, ?_, ?_⟩
  · have hd0 : ∀ d, ML d → d ≠ w.heap.size := fun d hd => by have := hMw.out d (hMLM.out d hd); omega
    exact (((((hi1.out.set (b := w.heap.size) hd0).set (b := w.heap.size) hd0).set (b := w.heap.size) hd0).set (b := w.heap.size) hd0).set (b := w.heap.size) hd0).mono (fun b hb _ => hMLM.out b hb)
  · have hok2 : ∀ b, (grow ML (w.alloc (.cells #[.slice none 0 0, .int .i64 0, .int .i64 0, .int .i64 0, .int .i64 0] 37)) w1 b ∨ b = gb ∨ b = bb) → (M b ∨ (w.heap.size < b ∧ b < w1.heap.size)) := by
      intro b hb
      rcases hb with (hb | hb) | hb | hb
      · exact .inl (hM.out b (.inl hb))
      · exact .inr ⟨by have := hb.1; simp at this; omega, hb.2⟩
      · exact .inl (hM.out b (.inr (.inl hb)))
      · exact .inl (hM.out b (.inr (.inr hb)))
    refine ⟨lb, bb, _, hA1.out.kept (by simp) (fun b hb _ => ?_), fun b hb => ?_, fun b hb => ?_⟩
    · have hbw : b ≠ w.heap.size := by
        rcases hok2 b hb with h1 | h1
        · have := hMw.out b h1; omega
        · omega
      rw [Below.heap_setCell _ _ _ _ hbw, Below.heap_setCell _ _ _ _ hbw, Below.heap_setCell _ _ _ _ hbw, Below.heap_setCell _ _ _ _ hbw, Below.heap_setCell _ _ _ _ hbw]
    · rcases hok2 b hb with h1 | h1
      · exact .inl h1
      · exact .inr ⟨by omega, by simp; omega⟩
    · rcases hb with hb | hb
      · have := hMw.out b hb; have := hC2.out.size; simp; omega
      · exact hb.2
  · exact ((((hC2.out.setN (Nat.le_refl _)).setN (Nat.le_refl _)).setN (Nat.le_refl _)).setN (Nat.le_refl _)).setN (Nat.le_refl _)
end
end Go.Proofs.Ytggfallodkbgcaa.Gt
