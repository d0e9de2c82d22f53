/- DERIVED. Walks over the program's gates: Take, Sweep, Flush, All, Len, Tokens, Seq; a gate that isn't there. No statement is proved here. -/
import Derived.Test.YtggfallodkbgcaaGateO
import Derived.Test.YtggfallodkbgcaaLaneP0
namespace Go.Proofs.Ytggfallodkbgcaa.Gt
set_option linter.unusedVariables false
set_option linter.unusedSimpArgs false
open Go.RowKit Go.Proofs.Ytggfallodkbgcaa.K Go.Proofs.Ytggfallodkbgcaa.Lb Go.Proofs.Ytggfallodkbgcaa.La Go.Proofs.Ytggfallodkbgcaa.Cf
section
variable {w w' : World} {M ML : Nat → Prop} {gb lb bb : Nat} {g : Gte}
theorem GateAt.toM (h : GateAt w' gb lb bb ML g) (hML : ∀ b, ML b ∨ b = gb ∨ b = bb → M b ∨ (w.heap.size ≤ b ∧ b < w'.heap.size)) (hMl : ∀ b, M b → b < w.heap.size) (hs : w.heap.size ≤ w'.heap.size) : GateM w' (grow M w w') gb g :=
  ⟨lb, bb, ML, h, fun b hb => hML b hb, fun b hb => by rcases hb with hb | hb; exact Nat.lt_of_lt_of_le (hMl b hb) hs; exact hb.2⟩
theorem GateAt.stepL (h : GateAt w gb lb bb ML g) (hM : ∀ b, ML b ∨ b = gb ∨ b = bb → M b) (hMl : ∀ b, M b → b < w.heap.size) {ms' : List Msg} (hC : Chg ML w w') (hL : LanesM w' (grow ML w w') lb (lnT g.k.lanes) (plT g.k.depth) ms') : GateM w' (grow M w w') gb { g with ms := ms' } ∧ Chg M w w' :=
  ⟨(h.setL hC hL).toM (fun b hb => by
    rcases hb with (hb | hb) | hb | hb
    · exact .inl (hM b (.inl hb))
    · exact .inr hb
    · exact .inl (hM b (.inr (.inl hb)))
    · exact .inl (hM b (.inr (.inr hb)))) hMl hC.size, hC.mono (fun b hb => hM b (.inl hb))⟩
theorem lanes_c (h : GateAt w gb lb bb ML g) : Calls Try.prog 34 #[.pointer (some ⟨gb, 0, none⟩)] w fun e w' => e = .returned (.pointer (some ⟨lb, 0, none⟩)) ∧ w = w' := by
  have g11 := h.p.cell 11
  have gl := h.p.lt
  simp only [List.getElem?_cons_zero, List.getElem?_cons_succ] at g11
  clear h
  go_enter Try.func34, Try.ntmps34
  go_wp2
  go_ret
  exact ⟨rfl, rfl⟩
theorem lanes_nil (w : World) : Calls Try.prog 34 #[.pointer none] w fun e w' => e = .returned (.pointer none) ∧ w = w' := by
  go_enter Try.func34, Try.ntmps34
  go_wp2
  go_ret
  exact ⟨rfl, rfl⟩
def GTell (w : World) (M : Nat → Prop) (gb : Nat) (g : Gte) (out rest : List Msg) (e : Ending) (w' : World) : Prop :=
  ∃ v, e = .returned v ∧ MsgsR (grow M w w') w' v out ∧ GateM w' (grow M w w') gb { g with ms := rest } ∧ Chg M w w'
theorem gsweep_c (h : GateM w M gb g) (now : Int) : Calls Try.prog 36 #[.pointer (some ⟨gb, 0, none⟩), .int .i64 now] w (GTell w M gb g ((sortM g.ms).filter (fun m => lateT now m.late)) ((sortM g.ms).filter (fun m => !lateT now m.late))) := by
  obtain ⟨lb, bb, ML, hA, hM, hMl⟩ := h
  have hln := hid (lanes_c hA)
  have hsw := hid (sweepTell hA.L now)
  have hfin := hid (fun (w' : World) (v : Value) (hv : MsgsR (grow ML w w') w' v ((sortM g.ms).filter (fun m => lateT now m.late))) (hL : LanesM w' (grow ML w w') lb (lnT g.k.lanes) (plT g.k.depth) ((sortM g.ms).filter (fun m => !lateT now m.late))) (hC : Chg ML w w') => show GTell w M gb g ((sortM g.ms).filter (fun m => lateT now m.late)) ((sortM g.ms).filter (fun m => !lateT now m.late)) (.returned v) w' from ⟨v, rfl, hv.mono (fun b hb _ => hb.imp (fun h => hM b (.inl h)) id), hA.stepL hM hMl hC hL⟩)
  clear hA hM hMl
  go_enter Try.func36, Try.ntmps36
  go_wp2_with (first | (go_at_call 34; (with_reducible refine (hln.out).mono ?_); rintro e w' ⟨rfl, rfl⟩) | (go_at_call 57; (with_reducible refine (hsw.out).mono ?_); rintro e w1 ⟨v, rfl, hv, hL, hC⟩; have hf := hid (hfin.out w1 v hv hL hC); obtain ⟨va, vc, rfl⟩ := hv.shape; clear hv hL hC))
  go_ret
  exact hf.out
theorem gall_c (h : GateM w M gb g) : Calls Try.prog 14 #[.pointer (some ⟨gb, 0, none⟩)] w (ResR w (sortM g.ms)) := by
  obtain ⟨lb, bb, ML, hA, -, -⟩ := h
  have hln := hid (lanes_c hA)
  have hsw := hid (all_r hA.L)
  clear hA
  go_enter Try.func14, Try.ntmps14
  go_wp2_with (first | (go_at_call 34; (with_reducible refine (hln.out).mono ?_); rintro e w' ⟨rfl, rfl⟩) | (go_at_call 35; (with_reducible refine (hsw.out).mono ?_); rintro e w1 ⟨v, rfl, hv, hC⟩; have hf := hid (show ResR w (sortM g.ms) (.returned v) w1 from ⟨v, rfl, hv, hC⟩); obtain ⟨va, vc, rfl⟩ := hv.shape; clear hv hC))
  go_ret
  exact hf.out
theorem glen_c (h : GateM w M gb g) : Calls Try.prog 20 #[.pointer (some ⟨gb, 0, none⟩)] w fun e w' => e = .returned (.int .i64 g.ms.length) ∧ w = w' := by
  obtain ⟨lb, bb, ML, hA, -, -⟩ := h
  have hln := hid (lanes_c hA)
  have hsw := hid (len_c hA.L)
  clear hA
  go_enter Try.func20, Try.ntmps20
  go_wp2_with (first | (go_at_call 34; (with_reducible refine (hln.out).mono ?_); rintro e w' ⟨rfl, rfl⟩) | (go_at_call 42; (with_reducible refine (hsw.out).mono ?_); rintro e w' ⟨rfl, rfl⟩))
  go_ret
  exact ⟨rfl, rfl⟩
def GTok (w : World) (M : Nat → Prop) (gb : Nat) (g : Gte) (r : Int) (e : Ending) (w' : World) : Prop := e = .returned (.int .i64 (comeB g.b r).tokens) ∧ GateM w' (grow M w w') gb { g with b := comeB g.b r } ∧ Chg M w w'
end
end Go.Proofs.Ytggfallodkbgcaa.Gt
