/- DERIVED. The small helpers of the statements on modes: few, early, kind, and the document's example. -/
import Derived.Test.YtfnhjendplgidaaRefMode2
namespace Go.Proofs.Ytfnhjendplgidaa.Lw
open Go.RowKit Go.Proofs.Ytfnhjendplgidaa.K Go.Proofs.Ytfnhjendplgidaa.Md

/-- a step: its kind, its partition. -/
structure St where
  k : Int
  p : Int
def StepsAt (w : World) (v : Value) (xs : List St) : Prop :=
  ∃ ao cap, v = .slice ao xs.length cap ∧ (xs.length ≤ cap ∧ cap ≤ maxLen) ∧ (xs = [] ∨ ∃ g o, ao = some ⟨g, o, none⟩ ∧ g < w.heap.size ∧ ∀ i (h : i < xs.length), w.cell? ⟨g, o + i * 2, none⟩ = some (.int .i64 xs[i].k) ∧ w.cell? ⟨g, o + i * 2 + 1, none⟩ = some (.int .i64 xs[i].p))
theorem StepsAt.below {w w' : World} {v : Value} {xs : List St} (h : StepsAt w v xs) (hb : Below w.heap.size w w') : StepsAt w' v xs := by
  obtain ⟨ao, cap, hv, hl, hx⟩ := h
  refine ⟨ao, cap, hv, hl, ?_⟩
  rcases hx with hx | ⟨g, o, h1, h2, h3⟩
  · exact .inl hx
  · exact .inr ⟨g, o, h1, Nat.lt_of_lt_of_le h2 hb.size, fun i hi => ⟨(hb.cell (p := ⟨g, o + i * 2, none⟩) h2).trans (h3 i hi).1, (hb.cell (p := ⟨g, o + i * 2 + 1, none⟩) h2).trans (h3 i hi).2⟩⟩
theorem StepsAt.shape {w : World} {v : Value} {xs : List St} (h : StepsAt w v xs) : ∃ ao cap, v = .slice ao xs.length cap := let ⟨ao, cap, hv, _⟩ := h; ⟨ao, cap, hv⟩

theorem minInt (a b : Int) (w : World) : (Builtin.min_ #[3, 3] 3 #[.int .i64 a, .int .i64 b]).run Try.prog w = .ok (.int .i64 (min a b)) w := minTwo a b w

theorem few_c {ok : Nat → Prop} {w : World} {v : Value} {l : List Int} (h : IntsAt ok w v l) : Calls Try.prog 12 #[v] w fun e w' => ∃ v', e = .returned v' ∧ IntsAt ok w v' (l.take 6) ∧ w = w' := by
  obtain ⟨ao, cap, rfl, ⟨hlc, hcm, hnc⟩, hx⟩ := h
  have hcm' := hid hcm
  unfold maxLen at hcm
  have hmin := @minInt
  have hmn : min (l.length : Int) 6 ≤ cap := by omega
  have hmz : 0 ≤ min (l.length : Int) 6 := by omega
  have hx' := hid hx
  clear hx
  go_enter Try.func12, Try.ntmps12
  go_wp2
  go_ret
  refine ⟨.slice ao (l.take 6).length cap, ?_, ⟨ao, cap, rfl, ⟨by simp; omega, hcm'.out, hnc⟩, ?_⟩, rfl⟩
  · show Ending.returned (.slice ao _ cap) = _
    congr 2; simp; omega
  · rcases hx'.out with rfl | ⟨g, o, h3, h4, h5, h6⟩
    · exact .inl (by simp)
    · exact .inr ⟨g, o, h3, h4, h5, fun i hi => by rw [h6 i (by simp at hi; omega)]; simp⟩
theorem early_c {w0 : World} (w : World) {v : Value} {l : List St} (h : StepsAt w0 v l) : Calls Try.prog 14 #[v] w fun e w' => ∃ v', e = .returned v' ∧ StepsAt w0 v' (l.take 80) ∧ w = w' := by
  obtain ⟨ao, cap, rfl, ⟨hlc, hcm⟩, hx⟩ := h
  have hcm' := hid hcm
  unfold maxLen at hcm
  have hmin := @minInt
  have hmn : min (l.length : Int) 80 ≤ cap := by omega
  have hmz : 0 ≤ min (l.length : Int) 80 := by omega
  have hx' := hid hx
  clear hx
  go_enter Try.func14, Try.ntmps14
  go_wp2
  go_ret
  refine ⟨.slice ao (l.take 80).length cap, ?_, ⟨ao, cap, rfl, ⟨by simp; omega, hcm'.out⟩, ?_⟩, rfl⟩
  · show Ending.returned (.slice ao _ cap) = _
    congr 2; simp; omega
  · rcases hx'.out with rfl | ⟨g, o, h3, h5, h6⟩
    · exact .inl (by simp)
    · exact .inr ⟨g, o, h3, h5, fun i hi => by have := h6 i (by simp at hi; omega); simpa using this⟩

def kindM (k : Int) : Int := (k % 18446744073709551616) % 3
theorem kindM_lt (k : Int) : kindM k = 0 ∨ kindM k = 1 ∨ kindM k = 2 := by unfold kindM; omega
theorem kind_c (w : World) (k p : Int) : Calls Try.prog 15 #[.agg #[.int .i64 k, .int .i64 p]] w fun e w' => e = .returned (.int .i64 (kindM k)) ∧ Below w.heap.size w w' := by
  go_enter Try.func15, Try.ntmps15
  go_wp2
  go_ret
  exact ⟨rint (by rw [IntKind.wrap_u64, Int.tmod_eq_emod_of_nonneg (by omega)]; unfold wrap64 kindM; omega), (Below.refl _ _).alloc (Nat.le_refl _) _⟩

theorem up_lit : (upM [⟨1, 1, 0⟩] 0).1 = [⟨1, 0, 1⟩] := by simp [upM, at?, wrap64]
def LivesPost (w : World) (e : Ending) (w' : World) : Prop := e = .returned (.bool true) ∧ Below w.heap.size w w'
theorem chg_mine {w w' W : World} {a : Nat} (h : Chg (Mine a) w w') (hb : Below W.heap.size W w) (ha : W.heap.size ≤ a) : Below W.heap.size W w' := hb.trans (h.toBelow hb.size (fun i hi => by unfold Mine at hi; omega))
set_option maxHeartbeats 2000000 in
theorem lives_c (w : World) : Calls Try.prog 7 #[] w (LivesPost w) := by
  have hi : IntsAt (fun _ => True) (w.alloc (.cells #[.int .i64 1] 3)) (.slice (some ⟨w.heap.size, 0, none⟩) 1 1) [1] := IntsAt.of_pts (xs := [1]) (ex := []) (pts.newA w #[.int .i64 1] 3) trivial (by simp) (by simp [maxLen])
  have hi' := hid hi
  clear hi
  have hb0 := hid ((Below.refl w.heap.size w).alloc (Nat.le_refl _) (.cells #[.int .i64 1] 3))
  go_enter Try.func7, Try.ntmps7
  go_wp2_with (first | (go_at_call 8; refine (new_c hi'.out).mono ?_; rintro e w1 ⟨p, a, rfl, hM1, hp1, ha1, hb1⟩; have hB1 := hid (Below.next hb0.out hb1 hb0.out.size); have ha := hid (Nat.le_trans hb0.out.size ha1); replace hM1 := hid (show ModesAt w1 p a [⟨1, 0, 0⟩] from hM1); clear hp1 ha1 hb1) | (go_at_call 9; refine (fault_c hM1.out 0).mono ?_; rintro e w2 ⟨rfl, hM2, hc2⟩; have hB2 := hid (chg_mine hc2 hB1.out ha.out); replace hM2 := hid (show ModesAt w2 p a [⟨1, 1, 0⟩] from hM2); clear hc2; rw [show (faultM [⟨1, 0, 0⟩] 0).2.1 = 1 from rfl, show (faultM [⟨1, 0, 0⟩] 0).2.2 = 0 from rfl]) | (go_at_call 20; refine (up_c hM2.out 0).mono ?_; rintro e w3 ⟨rfl, hM3, hc3⟩; have hB3 := hid (chg_mine hc3 hB2.out ha.out); replace hM3 := hid (show ModesAt w3 p a [⟨1, 0, 1⟩] from up_lit ▸ hM3); clear hc3; rw [show (upM [⟨1, 1, 0⟩] 0).2 = true from rfl]) | (go_at_call 10; refine (mode_c hM3.out 0).mono ?_; rintro e w' ⟨rfl, rfl⟩; rw [show (modeM [⟨1, 0, 1⟩] 0).1 = 0 from rfl, show (modeM [⟨1, 0, 1⟩] 0).2 = true from rfl]) | (go_at_call 10; refine (mode_c hM2.out 0).mono ?_; rintro e w' ⟨rfl, rfl⟩; rw [show (modeM [⟨1, 1, 0⟩] 0).1 = 1 from rfl, show (modeM [⟨1, 1, 0⟩] 0).2 = true from rfl]) | (go_at_call 22; refine (starts_c hM3.out 0).mono ?_; rintro e w' ⟨rfl, rfl⟩; rw [show (startsM [⟨1, 0, 1⟩] 0) = 1 from rfl]))
  go_ret
  exact ⟨rfl, hB3.out⟩
end Go.Proofs.Ytfnhjendplgidaa.Lw
