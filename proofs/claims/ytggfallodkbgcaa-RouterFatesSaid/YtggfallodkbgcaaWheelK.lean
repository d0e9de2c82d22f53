/- DERIVED. The walks over wheel.Keys, Len: the keys in their row, by slices.SortedFunc. No statement is proved here. -/
import Derived.Test.YtggfallodkbgcaaWheelW
import Derived.Test.YtggfallodkbgcaaRegG
import Derived.Shelf.SlSortCmp.Insertion
namespace Go.Proofs.Ytggfallodkbgcaa.Wh
set_option linter.unusedVariables false
set_option linter.unusedSimpArgs false
open Go.RowKit Go.Maps Go.Sort Go.Shelf Go.Proofs.Ytggfallodkbgcaa.K Go.Proofs.Ytggfallodkbgcaa.Lb
def cmpT (a b : Int) : Int := if a < b then -1 else if b < a then 1 else 0
def orT (a b : Int) : Int := if a ≠ 0 then a else b
theorem compare_c (w : World) (a b : Int) : Calls Try.prog 69 #[.int .i64 a, .int .i64 b] w fun e w' => e = .returned (.int .i64 (cmpT a b)) ∧ w = w' := by
  by_cases h1 : a < b
  · have d1 : decide (a < b) = true := decide_eq_true h1
    go_enter Try.func69, Try.ntmps69
    go_wp2
    all_goals go_ret
    all_goals exact ⟨rint (by unfold cmpT; rw [if_pos h1]), rfl⟩
  · have d1 : decide (a < b) = false := decide_eq_false h1
    by_cases h2 : b < a
    · have d2 : decide (b < a) = true := decide_eq_true h2
      go_enter Try.func69, Try.ntmps69
      go_wp2
      all_goals go_ret
      all_goals exact ⟨rint (by unfold cmpT; split <;> (try split) <;> omega), rfl⟩
    · have d2 : decide (b < a) = false := decide_eq_false h2
      go_enter Try.func69, Try.ntmps69
      go_wp2
      all_goals go_ret
      all_goals exact ⟨rint (by unfold cmpT; split <;> (try split) <;> omega), rfl⟩
/-- How many were set ahead of a key. -/
def setD (D : DataW Unit) (x : Int) : Int := match D.atKey (.int .i64 x) (waitD 0 0) with | .agg [_, .lit (.int .i64 s)] => s | _ => 0
theorem WheelAt.look {w : World} {wb mb n : Nat} {D : DataW Unit} {s : Int} (h : WheelAt w wb mb n D s) {x : Int} (hx : isInt x) :
    (Instr.lookup 93 (.map (some mb)) (.int .i64 x) false).run Try.prog w = .ok (.agg #[.int .i64 (untilD D x), .int .i64 (setD D x)]) w := by
  obtain ⟨es, clock, hb, F, _, hD⟩ := h.map
  have fin : ∀ v ps, (Instr.lookup 93 (.map (some mb)) (.int .i64 x) false).run Try.prog w = .ok v w → waitElem v = some (D.atKey (.int .i64 x) (waitD 0 0), ps) → (Instr.lookup 93 (.map (some mb)) (.int .i64 x) false).run Try.prog w = .ok (.agg #[.int .i64 (untilD D x), .int .i64 (setD D x)]) w := by
    intro v ps h1 h2
    obtain ⟨u, s', rfl, hd⟩ := waitElem_inv h2
    have hu : untilD D x = u := by unfold untilD; rw [hd]; rfl
    have hs : setD D x = s' := by unfold setD; rw [hd]; rfl
    rw [hu, hs]; exact h1
  rcases Maps.fit_look false lawI Try.underlying93 (zeroW w) hb F (keyI hx) with ⟨hrun, _, hat⟩ | ⟨e0, y, _, _, hrun, hRv, hat, _⟩
  · exact fin _ [] hrun (by rw [hD, hat]; rfl)
  · exact fin _ y.2 hrun (by rw [hD, hat]; exact hRv)
/-- By what the keys are sorted. -/
def cfW (D : DataW Unit) (x y : Int) : Int := orT (cmpT (untilD D x) (untilD D y)) (cmpT (setD D x) (setD D y))
def ltW (D : DataW Unit) (x y : Int) : Prop := untilD D x < untilD D y ∨ untilD D x = untilD D y ∧ setD D x < setD D y
theorem cfW_lt (D : DataW Unit) (x y : Int) : decide (cfW D x y < 0) = true ↔ ltW D x y := by
  rw [decide_eq_true_eq]
  unfold cfW orT cmpT ltW
  by_cases h1 : untilD D x < untilD D y
  · simp [h1]
  · by_cases h2 : untilD D y < untilD D x
    · simp [h1, h2]; omega
    · have e : untilD D x = untilD D y := by omega
      by_cases h3 : setD D x < setD D y
      · simp [h1, h2, h3, e]
      · by_cases h4 : setD D y < setD D x <;> simp [h1, h2, h3, h4, e]
abbrev IntN : Type := { x : Int // isInt x }
instance IntN.inh : Inhabited IntN := ⟨⟨0, by unfold isInt; omega⟩⟩
def encN (x : IntN) : Value := .int .i64 x.1
def cfN (D : DataW Unit) (x y : IntN) : Int := cfW D x.1 y.1
theorem swoN (D : DataW Unit) : SWO (ltOf (cfN D)) := by
  have key : ∀ x y : IntN, ltOf (cfN D) x y = true ↔ ltW D x.1 y.1 := fun x y => cfW_lt D x.1 y.1
  have keyF : ∀ x y : IntN, ltOf (cfN D) x y = false ↔ ¬ ltW D x.1 y.1 := fun x y => by rw [← key]; cases ltOf (cfN D) x y <;> simp
  refine ⟨fun x => ?_, fun x y z h1 h2 => ?_, fun x y z h1 h2 => ?_⟩
  · rw [keyF]; unfold ltW; omega
  · rw [key] at *; unfold ltW at *; omega
  · rw [keyF] at *; unfold ltW at *; omega
theorem at2 {w u : World} {b : Nat} {v : Value} (hg : Gr w u) (hb : b < w.heap.size) (h : w.cell? ⟨b, 0, none⟩ = some v) : u.cell? ⟨b, 0, none⟩ = some v := (hg.below.cell (p := ⟨b, 0, none⟩) hb).trans h
theorem fldU (w : World) (a b : Int) : (Instr.field 106 (.agg #[.int .i64 a, .int .i64 b]) 0).run Try.prog w = .ok (.int .i64 a) w := by kernel_rfl
theorem fldS (w : World) (a b : Int) : (Instr.field 106 (.agg #[.int .i64 a, .int .i64 b]) 1).run Try.prog w = .ok (.int .i64 b) w := by kernel_rfl
def OrBox (x y : Int) (u : World) (v : Value) : Prop := ∃ b, v = .slice (some ⟨b, 0, none⟩) 2 2 ∧ pts u b [.int .i64 x, .int .i64 y] 3
end Go.Proofs.Ytggfallodkbgcaa.Wh
