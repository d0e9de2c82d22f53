/- DERIVED. Walks: ticks (sat.Cut, sat.Late, the reference's Cut), slices.Clone at ints, a message copied. -/
import Derived.Test.YtallemgagloagaaKM
namespace Go.Proofs.Ytallemgagloagaa.Lb
set_option linter.unusedVariables false
set_option linter.unusedSimpArgs false
open Go.RowKit Go.Proofs.Ytallemgagloagaa.K

theorem elInt : ElemOk Try.prog 22 3 1 8 := .mk' (z := .int .i64 0) Try.underlying22 (by kernel_rfl) rfl (by decide)
theorem minTwo (a b : Int) (w : World) : (Builtin.min_ #[3, 3] 3 #[.int .i64 a, .int .i64 b]).run Try.prog w = .ok (.int .i64 (min a b)) w := by
  unfold Builtin.min_
  simp [Builtin.min2]
  split <;> (congr 2; omega)
theorem maxTwo (a b : Int) (w : World) : (Builtin.max_ #[3, 3] 3 #[.int .i64 a, .int .i64 b]).run Try.prog w = .ok (.int .i64 (max a b)) w := by
  unfold Builtin.max_
  simp [Builtin.max2]
  split <;> (congr 2; omega)

/-- A tick. -/
def cutT (n : Int) : Int := min (max n 0) 4611686018427387904
theorem cut_c (w : World) (n : Int) : Calls Try.prog 25 #[.int .i64 n] w fun e w' => e = .returned (.int .i64 (cutT n)) ∧ w = w' := by
  have h1 := minTwo
  have h2 := maxTwo
  go_enter Try.func25, Try.ntmps25
  go_wp2
  go_ret
  exact ⟨rfl, rfl⟩
def lateT (now at_ : Int) : Bool := decide (cutT at_ ≤ cutT now)
set_option maxRecDepth 100000 in
theorem late_c (w : World) (now at_ : Int) : Calls Try.prog 26 #[.int .i64 now, .int .i64 at_] w fun e w' => e = .returned (.bool (lateT now at_)) ∧ w = w' := by
  go_enter Try.func26, Try.ntmps26
  go_wp2_with (first | (go_at_call 25; (with_reducible refine (cut_c _ _).mono ?_); rintro e w' ⟨rfl, rfl⟩))
  go_ret
  exact ⟨rbool (by unfold lateT; simp), rfl⟩
set_option maxRecDepth 100000 in
theorem rcut_c (w : World) (n : Int) : Calls Try.prog 32 #[.int .i64 n] w fun e w' => e = .returned (.int .i64 (cutT n)) ∧ w = w' := by
  go_enter Try.func32, Try.ntmps32
  go_wp2
  all_goals go_ret
  all_goals exact ⟨rint (by unfold cutT; omega), rfl⟩

set_option maxRecDepth 100000 in
theorem isNil (w : World) : (binOp .eql 22 (.slice none 0 0) (.slice none 0 0)).run Try.prog w = .ok (.bool true) w := by kernel_rfl
theorem notNil (w : World) (a : Addr) (n c : Nat) : (binOp .eql 22 (.slice (some a) n c) (.slice none 0 0)).run Try.prog w = .ok (.bool false) w := by kernel_rfl
end Go.Proofs.Ytallemgagloagaa.Lb
