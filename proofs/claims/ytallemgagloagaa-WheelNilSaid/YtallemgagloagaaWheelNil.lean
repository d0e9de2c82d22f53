/- DERIVED. The walk over the statement WheelNil: a wheel that isn't there has nothing. -/
import Derived.Test.YtallemgagloagaaWheelH
namespace Go.Proofs.Ytallemgagloagaa.Wh
set_option linter.unusedVariables false
set_option linter.unusedSimpArgs false
open Go.RowKit Go.Proofs.Ytallemgagloagaa.K Go.Proofs.Ytallemgagloagaa.Lb
set_option maxHeartbeats 1000000 in
theorem wnil_c (w : World) (key n : Int) : Calls Try.prog 7 #[.int .i64 key, .int .i64 n] w (LivesW w) := by
  have hz : IntKind.i64.wrap 0 = 0 := by decide
  go_enter Try.func7, Try.ntmps7
  go_wp2_with (first | (go_at_call 8; (with_reducible refine (lives_c _).mono ?_); rintro e w1 ⟨rfl, hb⟩; have hB1 := hid hb; clear hb) | (go_at_call 14; (with_reducible refine (until_nil _ _).mono ?_); rintro e w' ⟨rfl, rfl⟩) | (go_at_call 23; (with_reducible refine (first_nil _).mono ?_); rintro e w2 ⟨rfl, hb⟩; have hB2 := hid (Below.next hB1.out hb hB1.out.size); clear hb) | (go_at_call 10; (with_reducible refine (set_nil _ _ _).mono ?_); rintro e w' ⟨rfl, rfl⟩) | (go_at_call 15; (with_reducible refine (cancel_nil _ _).mono ?_); rintro e w' ⟨rfl, rfl⟩) | (go_at_call 11; (with_reducible refine (due_nil _ _).mono ?_); rintro e w3 ⟨rfl, hb⟩; have hB3 := hid (Below.next hB2.out hb hB2.out.size); clear hb) | (go_at_call 13; (with_reducible refine (keys_nil _).mono ?_); rintro e w4 ⟨rfl, hb⟩; have hB4 := hid (Below.next hB3.out hb hB3.out.size); clear hb) | (go_at_call 12; (with_reducible refine (len_nil _).mono ?_); rintro e w' ⟨rfl, rfl⟩))
  go_ret
  exact ⟨rfl, hB4.out⟩
end Go.Proofs.Ytallemgagloagaa.Wh
