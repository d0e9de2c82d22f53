/- DERIVED. Walks: sums, differences and products of ticks, of the program and of the reference. No statement is proved here. -/
import Derived.Test.YtggfallodkbgcaaGateP
import Derived.Lib.Mul64
import Derived.Laws.Bits64b
import Derived.Shelf.Bits.Mul64
namespace Go.Proofs.Ytggfallodkbgcaa.Gt
set_option linter.unusedVariables false
set_option linter.unusedSimpArgs false
open Go.RowKit Go.Proofs.Ytggfallodkbgcaa.K Go.Proofs.Ytggfallodkbgcaa.Lb Go.Proofs.Ytggfallodkbgcaa.La Go.Proofs.Ytggfallodkbgcaa.Cf
theorem add_c (w : World) (a b : Int) : Calls Try.prog 32 #[.int .i64 a, .int .i64 b] w fun e w' => e = .returned (.int .i64 (addT a b)) ∧ w = w' := by
  have h1 := minTwo
  obtain ⟨a0, a1⟩ := cutT_in a
  obtain ⟨b0, b1⟩ := cutT_in b
  go_enter Try.func32, Try.ntmps32
  go_wp2_with (first | (go_at_call 31; (with_reducible refine (cut_c _ _).mono ?_); rintro e w' ⟨rfl, rfl⟩))
  go_ret
  exact ⟨rint (by unfold addT; omega), rfl⟩
theorem sub_c (w : World) (a b : Int) : Calls Try.prog 76 #[.int .i64 a, .int .i64 b] w fun e w' => e = .returned (.int .i64 (subT a b)) ∧ w = w' := by
  obtain ⟨a0, a1⟩ := cutT_in a
  obtain ⟨b0, b1⟩ := cutT_in b
  go_enter Try.func76, Try.ntmps76
  go_wp2_with (first | (go_at_call 31; (with_reducible refine (cut_c _ _).mono ?_); rintro e w' ⟨rfl, rfl⟩))
  go_ret
  exact ⟨rfl, rfl⟩
set_option maxHeartbeats 1000000 in
theorem mul64_c (x y : Nat) (hx : x < 18446744073709551616) (hy : y < 18446744073709551616) (w : World) :
    Calls Try.prog 84 #[.int .u64 x, .int .u64 y] w fun e w' => e = .returned (.tuple #[.int .u64 ((x * y / 18446744073709551616 : Nat) : Int), .int .u64 ((x * y % 18446744073709551616 : Nat) : Int)]) ∧ w = w' := by
  obtain ⟨bd, bt, bw, hhi⟩ := Lib.mul64_hi x y hx hy
  have ba := Lib.half_mul_le (a := x / 4294967296) (b := y / 4294967296) (by omega) (by omega)
  have bb := Lib.half_mul_le (a := x / 4294967296) (b := y % 4294967296) (by omega) (by omega)
  have bc := Lib.half_mul_le (a := x % 4294967296) (b := y / 4294967296) (by omega) (by omega)
  have ba' : x / 4294967296 * (y / 4294967296) < 18446744073709551616 := by omega
  have bb' : x / 4294967296 * (y % 4294967296) < 18446744073709551616 := by omega
  have bc' : x % 4294967296 * (y / 4294967296) < 18446744073709551616 := by omega
  have bh1 : x / 4294967296 * (y / 4294967296) + (x / 4294967296 * (y % 4294967296) + x % 4294967296 * (y % 4294967296) / 4294967296) / 4294967296 < 18446744073709551616 := by omega
  have bh : x / 4294967296 * (y / 4294967296) + (x / 4294967296 * (y % 4294967296) + x % 4294967296 * (y % 4294967296) / 4294967296) / 4294967296 + ((x / 4294967296 * (y % 4294967296) + x % 4294967296 * (y % 4294967296) / 4294967296) % 4294967296 + x % 4294967296 * (y / 4294967296)) / 4294967296 < 18446744073709551616 := by omega
  go_enter Try.func84, Try.ntmps84
  go_wp2
  simp only [Mul64.maskN x hx, Mul64.maskN y hy, Mul64.divN, Mul64.mulN, Mul64.addN, Mul64.wrapN _ bd, Mul64.wrapN _ bb', Mul64.wrapN _ bt, Mul64.maskN _ bt, Mul64.wrapN _ bc', Mul64.wrapN _ bw, Mul64.wrapN _ ba', Mul64.wrapN _ bh1, Mul64.wrapN _ bh, Mul64.wrapM (x * y)]
  rw [hhi]
  go_ret2
  exact ⟨rfl, rfl⟩
theorem mul_c (w : World) (a b : Int) : Calls Try.prog 77 #[.int .i64 a, .int .i64 b] w fun e w' => e = .returned (.int .i64 (mulT a b)) ∧ w = w' := by
  obtain ⟨a0, a1⟩ := cutT_in a
  obtain ⟨b0, b1⟩ := cutT_in b
  obtain ⟨x, hx⟩ := Int.eq_ofNat_of_zero_le a0
  obtain ⟨y, hy⟩ := Int.eq_ofNat_of_zero_le b0
  have hm : mulT a b = min ((x * y : Nat) : Int) 4611686018427387904 := by unfold mulT; rw [hx, hy]; simp
  have hx1 : x ≤ 4611686018427387904 := by omega
  have hy1 : y ≤ 4611686018427387904 := by omega
  have hcx := hid (show ∀ w, Calls Try.prog 31 #[.int .i64 a] w fun e w' => e = .returned (.int .i64 x) ∧ w = w' from fun w => by rw [← hx]; exact cut_c w a)
  have hcy := hid (show ∀ w, Calls Try.prog 31 #[.int .i64 b] w fun e w' => e = .returned (.int .i64 y) ∧ w = w' from fun w => by rw [← hy]; exact cut_c w b)
  have hmul := hid (fun w => mul64_c x y (by omega) (by omega) w)
  have hd := hid (Nat.div_add_mod (x * y) 18446744073709551616)
  rw [hm]
  clear hm hx hy a0 a1 b0 b1
  generalize x * y = p at hmul hd ⊢
  have hp2 : p % 18446744073709551616 < 18446744073709551616 := Nat.mod_lt _ (by omega)
  generalize p % 18446744073709551616 = lo at hmul hd hp2
  generalize p / 18446744073709551616 = hi at hmul hd
  go_enter Try.func77, Try.ntmps77
  go_wp2_with (first | (go_at_call 31; (with_reducible refine (hcx.out _).mono ?_); rintro e w' ⟨rfl, rfl⟩) | (go_at_call 31; (with_reducible refine (hcy.out _).mono ?_); rintro e w' ⟨rfl, rfl⟩) | (go_at_call 84; (with_reducible refine (hmul.out _).mono ?_); rintro e w' ⟨rfl, rfl⟩))
  all_goals go_ret
  all_goals exact ⟨rint (by have := hd.out; omega), rfl⟩
end Go.Proofs.Ytggfallodkbgcaa.Gt
