/- DERIVED. The walk over the reference's Same: two rows of ints are told the same just if they are. -/
import Derived.Test.YtnlmkllhmldgiaaK0
import Derived.Deep.QuietTactic
import Derived.BigQuiet
namespace Go.Proofs.Ytnlmkllhmldgiaa.R1
set_option linter.unusedVariables false
set_option linter.unusedSimpArgs false
open Go.RowKit Go.Proofs.Ytnlmkllhmldgiaa.K

set_option maxHeartbeats 1000000 in
theorem same_c {ok1 ok2 : Nat → Prop} {w : World} {v1 v2 : Value} {xs ys : List Int} (h1 : IntsAt ok1 w v1 xs) (h2 : IntsAt ok2 w v2 ys) :
    Calls Try.prog 23 #[v1, v2] w fun e w' => e = .returned (.bool (decide (xs = ys))) ∧ Drawn w w' := by
  obtain ⟨a1, c1, rfl⟩ := h1.shape
  obtain ⟨a2, c2, rfl⟩ := h2.shape
  obtain ⟨_, hl1, hm1, g1⟩ := h1.get
  obtain ⟨_, hl2, hm2, g2⟩ := h2.get
  by_cases hlen : xs.length = ys.length
  · have hd : (xs.length == ys.length) = true := by simp [hlen]
    have hd' : ((xs.length : Int) == (ys.length : Int)) = true := by simp [hlen]
    have hlen' := hid hlen
    clear hlen
    go_enter Try.func23, Try.ntmps23
    go_wp2
    go_loopw [5] (fun i wr => ∃ k : Nat, k ≤ xs.length ∧ i = .int .i64 k ∧ Hid (xs.take k = ys.take k) ∧ Hid (Drawn w wr)) (fun i _ => xs.length - (intOf i).toNat)
    case atStart => exact ⟨0, Nat.zero_le _, rfl, by simp [Hid], Drawn.refl _⟩
    case round =>
      obtain ⟨k, hk, rfl, ht, hdr⟩ := hrel
      by_cases hlt : k < xs.length
      · obtain ⟨gx, ox, rfl, _, hxs, hcx⟩ := g1 k hlt
        obtain ⟨gy, oy, rfl, _, hys, hcy⟩ := g2 k (by have := hlen'.out; omega)
        have cx : wr.cell? ⟨gx, ox + k, none⟩ = some (.int .i64 xs[k]) := (World.cell?_of_block (by rw [hdr.out.heap])).trans hcx
        have cy : wr.cell? ⟨gy, oy + k, none⟩ = some (.int .i64 ys[k]) := (World.cell?_of_block (by rw [hdr.out.heap])).trans hcy
        have hlt2 : k < ys.length := by have := hlen'.out; omega
        have i0 : (0 : Int) ≤ (k : Int) := by omega
        have i1 : (k : Int) < (xs.length : Int) := by omega
        have i2 : (k : Int) < (ys.length : Int) := by omega
        clear hcx hcy g1 g2
        by_cases he : xs[k] = ys[k]
        · have he1 := hid he
          have hd1 : (xs[k] == ys[k]) = true := by simp [he]
          clear he
          go_wp2
          go_quiet (fail)
          go_wp2
          refine ⟨⟨k + 1, by omega, by simp, take_eq_step hlt hlt2 ht.out he1.out, ?_⟩, by simp [intOf]; omega⟩
          obtain ⟨n, hn⟩ := hdr.out
          exact ⟨n + nq, by rw [hn, World.drewN_drewN]⟩
        · have hne : xs ≠ ys := fun e => he (by subst e; rfl)
          have hne' := hid (show decide (xs = ys) = false by simp [hne])
          have hd1 : (xs[k] == ys[k]) = false := by simp [he]
          clear he hne
          go_wp2
          go_quiet (fail)
          go_wp2
          go_ret
          obtain ⟨n, hn⟩ := hdr.out
          exact ⟨rbool hne'.out.symm, n + nq, by rw [hn, World.drewN_drewN]⟩
      · have hxy : xs = ys := by
          have h := ht.out
          rw [List.take_of_length_le (by omega), List.take_of_length_le (by have := hlen'.out; omega)] at h
          exact h
        have hxy' := hid hxy
        clear hxy
        go_wp2
        go_ret
        exact ⟨rbool (decide_eq_true hxy'.out).symm, hdr.out⟩
  · have hne : xs ≠ ys := fun e => hlen (by rw [e])
    have hne' := hid (show decide (xs = ys) = false by simp [hne])
    have hd : (xs.length == ys.length) = false := by simp [hlen]
    have hd' : ((xs.length : Int) == (ys.length : Int)) = false := by rw [beq_eq_false_iff_ne]; omega
    clear hlen hne
    go_enter Try.func23, Try.ntmps23
    go_wp2
    all_goals go_ret
    all_goals exact ⟨rbool hne'.out.symm, Drawn.refl _⟩
end Go.Proofs.Ytnlmkllhmldgiaa.R1
