/- DERIVED. The walk over the statement ModeRounds. -/
import Derived.Test.YtfnhjendplgidaaModeActions
namespace Go.Proofs.Ytfnhjendplgidaa.Lw
open Go.RowKit Go.Proofs.Ytfnhjendplgidaa.K Go.Proofs.Ytfnhjendplgidaa.Md

/-- Partition k is Normal and was up i times. -/
def Cnt (s : List Part) (n k i : Nat) : Prop := s.length = n ∧ ∃ h : k < s.length, s[k].m = 0 ∧ s[k].s = i
set_option maxRecDepth 10000 in
theorem cnt0 {l : List Int} {k : Nat} (hk : k < (newM l).length) : Cnt (newM l) (newM l).length k 0 := by
  refine ⟨rfl, hk, ?_⟩
  have : ∀ x ∈ newM l, x.m = 0 ∧ x.s = 0 := by
    unfold newM
    split
    · intro x hx; simp at hx; subst hx; simp
    · intro x hx; obtain ⟨y, _, rfl⟩ := List.mem_map.1 hx; simp [mk]
  exact this _ (List.getElem_mem hk)
theorem Cnt.step {s : List Part} {n k i : Nat} (h : Cnt s n k i) (hi : i < 50) :
    (againM s k).2 = 0 ∧ (againM (againM s k).1 k).2 = 1 ∧ (upM (againM (againM s k).1 k).1 k).2 = true ∧ (upM (upM (againM (againM s k).1 k).1 k).1 k).2 = false ∧ Cnt (upM (upM (againM (againM s k).1 k).1 k).1 k).1 n k (i + 1) := by
  obtain ⟨hn, hk, hm, hs⟩ := h
  have e1 : againM s k = (s.set k { s[k] with m := 1 }, 0) := by unfold againM; rw [at?_in hk]; simp [hm]
  have hk1 : k < (s.set k { s[k] with m := 1 }).length := by simpa using hk
  have e2 : againM (s.set k { s[k] with m := 1 }) k = (s.set k { s[k] with m := 1 }, 1) := by unfold againM; rw [at?_in hk1]; simp
  have e3 : upM (s.set k { s[k] with m := 1 }) k = (s.set k ⟨s[k].a, 0, i + 1⟩, true) := by
    unfold upM; rw [at?_in hk1]; have ew : wrap64 ((i : Int) + 1) = (i : Int) + 1 := by unfold wrap64; omega
    simp only [if_true, hs, ew, Int.toNat_natCast, List.set_set, List.getElem_set_self]
  have hk2 : k < (s.set k ⟨s[k].a, 0, i + 1⟩).length := by simpa using hk
  have e4 : upM (s.set k ⟨s[k].a, 0, i + 1⟩) k = (s.set k ⟨s[k].a, 0, i + 1⟩, false) := by unfold upM; rw [at?_in hk2]; simp
  simp only [e1, e2, e3, e4]
  exact ⟨trivial, trivial, trivial, trivial, by simpa using hn, hk2, by simp, by simp⟩

set_option maxHeartbeats 2000000 in
set_option maxRecDepth 100000 in
theorem rounds_c {w : World} {va : Value} {l : List Int} (n q : Int) (hl : IntsAt (fun _ => True) w va l) : Calls Try.prog 6 #[va, .int .i64 n, .int .i64 q] w (LivesPost w) := by
  have hl0 := hid hl
  obtain ⟨a1, c1, rfl⟩ := hl.shape
  clear hl
  have hmx := @maxInt
  go_enter Try.func6, Try.ntmps6
  go_upto_region 6 with (first | (go_at_call 7; (with_reducible refine (lives_c _).mono ?_); rintro e w1 ⟨rfl, hb1⟩; have hb1 := hid hb1) | (go_at_call 12; (with_reducible refine (few_c (hl0.out.below hb1.out)).mono ?_); rintro e w' ⟨vl, rfl, hvl, rfl⟩; have hvl := hid hvl) | (go_at_call 8; (with_reducible refine (Md.new_c hvl.out).mono ?_); rintro e w2 ⟨p, a, rfl, hM2, hp2, ha2, hb2⟩; have hs0 := hid (fun k => @cnt0 (l.take 6) k); generalize newM (l.take 6) = s0 at hM2 hs0; have hM2 := hid hM2; have hB2 := hid (Below.next hb1.out hb2 hb1.out.size); have ha2 := hid ha2; clear hb2 hp2) | (go_at_call 11; (with_reducible refine (all_c hM2.out).mono ?_); rintro e w3 ⟨v, rfl, hv, hb3⟩; obtain ⟨a4, c4, rfl⟩ := hv.shape; rw [List.length_map]; have hw1 : max (s0.length : Int) 1 = s0.length := (by have := hM2.out.pos; omega); have hw2 : IntKind.u64.wrap (s0.length : Int) = s0.length := (by have := hM2.out.le; rw [IntKind.wrap_u64]; omega); have hw3 : ¬ ((s0.length : Int) = 0) := (by have := hM2.out.pos; omega); have hw4 : ¬ (s0.length = 0) := (by omega); have hM3 := hid (hM2.out.below hb3); have hB3 := hid (Below.next hB2.out hb3 hB2.out.size); clear hb3 hv))
  obtain ⟨N, hN, hN50⟩ : ∃ N : Nat, wrap64 ((IntKind.u64.wrap n).tmod 50) = N ∧ N < 50 := by
    rw [IntKind.wrap_u64, Int.tmod_eq_emod_of_nonneg (by omega)]
    refine ⟨(n % 18446744073709551616 % 50).toNat, ?_, by omega⟩; unfold wrap64; omega
  have hpos := hM3.out.pos
  have hle := hM3.out.le
  obtain ⟨k, hk, hkl⟩ : ∃ k : Nat, wrap64 ((IntKind.u64.wrap q).tmod (s0.length : Int)) = k ∧ k < s0.length := by
    rw [IntKind.wrap_u64, Int.tmod_eq_emod_of_nonneg (by omega)]
    have h1 := Int.emod_lt_of_pos (q % 18446744073709551616) (b := (s0.length : Int)) (by omega)
    have h2 := Int.emod_nonneg (q % 18446744073709551616) (b := (s0.length : Int)) (by omega)
    refine ⟨(q % 18446744073709551616 % (s0.length : Int)).toNat, ?_, by omega⟩
    unfold wrap64; omega
  rw [hN, hk]
  have hC := hs0.out k hkl
  have hM0 := hM3.out
  have hB0 := hB3.out
  have haz : w.heap.size ≤ a := Nat.le_trans hb1.out.size ha2.out
  clear hN hk hpos hle hs0 hw1 hw2 hw3 hw4 hl0 hb1 hvl hM2 hB2 hM3 hB3 ha2
  obtain ⟨len, hln⟩ : ∃ len, len = s0.length := ⟨_, rfl⟩
  rw [← hln] at hC hkl ⊢
  clear hln
  go_wp2
  go_loopw [9] (fun i wr => ∃ (j : Nat) (s : List Part), j ≤ N ∧ i = .int .i64 j ∧ ModesAt wr p a s ∧ Cnt s len k j ∧ Below w.heap.size w wr) (fun i _ => N - (intOf i).toNat)
  case atStart => exact ⟨0, _, Nat.zero_le _, rfl, hM0, hC, hB0⟩
  case round =>
    clear hM0 hC hB0
    obtain ⟨j, s, hj, rfl, hM, hC, hB⟩ := hrel
    have hM := hid hM
    have hB := hid hB
    by_cases hjl : j < N
    · obtain ⟨e1, e2, e3, e4, e5⟩ := hC.step (by omega)
      have e5 := hid e5
      have hC := hid hC
      go_wp2_with (first | (go_at_call 18; (with_reducible refine (again_c hM.out k).mono ?_); rintro e w4 ⟨rfl, hM4, hc4⟩; rw [e1]; have hM4 := hid hM4; have hB4 := hid (chg_mine hc4 hB.out haz); clear hc4) | (go_at_call 18; (with_reducible refine (again_c hM4.out k).mono ?_); rintro e w5 ⟨rfl, hM5, hc5⟩; rw [e2]; have hM5 := hid hM5; have hB5 := hid (chg_mine hc5 hB4.out haz); clear hc5) | (go_at_call 20; (with_reducible refine (up_c hM5.out k).mono ?_); rintro e w6 ⟨rfl, hM6, hc6⟩; rw [e3]; have hM6 := hid hM6; have hB6 := hid (chg_mine hc6 hB5.out haz); clear hc6) | (go_at_call 20; (with_reducible refine (up_c hM6.out k).mono ?_); rintro e w7 ⟨rfl, hM7, hc7⟩; rw [e4]; have hM7 := hid hM7; have hB7 := hid (chg_mine hc7 hB6.out haz); clear hc7))
      go_roundw
      case rel => exact ⟨j + 1, _, hjl, by go_num, hM7.out, e5.out, hB7.out⟩
      case measure => simp [intOf]; omega
    · obtain rfl : j = N := by omega
      obtain ⟨hn, hk, hm, hs⟩ := hC
      subst hn
      have e1 : startsM s k = j := by unfold startsM; rw [at?_in hk]; exact hs
      have e2 : faultM s (s.length : Int) = (s, 0, 7) := by unfold faultM; rw [at?_out (.inr (Int.le_refl _))]
      have e3 : againM s (-1) = (s, 7) := by unfold againM; rw [at?_out (.inl (by omega))]
      have e4 : upM s (-1) = (s, false) := by unfold upM; rw [at?_out (.inl (by omega))]
      have e1 := hid e1
      have e2 := hid e2
      have e3 := hid e3
      have e4 := hid e4
      go_wp2_with (first | (go_at_call 10; (with_reducible refine (mode_nil _ _).mono ?_); rintro e w' ⟨rfl, rfl⟩) | (go_at_call 9; (with_reducible refine (fault_nil _ _).mono ?_); rintro e w' ⟨rfl, rfl⟩) | (go_at_call 11; (with_reducible refine (all_c hM.out).mono ?_); rintro e w4 ⟨v, rfl, hv, hb4⟩; obtain ⟨a4, c4, rfl⟩ := hv.shape; rw [List.length_map]; have hM4 := hid (hM.out.below hb4); have hB4 := hid (Below.next hB.out hb4 hB.out.size); clear hb4 hv) | (go_at_call 9; (with_reducible refine (fault_c hM4.out _).mono ?_); rw [e2.out]; rintro e w5 ⟨rfl, hM5, hc5⟩; have hM5 := hid hM5; have hB5 := hid (chg_mine hc5 hB4.out haz); clear hc5) | (go_at_call 22; (with_reducible refine (starts_c hM5.out _).mono ?_); rw [e1.out]; rintro e w' ⟨rfl, rfl⟩) | (go_at_call 18; (with_reducible refine (again_nil _ _).mono ?_); rintro e w' ⟨rfl, rfl⟩) | (go_at_call 20; (with_reducible refine (up_nil _ _).mono ?_); rintro e w' ⟨rfl, rfl⟩) | (go_at_call 22; (with_reducible refine (starts_nil _ _).mono ?_); rintro e w' ⟨rfl, rfl⟩) | (go_at_call 11; (with_reducible refine (all_nil _).mono ?_); rintro e w' ⟨rfl, rfl⟩) | (go_at_call 18; (with_reducible refine (again_c hM5.out _).mono ?_); rw [e3.out]; rintro e w6 ⟨rfl, hM6, hc6⟩; have hM6 := hid hM6; have hB6 := hid (chg_mine hc6 hB5.out haz); clear hc6) | (go_at_call 20; (with_reducible refine (up_c hM6.out _).mono ?_); rw [e4.out]; rintro e w7 ⟨rfl, hM7, hc7⟩; have hM7 := hid hM7; have hB7 := hid (chg_mine hc7 hB6.out haz); clear hc7))
      go_ret
      exact ⟨rfl, hB7.out⟩
end Go.Proofs.Ytfnhjendplgidaa.Lw
