/- DERIVED. Walks over the reference's bucket: New, Most. No statement is proved here. -/
import Derived.Test.YtealopempjempaaRefGate
import Derived.Test.YtealopempjempaaRegR
namespace Go.Proofs.Ytealopempjempaa.Gt
set_option linter.unusedVariables false
set_option linter.unusedSimpArgs false
open Go.RowKit Go.Proofs.Ytealopempjempaa.K Go.Proofs.Ytealopempjempaa.Lb Go.Proofs.Ytealopempjempaa.La Go.Proofs.Ytealopempjempaa.Cf
theorem rmul_s (w : World) {a b : Int} (ha : 0 ≤ a ∧ a ≤ 64) (hb : 0 ≤ b ∧ b ≤ 1000000) : Calls Try.prog 54 #[.int .i64 a, .int .i64 b] w fun e w' => e = .returned (.int .i64 (a * b)) ∧ w = w' := by
  have ea : cutT a = a := cutT_id ha.1 (by omega)
  have eb : cutT b = b := cutT_id hb.1 (by omega)
  have hca := Lb.rcut_c w a
  have hcb := Lb.rcut_c w b
  rw [ea] at hca
  rw [eb] at hcb
  have hp : 0 ≤ a * b ∧ a * b ≤ 64000000 := ⟨Int.mul_nonneg ha.1 hb.1, Int.le_trans (Int.mul_le_mul ha.2 hb.2 hb.1 (by omega)) (by omega)⟩
  have hw : IntKind.i64.wrap (a * b) = a * b := by rw [IntKind.wrap_i64]; omega
  have hw2 : wrap64 (a * b) = a * b := by unfold wrap64; omega
  replace hca := hid hca
  replace hcb := hid hcb
  by_cases h0 : 0 < a
  · have hz : (a == 0) = false := by simp; omega
    have hz2 : a ≠ 0 := by omega
    have hq1 : 4611686018427387904 / a ≥ 72057594037927936 := Int.le_ediv_of_mul_le h0 (by omega)
    have hq2 : 4611686018427387904 / a ≤ 4611686018427387904 := Int.ediv_le_self _ (by omega)
    have ht : (4611686018427387904 : Int).tdiv a = 4611686018427387904 / a := Int.tdiv_eq_ediv_of_nonneg (by omega)
    have hd : decide (wrap64 (4611686018427387904 / a) < b) = false := decide_eq_false (by unfold wrap64; omega)
    replace hp := hid hp
    clear hq1 hq2 ea eb
    go_enter Try.func54, Try.ntmps54
    go_wp2_with (first | (go_at_call 58; (with_reducible refine (hca.out).mono ?_); rintro e w' ⟨rfl, rfl⟩) | (go_at_call 58; (with_reducible refine (hcb.out).mono ?_); rintro e w' ⟨rfl, rfl⟩))
    all_goals go_ret
    all_goals first | exact ⟨rfl, rfl⟩ | (exfalso; simp_all)
  · have hz : decide (0 < a) = false := decide_eq_false h0
    replace hp := hid hp
    clear ea eb
    go_enter Try.func54, Try.ntmps54
    go_wp2_with (first | (go_at_call 58; (with_reducible refine (hca.out).mono ?_); rintro e w' ⟨rfl, rfl⟩) | (go_at_call 58; (with_reducible refine (hcb.out).mono ?_); rintro e w' ⟨rfl, rfl⟩))
    all_goals go_ret
    all_goals first | exact ⟨rfl, rfl⟩ | (exfalso; simp_all)
set_option maxRecDepth 100000 in
theorem rnew_c (w : World) (rate limit : Int) : Calls Try.prog 52 #[.int .i64 rate, .int .i64 limit] w fun e w' => e = .returned (.agg #[.int .i64 (newB rate limit).rate, .int .i64 (newB rate limit).cap, .int .i64 (newB rate limit).tokens, .int .i64 (newB rate limit).round]) ∧ Below w.heap.size w w' := by
  have h1 := minTwo
  have h2 := maxTwo
  go_enter Try.func52, Try.ntmps52
  go_wp2
  refine bodyPost_ret (v := .agg #[.int .i64 (newB rate limit).rate, .int .i64 (newB rate limit).cap, .int .i64 (newB rate limit).tokens, .int .i64 (newB rate limit).round]) (by simp [results, Try.results52, go_sem, newB]) rfl ⟨rfl, (Below.refl w.heap.size w).alloc (Nat.le_refl _) _⟩
set_option maxRecDepth 100000 in
theorem most_c (w : World) (rate limit : Int) {n : Int} (hn0 : 0 ≤ n ∧ n ≤ 1000000) : Calls Try.prog 25 #[.int .i64 rate, .int .i64 limit, .int .i64 n] w fun e w' => e = .returned (.int .i64 (addT (newB rate limit).cap ((newB rate limit).rate * n))) ∧ Below w.heap.size w w' := by
  have hrt := hid (newB_ok rate limit).r
  have hn := hid hn0
  clear hn0
  go_enter Try.func25, Try.ntmps25
  go_upto_region 2 with (first | (go_at_call 52; (with_reducible refine (rnew_c _ rate limit).mono ?_); rintro e W ⟨rfl, hb⟩; have hB := hid (pts.newA W #[.int .i64 (newB rate limit).rate, .int .i64 (newB rate limit).cap, .int .i64 (newB rate limit).tokens, .int .i64 (newB rate limit).round] 58); have hBb := hid (hb.alloc hb.size (.cells #[.int .i64 (newB rate limit).rate, .int .i64 (newB rate limit).cap, .int .i64 (newB rate limit).tokens, .int .i64 (newB rate limit).round] 58)); have hBl := hid (show w.heap.size ≤ (W.alloc (.cells #[.int .i64 (newB rate limit).rate, .int .i64 (newB rate limit).cap, .int .i64 (newB rate limit).tokens, .int .i64 (newB rate limit).round] 58)).heap.size from by have := hb.size; simp; omega); clear hb))
  generalize W.alloc (.cells #[.int .i64 (newB rate limit).rate, .int .i64 (newB rate limit).cap, .int .i64 (newB rate limit).tokens, .int .i64 (newB rate limit).round] 58) = W2 at hB hBb hBl ⊢
  obtain ⟨bb, hbb⟩ : ∃ bb, bb = W.heap.size := ⟨_, rfl⟩
  rw [← hbb] at hB ⊢
  replace hbb := hid hbb
  -- REG empennage/empennageref11.Most|2|Most.2
  refine region_tab 7 [Sp.eq (.pointer (some ⟨bb, 1, none⟩)), Sp.eq (.int .i64 (newB rate limit).cap), Sp.eq (.pointer (some ⟨bb, 0, none⟩)), Sp.eq (.int .i64 (newB rate limit).rate), Sp.eq (.int .i64 n), Sp.eq (.int .i64 ((newB rate limit).rate * n)), Sp.eq (.int .i64 (addT (newB rate limit).cap ((newB rate limit).rate * n)))] (fun _ _ _ _ _ h => h) (by kernel_rfl) (by kernel_rfl) ⟨?_, ?_, ?_, ?_, ?_, ?_, ?_, trivial⟩ ?_
  · intro ac gs u hb hg h
    have e7 : ac.tmps[7]?.getD undef = .pointer (some ⟨bb, 0, none⟩) := h.inm 7 rfl rfl
    refine opFree rfl ?_
    exact relRun (v := .pointer (some ⟨bb, 1, none⟩)) (w' := u) (by simp [go_sem, e7]) (okP hg rfl)
  · intro ac gs u hb hg h
    have e11 : ac.tmps[11]?.getD undef = .pointer (some ⟨bb, 1, none⟩) := h.tm 0 11 rfl rfl
    refine opFree rfl ?_
    exact relRun (v := .int .i64 (newB rate limit).cap) (w' := u) (by simp [go_sem, e11, ((hB.out.below hb).cell 1)]) (okP hg rfl)
  · intro ac gs u hb hg h
    have e7 : ac.tmps[7]?.getD undef = .pointer (some ⟨bb, 0, none⟩) := h.inm 7 rfl rfl
    refine opFree rfl ?_
    exact relRun (v := .pointer (some ⟨bb, 0, none⟩)) (w' := u) (by simp [go_sem, e7]) (okP hg rfl)
  · intro ac gs u hb hg h
    have e13 : ac.tmps[13]?.getD undef = .pointer (some ⟨bb, 0, none⟩) := h.tm 2 13 rfl rfl
    refine opFree rfl ?_
    exact relRun (v := .int .i64 (newB rate limit).rate) (w' := u) (by simp [go_sem, e13, ((hB.out.below hb).cell 0)]) (okP hg rfl)
  · intro ac gs u hb hg h
    have e2 : ac.tmps[2]?.getD undef = .int .i64 n := h.inm 2 rfl rfl
    refine opFree rfl ?_
    exact relMoveT _ rfl e2 (okP hg rfl)
  · intro ac gs u hb hg h
    have e14 : ac.tmps[14]?.getD undef = .int .i64 (newB rate limit).rate := h.tm 3 14 rfl rfl
    have e15 : ac.tmps[15]?.getD undef = .int .i64 n := h.tm 4 15 rfl rfl
    refine opFree rfl ?_
    refine relCall (f := _) (args := #[.int .i64 (newB rate limit).rate, .int .i64 n]) (by simp [go_sem, e14, e15]; rfl) ?_
    refine (rmul_s u hrt.out hn.out).mono ?_
    rintro e w' ⟨rfl, rfl⟩
    exact ⟨_, rfl, okP hg rfl⟩
  · intro ac gs u hb hg h
    have e12 : ac.tmps[12]?.getD undef = .int .i64 (newB rate limit).cap := h.tm 1 12 rfl rfl
    have e16 : ac.tmps[16]?.getD undef = .int .i64 ((newB rate limit).rate * n) := h.tm 5 16 rfl rfl
    refine opFree rfl ?_
    refine relCall (f := _) (args := #[.int .i64 (newB rate limit).cap, .int .i64 ((newB rate limit).rate * n)]) (by simp [go_sem, e12, e16]; rfl) ?_
    refine (radd_c u (newB rate limit).cap ((newB rate limit).rate * n)).mono ?_
    rintro e w' ⟨rfl, rfl⟩
    exact ⟨_, rfl, okP hg rfl⟩
  intro vs gs u hb hg hr
  have r0 : vs 0 = .pointer (some ⟨bb, 1, none⟩) := hr 0 (by decide)
  have r1 : vs 1 = .int .i64 (newB rate limit).cap := hr 1 (by decide)
  have r2 : vs 2 = .pointer (some ⟨bb, 0, none⟩) := hr 2 (by decide)
  have r3 : vs 3 = .int .i64 (newB rate limit).rate := hr 3 (by decide)
  have r4 : vs 4 = .int .i64 n := hr 4 (by decide)
  have r5 : vs 5 = .int .i64 ((newB rate limit).rate * n) := hr 5 (by decide)
  have r6 : vs 6 = .int .i64 (addT (newB rate limit).cap ((newB rate limit).rate * n)) := hr 6 (by decide)
  simp only [List.take_succ_cons, List.take_zero, List.drop_succ_cons, List.drop_zero, putOps, r0, r1, r2, r3, r4, r5, r6]
  simp only [Act.put, List.setIfInBounds_toArray, List.set_cons_succ, List.set_cons_zero]
  clear hr r0 r1 r2 r3 r4 r5 r6
  -- GER
  go_wp2
  go_ret
  exact ⟨rfl, Below.next hBb.out hb hBl.out⟩
end Go.Proofs.Ytealopempjempaa.Gt
