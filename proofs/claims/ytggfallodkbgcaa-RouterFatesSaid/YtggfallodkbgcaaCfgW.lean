/- DERIVED. Walks over the reference's making of configs that may be: near, channel. No statement is proved here. -/
import Derived.Test.YtggfallodkbgcaaCfgP
import Derived.Test.YtggfallodkbgcaaLibA
import Derived.Test.YtggfallodkbgcaaRegR
import Derived.Test.YtggfallodkbgcaaLaneH
namespace Go.Proofs.Ytggfallodkbgcaa.Cf
set_option linter.unusedVariables false
set_option linter.unusedSimpArgs false
open Go.RowKit Go.Proofs.Ytggfallodkbgcaa.K Go.Proofs.Ytggfallodkbgcaa.Lb
theorem near_eq {n least many : Int} (h0 : 0 < many) (h1 : many ≤ 1000) (h2 : -1000 ≤ least) (h3 : least ≤ 1000) : wrap64 (least + wrap64 ((IntKind.u64.wrap n).tmod (IntKind.u64.wrap many))) = nearT n least many := by
  have hm : IntKind.u64.wrap many = many := by rw [IntKind.wrap_u64]; omega
  rw [hm, IntKind.wrap_u64, Int.tmod_eq_emod_of_nonneg (by omega)]
  have h4 := Int.emod_nonneg (n % 18446744073709551616) (show many ≠ 0 by omega)
  have h5 := Int.emod_lt_of_pos (n % 18446744073709551616) h0
  unfold nearT
  generalize n % 18446744073709551616 % many = r at h4 h5
  unfold wrap64; omega
theorem near_c (w : World) (n least many : Int) (h0 : 0 < many) (h1 : many ≤ 1000) (h2 : -1000 ≤ least) (h3 : least ≤ 1000) : Calls Try.prog 46 #[.int .i64 n, .int .i64 least, .int .i64 many] w fun e w' => e = .returned (.int .i64 (nearT n least many)) ∧ w = w' := by
  have hm : IntKind.u64.wrap many = many := by rw [IntKind.wrap_u64]; omega
  have hz : (many == 0) = false := by simp; omega
  have hfin := hid (near_eq (n := n) h0 h1 h2 h3)
  rw [hm] at hfin
  go_enter Try.func46, Try.ntmps46
  go_wp2
  go_ret
  exact ⟨rint hfin.out, rfl⟩
theorem ch_w1 {P : Int} (hP : 2 ≤ P ∧ P ≤ 4) : IntKind.i64.wrap (P - 1) = P - 1 := by rw [IntKind.wrap_i64]; omega
theorem ch_w2 {P : Int} (a b : Int) (hP : 2 ≤ P ∧ P ≤ 4) : IntKind.i64.wrap (nearT a 0 P + nearT b 1 (P - 1)) = nearT a 0 P + nearT b 1 (P - 1) := by
  have h1 := nearT_in (n := a) (least := 0) (many := P) (by omega)
  have h2 := nearT_in (n := b) (least := 1) (many := P - 1) (by omega)
  rw [IntKind.wrap_i64]; omega
theorem ch_w3 {P : Int} (a b : Int) (hP : 2 ≤ P ∧ P ≤ 4) : (nearT a 0 P + nearT b 1 (P - 1)).tmod P = (nearT a 0 P + nearT b 1 (P - 1)) % P := by
  have h1 := nearT_in (n := a) (least := 0) (many := P) (by omega)
  have h2 := nearT_in (n := b) (least := 1) (many := P - 1) (by omega)
  exact Int.tmod_eq_emod_of_nonneg (by omega)
theorem ch_w4 {P : Int} (hP : 2 ≤ P ∧ P ≤ 4) : P ≠ 0 := by omega
set_option maxHeartbeats 4000000 in
set_option maxRecDepth 100000 in
theorem channel_c (w : World) (k : Chan) {P : Int} (hP0 : 2 ≤ P ∧ P ≤ 4) (hk : nearT k.kind 0 2 ≠ 0) : Calls Try.prog 47 #[aggC k, .int .i64 P] w fun e w' => e = .returned (aggC (goodChan P k)) ∧ Below w.heap.size w w' := by
  have hP := hid hP0
  have hbA := (Below.refl w.heap.size w).alloc (Nat.le_refl _) (.cells #[.int .i64 k.kind, .int .i64 k.frm, .int .i64 k.to, .int .i64 k.words, .int .i64 k.refresh, .int .i64 k.lanes, .int .i64 k.depth, .int .i64 k.hold, .int .i64 k.life, .int .i64 k.rate, .int .i64 k.cap] 23)
  have hbA2 := hbA.alloc hbA.size (.cells #[.int .i64 0, .int .i64 0, .int .i64 0, .int .i64 0, .int .i64 0, .int .i64 0, .int .i64 0, .int .i64 0, .int .i64 0, .int .i64 0, .int .i64 0] 23)
  have hK := hid ((pts.newA w #[.int .i64 k.kind, .int .i64 k.frm, .int .i64 k.to, .int .i64 k.words, .int .i64 k.refresh, .int .i64 k.lanes, .int .i64 k.depth, .int .i64 k.hold, .int .i64 k.life, .int .i64 k.rate, .int .i64 k.cap] 23).alloc (.cells #[.int .i64 0, .int .i64 0, .int .i64 0, .int .i64 0, .int .i64 0, .int .i64 0, .int .i64 0, .int .i64 0, .int .i64 0, .int .i64 0, .int .i64 0] 23))
  have hR := hid (pts.newA (w.alloc (.cells #[.int .i64 k.kind, .int .i64 k.frm, .int .i64 k.to, .int .i64 k.words, .int .i64 k.refresh, .int .i64 k.lanes, .int .i64 k.depth, .int .i64 k.hold, .int .i64 k.life, .int .i64 k.rate, .int .i64 k.cap] 23)) #[.int .i64 0, .int .i64 0, .int .i64 0, .int .i64 0, .int .i64 0, .int .i64 0, .int .i64 0, .int .i64 0, .int .i64 0, .int .i64 0, .int .i64 0] 23)
  replace hbA2 := hid hbA2
  clear hbA hP0
  unfold aggC
  go_enter Try.func47, Try.ntmps47
  go_upto_region 1 with fail
  generalize (w.alloc (.cells #[.int .i64 k.kind, .int .i64 k.frm, .int .i64 k.to, .int .i64 k.words, .int .i64 k.refresh, .int .i64 k.lanes, .int .i64 k.depth, .int .i64 k.hold, .int .i64 k.life, .int .i64 k.rate, .int .i64 k.cap] 23)).alloc (.cells #[.int .i64 0, .int .i64 0, .int .i64 0, .int .i64 0, .int .i64 0, .int .i64 0, .int .i64 0, .int .i64 0, .int .i64 0, .int .i64 0, .int .i64 0] 23) = W at hbA2 hK hR ⊢
  obtain ⟨kb, hkb⟩ : ∃ kb, kb = w.heap.size := ⟨_, rfl⟩
  obtain ⟨rb, hrb⟩ : ∃ rb, rb = w.heap.size + 1 := ⟨_, rfl⟩
  have hR : Hid (pts W rb [.int .i64 0, .int .i64 0, .int .i64 0, .int .i64 0, .int .i64 0, .int .i64 0, .int .i64 0, .int .i64 0, .int .i64 0, .int .i64 0, .int .i64 0] 23) := hid (by simpa [hrb] using hR.out)
  rw [← hrb, ← hkb]
  rw [← hkb] at hK
  replace hkb := hid hkb
  replace hrb := hid hrb
  -- REG empennage/empennageref04.channel|1|channel.1
  refine region_tab 12 [Sp.eq (.pointer (some ⟨kb, 0, none⟩)), Sp.eq (.int .i64 k.kind), Sp.eq (.int .i64 (nearT k.kind 0 2)), Sp.eq (.pointer (some ⟨kb, 1, none⟩)), Sp.eq (.int .i64 k.frm), Sp.eq (.int .i64 P), Sp.eq (.int .i64 (nearT k.frm 0 P)), Sp.eq (.pointer (some ⟨kb, 3, none⟩)), Sp.eq (.int .i64 k.words), Sp.eq (.int .i64 (nearT k.words 1 4)), Sp.eq (.agg #[.int .i64 (nearT k.kind 0 2), .int .i64 (nearT k.frm 0 P), .int .i64 0, .int .i64 (nearT k.words 1 4), .int .i64 0, .int .i64 0, .int .i64 0, .int .i64 0, .int .i64 0, .int .i64 0, .int .i64 0]), Sp.box 23 [.int .i64 0, .int .i64 0, .int .i64 0, .int .i64 0, .int .i64 0, .int .i64 0, .int .i64 0, .int .i64 0, .int .i64 0, .int .i64 0, .int .i64 0]] (fun _ _ _ _ _ h => h) (by kernel_rfl) (by kernel_rfl) ⟨?_, ?_, ?_, ?_, ?_, ?_, ?_, ?_, ?_, ?_, ?_, ?_, trivial⟩ ?_
  · intro ac gs u hb hg h
    have e2 : ac.tmps[2]?.getD undef = .pointer (some ⟨kb, 0, none⟩) := h.inm 2 rfl rfl
    refine opFree rfl ?_
    exact relRun (v := .pointer (some ⟨kb, 0, none⟩)) (w' := u) (by simp [go_sem, e2]) (okP hg rfl)
  · intro ac gs u hb hg h
    have e6 : ac.tmps[6]?.getD undef = .pointer (some ⟨kb, 0, none⟩) := h.tm 0 6 rfl rfl
    refine opFree rfl ?_
    exact relRun (v := .int .i64 k.kind) (w' := u) (by simp [go_sem, e6, ((hK.out.below hb).cell 0)]) (okP hg rfl)
  · intro ac gs u hb hg h
    have e7 : ac.tmps[7]?.getD undef = .int .i64 k.kind := h.tm 1 7 rfl rfl
    refine opFree rfl ?_
    refine relCall (f := _) (args := #[.int .i64 k.kind, .int .i64 0, .int .i64 2]) (by simp [go_sem, e7]; rfl) ?_
    refine (near_c u k.kind 0 2 (by omega) (by omega) (by omega) (by omega)).mono ?_
    rintro e w' ⟨rfl, rfl⟩
    exact ⟨_, rfl, okP hg rfl⟩
  · intro ac gs u hb hg h
    have e2 : ac.tmps[2]?.getD undef = .pointer (some ⟨kb, 0, none⟩) := h.inm 2 rfl rfl
    refine opFree rfl ?_
    exact relRun (v := .pointer (some ⟨kb, 1, none⟩)) (w' := u) (by simp [go_sem, e2]) (okP hg rfl)
  · intro ac gs u hb hg h
    have e9 : ac.tmps[9]?.getD undef = .pointer (some ⟨kb, 1, none⟩) := h.tm 3 9 rfl rfl
    refine opFree rfl ?_
    exact relRun (v := .int .i64 k.frm) (w' := u) (by simp [go_sem, e9, ((hK.out.below hb).cell 1)]) (okP hg rfl)
  · intro ac gs u hb hg h
    have e1 : ac.tmps[1]?.getD undef = .int .i64 P := h.inm 1 rfl rfl
    refine opFree rfl ?_
    exact relMoveT _ rfl e1 (okP hg rfl)
  · intro ac gs u hb hg h
    have e10 : ac.tmps[10]?.getD undef = .int .i64 k.frm := h.tm 4 10 rfl rfl
    have e11 : ac.tmps[11]?.getD undef = .int .i64 P := h.tm 5 11 rfl rfl
    refine opFree rfl ?_
    refine relCall (f := _) (args := #[.int .i64 k.frm, .int .i64 0, .int .i64 P]) (by simp [go_sem, e10, e11]; rfl) ?_
    refine (near_c u k.frm 0 P (by have := hP.out; omega) (by have := hP.out; omega) (by omega) (by omega)).mono ?_
    rintro e w' ⟨rfl, rfl⟩
    exact ⟨_, rfl, okP hg rfl⟩
  · intro ac gs u hb hg h
    have e2 : ac.tmps[2]?.getD undef = .pointer (some ⟨kb, 0, none⟩) := h.inm 2 rfl rfl
    refine opFree rfl ?_
    exact relRun (v := .pointer (some ⟨kb, 3, none⟩)) (w' := u) (by simp [go_sem, e2]) (okP hg rfl)
  · intro ac gs u hb hg h
    have e13 : ac.tmps[13]?.getD undef = .pointer (some ⟨kb, 3, none⟩) := h.tm 7 13 rfl rfl
    refine opFree rfl ?_
    exact relRun (v := .int .i64 k.words) (w' := u) (by simp [go_sem, e13, ((hK.out.below hb).cell 3)]) (okP hg rfl)
  · intro ac gs u hb hg h
    have e14 : ac.tmps[14]?.getD undef = .int .i64 k.words := h.tm 8 14 rfl rfl
    refine opFree rfl ?_
    refine relCall (f := _) (args := #[.int .i64 k.words, .int .i64 1, .int .i64 4]) (by simp [go_sem, e14]; rfl) ?_
    refine (near_c u k.words 1 4 (by omega) (by omega) (by omega) (by omega)).mono ?_
    rintro e w' ⟨rfl, rfl⟩
    exact ⟨_, rfl, okP hg rfl⟩
  · intro ac gs u hb hg h
    have e8 : ac.tmps[8]?.getD undef = .int .i64 (nearT k.kind 0 2) := h.tm 2 8 rfl rfl
    have e12 : ac.tmps[12]?.getD undef = .int .i64 (nearT k.frm 0 P) := h.tm 6 12 rfl rfl
    have e15 : ac.tmps[15]?.getD undef = .int .i64 (nearT k.words 1 4) := h.tm 9 15 rfl rfl
    refine opFree rfl ?_
    exact relRun (v := .agg #[.int .i64 (nearT k.kind 0 2), .int .i64 (nearT k.frm 0 P), .int .i64 0, .int .i64 (nearT k.words 1 4), .int .i64 0, .int .i64 0, .int .i64 0, .int .i64 0, .int .i64 0, .int .i64 0, .int .i64 0]) (w' := u) (by simp [go_sem, e8, e12, e15]) (okP hg rfl)
  · intro ac gs u hb hg h
    refine opFree rfl ?_
    exact relRun (v := .pointer (some ⟨u.heap.size, 0, none⟩)) (w' := u.alloc (.cells #[.int .i64 0, .int .i64 0, .int .i64 0, .int .i64 0, .int .i64 0, .int .i64 0, .int .i64 0, .int .i64 0, .int .i64 0, .int .i64 0, .int .i64 0] 23)) (by simp [go_sem]) (okA _ hg ⟨_, rfl, List.mem_cons_self, pts.newA u _ _⟩)
  intro vs gs u hb hg hr
  have r0 : vs 0 = .pointer (some ⟨kb, 0, none⟩) := hr 0 (by decide)
  have r1 : vs 1 = .int .i64 k.kind := hr 1 (by decide)
  have r2 : vs 2 = .int .i64 (nearT k.kind 0 2) := hr 2 (by decide)
  have r3 : vs 3 = .pointer (some ⟨kb, 1, none⟩) := hr 3 (by decide)
  have r4 : vs 4 = .int .i64 k.frm := hr 4 (by decide)
  have r5 : vs 5 = .int .i64 P := hr 5 (by decide)
  have r6 : vs 6 = .int .i64 (nearT k.frm 0 P) := hr 6 (by decide)
  have r7 : vs 7 = .pointer (some ⟨kb, 3, none⟩) := hr 7 (by decide)
  have r8 : vs 8 = .int .i64 k.words := hr 8 (by decide)
  have r9 : vs 9 = .int .i64 (nearT k.words 1 4) := hr 9 (by decide)
  have r10 : vs 10 = .agg #[.int .i64 (nearT k.kind 0 2), .int .i64 (nearT k.frm 0 P), .int .i64 0, .int .i64 (nearT k.words 1 4), .int .i64 0, .int .i64 0, .int .i64 0, .int .i64 0, .int .i64 0, .int .i64 0, .int .i64 0] := hr 10 (by decide)
  have r11 := hr 11 (by decide)
  obtain ⟨nb, e5, hnb, hbx⟩ := r11
  simp only [List.take_succ_cons, List.take_zero, List.drop_succ_cons, List.drop_zero, putOps, r0, r1, r2, r3, r4, r5, r6, r7, r8, r9, r10, e5]
  simp only [Act.put, List.setIfInBounds_toArray, List.set_cons_succ, List.set_cons_zero]
  clear hr r0 r1 r2 r3 r4 r5 r6 r7 r8 r9 r10 e5
  -- GER
  have hnb0 := (hg nb hnb).1
  have bx0 := (hbx).cell 0
  have bx1 := (hbx).cell 1
  have bx2 := (hbx).cell 2
  have bx3 := (hbx).cell 3
  have bx4 := (hbx).cell 4
  have bx5 := (hbx).cell 5
  have bx6 := (hbx).cell 6
  have bx7 := (hbx).cell 7
  have bx8 := (hbx).cell 8
  have bx9 := (hbx).cell 9
  have bx10 := (hbx).cell 10
  have bxl := (hbx).lt
  have bxf := fun o => (hbx).frozen o
  simp only [List.getElem?_cons_zero, List.getElem?_cons_succ] at bx0 bx1 bx2 bx3 bx4 bx5 bx6 bx7 bx8 bx9 bx10
  have hset := (((((((((((hbx.set 0 (.int .i64 (nearT k.kind 0 2))).set 1 (.int .i64 (nearT k.frm 0 P))).set 2 (.int .i64 0)).set 3 (.int .i64 (nearT k.words 1 4))).set 4 (.int .i64 0)).set 5 (.int .i64 0)).set 6 (.int .i64 0)).set 7 (.int .i64 0)).set 8 (.int .i64 0)).set 9 (.int .i64 0)).set 10 (.int .i64 0))
  simp only [List.set_cons_zero, List.set_cons_succ] at hset
  have hbW := (Below.setCell (p := ⟨nb, 10, none⟩) (Below.setCell (p := ⟨nb, 9, none⟩) (Below.setCell (p := ⟨nb, 8, none⟩) (Below.setCell (p := ⟨nb, 7, none⟩) (Below.setCell (p := ⟨nb, 6, none⟩) (Below.setCell (p := ⟨nb, 5, none⟩) (Below.setCell (p := ⟨nb, 4, none⟩) (Below.setCell (p := ⟨nb, 3, none⟩) (Below.setCell (p := ⟨nb, 2, none⟩) (Below.setCell (p := ⟨nb, 1, none⟩) (Below.setCell (p := ⟨nb, 0, none⟩) hb hnb0 (.int .i64 (nearT k.kind 0 2))) hnb0 (.int .i64 (nearT k.frm 0 P))) hnb0 (.int .i64 0)) hnb0 (.int .i64 (nearT k.words 1 4))) hnb0 (.int .i64 0)) hnb0 (.int .i64 0)) hnb0 (.int .i64 0)) hnb0 (.int .i64 0)) hnb0 (.int .i64 0)) hnb0 (.int .i64 0)) hnb0 (.int .i64 0))
  have hK1 := hid (hK.out.below hbW)
  have hR1 := hid (hR.out.below hbW)
  have hnk := hid (show nb ≠ kb from fun e => by have := hK.out.lt; omega)
  have hnr := hid (show nb ≠ rb from fun e => by have := hR.out.lt; omega)
  have hnw := hid (show w.heap.size ≤ nb from Nat.le_trans hbA2.out.size hnb0)
  have hB1 := hid (Below.next hbA2.out hbW hbA2.out.size)
  replace hset := hid hset
  clear hbx hb hg hbW hnb0 hnb
  go_upto_region 2 with fail
  generalize (((((((((((u.setCell ⟨nb, 0, none⟩ (.int .i64 (nearT k.kind 0 2))).setCell ⟨nb, 1, none⟩ (.int .i64 (nearT k.frm 0 P))).setCell ⟨nb, 2, none⟩ (.int .i64 0)).setCell ⟨nb, 3, none⟩ (.int .i64 (nearT k.words 1 4))).setCell ⟨nb, 4, none⟩ (.int .i64 0)).setCell ⟨nb, 5, none⟩ (.int .i64 0)).setCell ⟨nb, 6, none⟩ (.int .i64 0)).setCell ⟨nb, 7, none⟩ (.int .i64 0)).setCell ⟨nb, 8, none⟩ (.int .i64 0)).setCell ⟨nb, 9, none⟩ (.int .i64 0)).setCell ⟨nb, 10, none⟩ (.int .i64 0)) = W1 at hset hK1 hR1 hB1 ⊢
  clear bx0 bx1 bx2 bx3 bx4 bx5 bx6 bx7 bx8 bx9 bx10 bxl bxf
  have hN := hset
  clear hset
  -- REG empennage/empennageref04.channel|2|channel.2
  refine region_tab 11 [Sp.eq (.pointer (some ⟨nb, 1, none⟩)), Sp.eq (.int .i64 (nearT k.frm 0 P)), Sp.eq (.pointer (some ⟨kb, 2, none⟩)), Sp.eq (.int .i64 k.to), Sp.eq (.int .i64 P), Sp.eq (.int .i64 (P - 1)), Sp.eq (.int .i64 (nearT k.to 1 (P - 1))), Sp.eq (.int .i64 (nearT k.frm 0 P + nearT k.to 1 (P - 1))), Sp.eq (.int .i64 P), Sp.eq (.int .i64 ((nearT k.frm 0 P + nearT k.to 1 (P - 1)) % P)), Sp.eq (.pointer (some ⟨nb, 2, none⟩))] (fun _ _ _ _ _ h => h) (by kernel_rfl) (by kernel_rfl) ⟨?_, ?_, ?_, ?_, ?_, ?_, ?_, ?_, ?_, ?_, ?_, trivial⟩ ?_
  · intro ac gs u hb hg h
    have e5 : ac.tmps[5]?.getD undef = .pointer (some ⟨nb, 0, none⟩) := h.inm 5 rfl rfl
    refine opFree rfl ?_
    exact relRun (v := .pointer (some ⟨nb, 1, none⟩)) (w' := u) (by simp [go_sem, e5]) (okP hg rfl)
  · intro ac gs u hb hg h
    have e17 : ac.tmps[17]?.getD undef = .pointer (some ⟨nb, 1, none⟩) := h.tm 0 17 rfl rfl
    refine opFree rfl ?_
    exact relRun (v := .int .i64 (nearT k.frm 0 P)) (w' := u) (by simp [go_sem, e17, ((hN.out.below hb).cell 1)]) (okP hg rfl)
  · intro ac gs u hb hg h
    have e2 : ac.tmps[2]?.getD undef = .pointer (some ⟨kb, 0, none⟩) := h.inm 2 rfl rfl
    refine opFree rfl ?_
    exact relRun (v := .pointer (some ⟨kb, 2, none⟩)) (w' := u) (by simp [go_sem, e2]) (okP hg rfl)
  · intro ac gs u hb hg h
    have e19 : ac.tmps[19]?.getD undef = .pointer (some ⟨kb, 2, none⟩) := h.tm 2 19 rfl rfl
    refine opFree rfl ?_
    exact relRun (v := .int .i64 k.to) (w' := u) (by simp [go_sem, e19, ((hK1.out.below hb).cell 2)]) (okP hg rfl)
  · intro ac gs u hb hg h
    have e1 : ac.tmps[1]?.getD undef = .int .i64 P := h.inm 1 rfl rfl
    refine opFree rfl ?_
    exact relMoveT _ rfl e1 (okP hg rfl)
  · intro ac gs u hb hg h
    have e21 : ac.tmps[21]?.getD undef = .int .i64 P := h.tm 4 21 rfl rfl
    refine opFree rfl ?_
    exact relRun (v := .int .i64 (P - 1)) (w' := u) (by simp [go_sem, e21, (ch_w1 hP.out)]) (okP hg rfl)
  · intro ac gs u hb hg h
    have e20 : ac.tmps[20]?.getD undef = .int .i64 k.to := h.tm 3 20 rfl rfl
    have e22 : ac.tmps[22]?.getD undef = .int .i64 (P - 1) := h.tm 5 22 rfl rfl
    refine opFree rfl ?_
    refine relCall (f := _) (args := #[.int .i64 k.to, .int .i64 1, .int .i64 (P - 1)]) (by simp [go_sem, e20, e22]; rfl) ?_
    refine (near_c u k.to 1 (P - 1) (by have := hP.out; omega) (by have := hP.out; omega) (by omega) (by omega)).mono ?_
    rintro e w' ⟨rfl, rfl⟩
    exact ⟨_, rfl, okP hg rfl⟩
  · intro ac gs u hb hg h
    have e18 : ac.tmps[18]?.getD undef = .int .i64 (nearT k.frm 0 P) := h.tm 1 18 rfl rfl
    have e23 : ac.tmps[23]?.getD undef = .int .i64 (nearT k.to 1 (P - 1)) := h.tm 6 23 rfl rfl
    refine opFree rfl ?_
    exact relRun (v := .int .i64 (nearT k.frm 0 P + nearT k.to 1 (P - 1))) (w' := u) (by simp [go_sem, e18, e23, (ch_w2 k.frm k.to hP.out)]) (okP hg rfl)
  · intro ac gs u hb hg h
    have e1 : ac.tmps[1]?.getD undef = .int .i64 P := h.inm 1 rfl rfl
    refine opFree rfl ?_
    exact relMoveT _ rfl e1 (okP hg rfl)
  · intro ac gs u hb hg h
    have e24 : ac.tmps[24]?.getD undef = .int .i64 (nearT k.frm 0 P + nearT k.to 1 (P - 1)) := h.tm 7 24 rfl rfl
    have e25 : ac.tmps[25]?.getD undef = .int .i64 P := h.tm 8 25 rfl rfl
    refine opFree rfl ?_
    exact relRun (v := .int .i64 ((nearT k.frm 0 P + nearT k.to 1 (P - 1)) % P)) (w' := u) (by simp [go_sem, e24, e25, (ch_w3 k.frm k.to hP.out), (ch_w4 hP.out)]) (okP hg rfl)
  · intro ac gs u hb hg h
    have e5 : ac.tmps[5]?.getD undef = .pointer (some ⟨nb, 0, none⟩) := h.inm 5 rfl rfl
    refine opFree rfl ?_
    exact relRun (v := .pointer (some ⟨nb, 2, none⟩)) (w' := u) (by simp [go_sem, e5]) (okP hg rfl)
  intro vs gs u hb hg hr
  have r0 : vs 0 = .pointer (some ⟨nb, 1, none⟩) := hr 0 (by decide)
  have r1 : vs 1 = .int .i64 (nearT k.frm 0 P) := hr 1 (by decide)
  have r2 : vs 2 = .pointer (some ⟨kb, 2, none⟩) := hr 2 (by decide)
  have r3 : vs 3 = .int .i64 k.to := hr 3 (by decide)
  have r4 : vs 4 = .int .i64 P := hr 4 (by decide)
  have r5 : vs 5 = .int .i64 (P - 1) := hr 5 (by decide)
  have r6 : vs 6 = .int .i64 (nearT k.to 1 (P - 1)) := hr 6 (by decide)
  have r7 : vs 7 = .int .i64 (nearT k.frm 0 P + nearT k.to 1 (P - 1)) := hr 7 (by decide)
  have r8 : vs 8 = .int .i64 P := hr 8 (by decide)
  have r9 : vs 9 = .int .i64 ((nearT k.frm 0 P + nearT k.to 1 (P - 1)) % P) := hr 9 (by decide)
  have r10 : vs 10 = .pointer (some ⟨nb, 2, none⟩) := hr 10 (by decide)
  simp only [List.take_succ_cons, List.take_zero, List.drop_succ_cons, List.drop_zero, putOps, r0, r1, r2, r3, r4, r5, r6, r7, r8, r9, r10]
  simp only [Act.put, List.setIfInBounds_toArray, List.set_cons_succ, List.set_cons_zero]
  clear hr r0 r1 r2 r3 r4 r5 r6 r7 r8 r9 r10
  -- GER
  have hN2 := hid (hN.out.below hb)
  have hK2 := hid (hK1.out.below hb)
  have hR2 := hid (hR1.out.below hb)
  have hB2 := hid (Below.next hB1.out hb (Nat.le_trans hB1.out.size (Nat.le_refl _)))
  clear hb hg hN hK1 hR1 hB1
  have x0 := hN2.out.cell 0
  have n0 := hN2.out.cell 2
  have nl := hN2.out.lt
  have nf := fun o => hN2.out.frozen o
  simp only [List.getElem?_cons_zero, List.getElem?_cons_succ] at x0 n0
  have hN3 := hN2.out.set 2 (.int .i64 ((nearT k.frm 0 P + nearT k.to 1 (P - 1)) % P))
  simp only [List.set_cons_zero, List.set_cons_succ] at hN3
  replace hN3 := hid hN3
  have hK3 := hid (pts.of (w' := (u.setCell ⟨nb, 2, none⟩ (.int .i64 ((nearT k.frm 0 P + nearT k.to 1 (P - 1)) % P)))) hK2.out (Below.heap_setCell _ _ _ _ (Ne.symm hnk.out)))
  have hR3 := hid (pts.of (w' := (u.setCell ⟨nb, 2, none⟩ (.int .i64 ((nearT k.frm 0 P + nearT k.to 1 (P - 1)) % P)))) hR2.out (Below.heap_setCell _ _ _ _ (Ne.symm hnr.out)))
  have hB3 := hid (Below.setCell (p := ⟨nb, 2, none⟩) hB2.out hnw.out (.int .i64 ((nearT k.frm 0 P + nearT k.to 1 (P - 1)) % P)))
  go_upto_region 3 with (fail)
  generalize (u.setCell ⟨nb, 2, none⟩ (.int .i64 ((nearT k.frm 0 P + nearT k.to 1 (P - 1)) % P))) = W3 at hN3 hK3 hR3 hB3 ⊢
  clear x0 n0 nl nf hN2 hK2 hR2 hB2
  have c0 := hN3.out.cell 0
  simp only [List.getElem?_cons_zero] at c0
  have hkd : decide (nearT k.kind 0 2 = 0) = false := decide_eq_false hk
  go_upto_region 6 with fail
  clear c0 hkd
  have x0 := hK3.out.cell 5
  have n0 := hN3.out.cell 5
  have nl := hN3.out.lt
  have nf := fun o => hN3.out.frozen o
  simp only [List.getElem?_cons_zero, List.getElem?_cons_succ] at x0 n0
  have hN4 := hN3.out.set 5 (.int .i64 (nearT k.lanes 1 3))
  simp only [List.set_cons_zero, List.set_cons_succ] at hN4
  replace hN4 := hid hN4
  have hK4 := hid (pts.of (w' := (W3.setCell ⟨nb, 5, none⟩ (.int .i64 (nearT k.lanes 1 3)))) hK3.out (Below.heap_setCell _ _ _ _ (Ne.symm hnk.out)))
  have hR4 := hid (pts.of (w' := (W3.setCell ⟨nb, 5, none⟩ (.int .i64 (nearT k.lanes 1 3)))) hR3.out (Below.heap_setCell _ _ _ _ (Ne.symm hnr.out)))
  have hB4 := hid (Below.setCell (p := ⟨nb, 5, none⟩) hB3.out hnw.out (.int .i64 (nearT k.lanes 1 3)))
  go_upto_region 7 with (first | (go_at_call 46; (with_reducible refine (near_c _ k.lanes 1 3 (by omega) (by omega) (by omega) (by omega)).mono ?_); rintro e w' ⟨rfl, rfl⟩))
  generalize (W3.setCell ⟨nb, 5, none⟩ (.int .i64 (nearT k.lanes 1 3))) = W4 at hN4 hK4 hR4 hB4 ⊢
  clear x0 n0 nl nf hN3 hK3 hR3 hB3
  have x0 := hK4.out.cell 6
  have n0 := hN4.out.cell 6
  have nl := hN4.out.lt
  have nf := fun o => hN4.out.frozen o
  simp only [List.getElem?_cons_zero, List.getElem?_cons_succ] at x0 n0
  have hN5 := hN4.out.set 6 (.int .i64 (nearT k.depth 1 4))
  simp only [List.set_cons_zero, List.set_cons_succ] at hN5
  replace hN5 := hid hN5
  have hK5 := hid (pts.of (w' := (W4.setCell ⟨nb, 6, none⟩ (.int .i64 (nearT k.depth 1 4)))) hK4.out (Below.heap_setCell _ _ _ _ (Ne.symm hnk.out)))
  have hR5 := hid (pts.of (w' := (W4.setCell ⟨nb, 6, none⟩ (.int .i64 (nearT k.depth 1 4)))) hR4.out (Below.heap_setCell _ _ _ _ (Ne.symm hnr.out)))
  have hB5 := hid (Below.setCell (p := ⟨nb, 6, none⟩) hB4.out hnw.out (.int .i64 (nearT k.depth 1 4)))
  go_upto_region 8 with (first | (go_at_call 46; (with_reducible refine (near_c _ k.depth 1 4 (by omega) (by omega) (by omega) (by omega)).mono ?_); rintro e w' ⟨rfl, rfl⟩))
  generalize (W4.setCell ⟨nb, 6, none⟩ (.int .i64 (nearT k.depth 1 4))) = W5 at hN5 hK5 hR5 hB5 ⊢
  clear x0 n0 nl nf hN4 hK4 hR4 hB4
  have x0 := hK5.out.cell 7
  have n0 := hN5.out.cell 7
  have nl := hN5.out.lt
  have nf := fun o => hN5.out.frozen o
  simp only [List.getElem?_cons_zero, List.getElem?_cons_succ] at x0 n0
  have hN6 := hN5.out.set 7 (.int .i64 (nearT k.hold 1 4))
  simp only [List.set_cons_zero, List.set_cons_succ] at hN6
  replace hN6 := hid hN6
  have hK6 := hid (pts.of (w' := (W5.setCell ⟨nb, 7, none⟩ (.int .i64 (nearT k.hold 1 4)))) hK5.out (Below.heap_setCell _ _ _ _ (Ne.symm hnk.out)))
  have hR6 := hid (pts.of (w' := (W5.setCell ⟨nb, 7, none⟩ (.int .i64 (nearT k.hold 1 4)))) hR5.out (Below.heap_setCell _ _ _ _ (Ne.symm hnr.out)))
  have hB6 := hid (Below.setCell (p := ⟨nb, 7, none⟩) hB5.out hnw.out (.int .i64 (nearT k.hold 1 4)))
  go_upto_region 9 with (first | (go_at_call 46; (with_reducible refine (near_c _ k.hold 1 4 (by omega) (by omega) (by omega) (by omega)).mono ?_); rintro e w' ⟨rfl, rfl⟩))
  generalize (W5.setCell ⟨nb, 7, none⟩ (.int .i64 (nearT k.hold 1 4))) = W6 at hN6 hK6 hR6 hB6 ⊢
  clear x0 n0 nl nf hN5 hK5 hR5 hB5
  have x0 := hK6.out.cell 8
  have n0 := hN6.out.cell 8
  have nl := hN6.out.lt
  have nf := fun o => hN6.out.frozen o
  simp only [List.getElem?_cons_zero, List.getElem?_cons_succ] at x0 n0
  have hN7 := hN6.out.set 8 (.int .i64 (nearT k.life 1 60))
  simp only [List.set_cons_zero, List.set_cons_succ] at hN7
  replace hN7 := hid hN7
  have hK7 := hid (pts.of (w' := (W6.setCell ⟨nb, 8, none⟩ (.int .i64 (nearT k.life 1 60)))) hK6.out (Below.heap_setCell _ _ _ _ (Ne.symm hnk.out)))
  have hR7 := hid (pts.of (w' := (W6.setCell ⟨nb, 8, none⟩ (.int .i64 (nearT k.life 1 60)))) hR6.out (Below.heap_setCell _ _ _ _ (Ne.symm hnr.out)))
  have hB7 := hid (Below.setCell (p := ⟨nb, 8, none⟩) hB6.out hnw.out (.int .i64 (nearT k.life 1 60)))
  go_upto_region 10 with (first | (go_at_call 46; (with_reducible refine (near_c _ k.life 1 60 (by omega) (by omega) (by omega) (by omega)).mono ?_); rintro e w' ⟨rfl, rfl⟩))
  generalize (W6.setCell ⟨nb, 8, none⟩ (.int .i64 (nearT k.life 1 60))) = W7 at hN7 hK7 hR7 hB7 ⊢
  clear x0 n0 nl nf hN6 hK6 hR6 hB6
  have x0 := hK7.out.cell 9
  have n0 := hN7.out.cell 9
  have nl := hN7.out.lt
  have nf := fun o => hN7.out.frozen o
  simp only [List.getElem?_cons_zero, List.getElem?_cons_succ] at x0 n0
  have hN8 := hN7.out.set 9 (.int .i64 (nearT k.rate 0 5))
  simp only [List.set_cons_zero, List.set_cons_succ] at hN8
  replace hN8 := hid hN8
  have hK8 := hid (pts.of (w' := (W7.setCell ⟨nb, 9, none⟩ (.int .i64 (nearT k.rate 0 5)))) hK7.out (Below.heap_setCell _ _ _ _ (Ne.symm hnk.out)))
  have hR8 := hid (pts.of (w' := (W7.setCell ⟨nb, 9, none⟩ (.int .i64 (nearT k.rate 0 5)))) hR7.out (Below.heap_setCell _ _ _ _ (Ne.symm hnr.out)))
  have hB8 := hid (Below.setCell (p := ⟨nb, 9, none⟩) hB7.out hnw.out (.int .i64 (nearT k.rate 0 5)))
  go_upto_region 11 with (first | (go_at_call 46; (with_reducible refine (near_c _ k.rate 0 5 (by omega) (by omega) (by omega) (by omega)).mono ?_); rintro e w' ⟨rfl, rfl⟩))
  generalize (W7.setCell ⟨nb, 9, none⟩ (.int .i64 (nearT k.rate 0 5))) = W8 at hN8 hK8 hR8 hB8 ⊢
  clear x0 n0 nl nf hN7 hK7 hR7 hB7
  have x0 := hK8.out.cell 10
  have n0 := hN8.out.cell 10
  have nl := hN8.out.lt
  have nf := fun o => hN8.out.frozen o
  simp only [List.getElem?_cons_zero, List.getElem?_cons_succ] at x0 n0
  have hN9 := hN8.out.set 10 (.int .i64 (nearT k.cap 1 6))
  simp only [List.set_cons_zero, List.set_cons_succ] at hN9
  replace hN9 := hid hN9
  have hK9 := hid (pts.of (w' := (W8.setCell ⟨nb, 10, none⟩ (.int .i64 (nearT k.cap 1 6)))) hK8.out (Below.heap_setCell _ _ _ _ (Ne.symm hnk.out)))
  have hR9 := hid (pts.of (w' := (W8.setCell ⟨nb, 10, none⟩ (.int .i64 (nearT k.cap 1 6)))) hR8.out (Below.heap_setCell _ _ _ _ (Ne.symm hnr.out)))
  have hB9 := hid (Below.setCell (p := ⟨nb, 10, none⟩) hB8.out hnw.out (.int .i64 (nearT k.cap 1 6)))
  go_upto_region 12 with (first | (go_at_call 46; (with_reducible refine (near_c _ k.cap 1 6 (by omega) (by omega) (by omega) (by omega)).mono ?_); rintro e w' ⟨rfl, rfl⟩))
  generalize (W8.setCell ⟨nb, 10, none⟩ (.int .i64 (nearT k.cap 1 6))) = W9 at hN9 hK9 hR9 hB9 ⊢
  clear x0 n0 nl nf hN8 hK8 hR8 hB8
  have m0 := (hN9.out).cell 0
  have m1 := (hN9.out).cell 1
  have m2 := (hN9.out).cell 2
  have m3 := (hN9.out).cell 3
  have m4 := (hN9.out).cell 4
  have m5 := (hN9.out).cell 5
  have m6 := (hN9.out).cell 6
  have m7 := (hN9.out).cell 7
  have m8 := (hN9.out).cell 8
  have m9 := (hN9.out).cell 9
  have m10 := (hN9.out).cell 10
  simp only [List.getElem?_cons_zero, List.getElem?_cons_succ] at m0 m1 m2 m3 m4 m5 m6 m7 m8 m9 m10
  have y0 := (hR9.out).cell 0
  have y1 := (hR9.out).cell 1
  have y2 := (hR9.out).cell 2
  have y3 := (hR9.out).cell 3
  have y4 := (hR9.out).cell 4
  have y5 := (hR9.out).cell 5
  have y6 := (hR9.out).cell 6
  have y7 := (hR9.out).cell 7
  have y8 := (hR9.out).cell 8
  have y9 := (hR9.out).cell 9
  have y10 := (hR9.out).cell 10
  have yl := (hR9.out).lt
  have yf := fun o => (hR9.out).frozen o
  simp only [List.getElem?_cons_zero, List.getElem?_cons_succ] at y0 y1 y2 y3 y4 y5 y6 y7 y8 y9 y10
  go_wp2
  refine bodyPost_ret (v := .agg #[.int .i64 (nearT k.kind 0 2), .int .i64 (nearT k.frm 0 P), .int .i64 ((nearT k.frm 0 P + nearT k.to 1 (P - 1)) % P), .int .i64 (nearT k.words 1 4), .int .i64 0, .int .i64 (nearT k.lanes 1 3), .int .i64 (nearT k.depth 1 4), .int .i64 (nearT k.hold 1 4), .int .i64 (nearT k.life 1 60), .int .i64 (nearT k.rate 0 5), .int .i64 (nearT k.cap 1 6)]) (by simp [results, Try.results47, go_sem, y0, y1, y2, y3, y4, y5, y6, y7, y8, y9, y10, yl]) rfl ⟨?_, ?_⟩
  · unfold goodChan
    rw [if_neg hk]
    have hk1 : nearT k.kind 0 2 = 1 := by have := nearT_in (n := k.kind) (least := 0) (many := 2) (by omega); omega
    rw [hk1]
    try rfl
  · have hrw : w.heap.size ≤ rb := by rw [hrb.out]; omega
    exact (Below.setCell (p := ⟨rb, 10, none⟩) (Below.setCell (p := ⟨rb, 9, none⟩) (Below.setCell (p := ⟨rb, 8, none⟩) (Below.setCell (p := ⟨rb, 7, none⟩) (Below.setCell (p := ⟨rb, 6, none⟩) (Below.setCell (p := ⟨rb, 5, none⟩) (Below.setCell (p := ⟨rb, 4, none⟩) (Below.setCell (p := ⟨rb, 3, none⟩) (Below.setCell (p := ⟨rb, 2, none⟩) (Below.setCell (p := ⟨rb, 1, none⟩) (Below.setCell (p := ⟨rb, 0, none⟩) hB9.out hrw (.int .i64 (nearT k.kind 0 2))) hrw (.int .i64 (nearT k.frm 0 P))) hrw (.int .i64 ((nearT k.frm 0 P + nearT k.to 1 (P - 1)) % P))) hrw (.int .i64 (nearT k.words 1 4))) hrw (.int .i64 0)) hrw (.int .i64 (nearT k.lanes 1 3))) hrw (.int .i64 (nearT k.depth 1 4))) hrw (.int .i64 (nearT k.hold 1 4))) hrw (.int .i64 (nearT k.life 1 60))) hrw (.int .i64 (nearT k.rate 0 5))) hrw (.int .i64 (nearT k.cap 1 6)))
end Go.Proofs.Ytggfallodkbgcaa.Cf
