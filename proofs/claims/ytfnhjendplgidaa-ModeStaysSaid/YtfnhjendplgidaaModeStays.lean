/- DERIVED. The walk over the statement ModeStays. -/
import Derived.Test.YtfnhjendplgidaaModeH
import Derived.Test.YtfnhjendplgidaaModeP2
import Derived.Test.YtfnhjendplgidaaRegK
import Derived.Deep.DeepCutAuto
import Derived.Deep.CutBlock
import Derived.Deep.LoopGhost
namespace Go.Proofs.Ytfnhjendplgidaa.Lw
set_option linter.unusedVariables false
set_option linter.unusedSimpArgs false
open Go.RowKit Go.Proofs.Ytfnhjendplgidaa.K Go.Proofs.Ytfnhjendplgidaa.Md

theorem StepsAt.cells {w : World} {ao : Option Addr} {n cap : Nat} {xs : List St} (h : StepsAt w (.slice ao n cap) xs) : n = xs.length ∧ n ≤ cap ∧ cap ≤ 9223372036854775807 ∧ ∀ i (hi : i < xs.length), ∃ g o, ao = some ⟨g, o, none⟩ ∧ g < w.heap.size ∧ w.cell? ⟨g, o + i * 2, none⟩ = some (.int .i64 xs[i].k) ∧ w.cell? ⟨g, o + i * 2 + 1, none⟩ = some (.int .i64 xs[i].p) := by
  obtain ⟨ao', cap', hv, ⟨h1, h2⟩, hx⟩ := h
  simp only [Value.slice.injEq] at hv
  obtain ⟨rfl, rfl, rfl⟩ := hv
  refine ⟨rfl, h1, by simpa [maxLen] using h2, fun i hi => ?_⟩
  rcases hx with rfl | ⟨g, o, h3, h5, h6⟩
  · simp at hi
  · exact ⟨g, o, h3, h5, h6 i hi⟩

set_option maxHeartbeats 4000000 in
set_option maxRecDepth 100000 in
theorem stays_c {w : World} {va vs : Value} {l : List Int} {xs : List St} (hl : IntsAt (fun _ => True) w va l) (hs : StepsAt w vs xs) : Calls Try.prog 5 #[va, vs] w (LivesPost w) := by
  have hl0 := hid hl
  have hs0 := hid hs
  obtain ⟨a1, c1, rfl⟩ := hl.shape
  obtain ⟨a2, c2, rfl⟩ := hs.shape
  clear hl hs
  go_enter Try.func5, Try.ntmps5
  go_wp2_with (first | (go_at_call 7; (with_reducible refine (lives_c _).mono ?_); rintro e w1 ⟨rfl, hb1⟩; have hb1 := hid hb1) | (go_at_call 12; (with_reducible refine (few_c (hl0.out.below hb1.out)).mono ?_); rintro e w' ⟨vl, rfl, hvl, rfl⟩; have hvl := hid hvl) | (go_at_call 8; (with_reducible refine (Md.new_c hvl.out).mono ?_); rintro e w2 ⟨p, a, rfl, hM2, hp2, ha2, hb2⟩; have hM2 := hid hM2; have ha2 := hid ha2; have hB2 := hid (Below.next hb1.out hb2 hb1.out.size); clear hp2 hb2) | (go_at_call 14; (with_reducible refine (early_c _ hs0.out).mono ?_); rintro e w' ⟨v', rfl, hv', rfl⟩; generalize xs.take 80 = ys at hv'; obtain ⟨a3, c3, rfl⟩ := hv'.shape; have hv' := hid hv'))
  have hM3 := hM2.out
  have hB3 := hB2.out
  have hS0 := hv'.out
  have haz : w.heap.size ≤ a := Nat.le_trans hb1.out.size ha2.out
  clear hl0 hs0 hvl hM2 ha2 hB2 hv' hb1
  generalize newM (l.take 6) = s0 at hM3
  go_loopg [6] ys.length (fun g i wr => ∃ (k : Nat) (s : List Part), k ≤ ys.length ∧ g = ys.length - k ∧ i = .int .i64 k ∧ ModesAt wr p a s ∧ Below w.heap.size w wr)
  case atStart => exact ⟨0, s0, Nat.zero_le _, rfl, rfl, hM3, hB3⟩
  case round =>
    clear hM3 hB3
    obtain ⟨k, s, hk, hgk, rfl, hM, hB⟩ := hrel
    have hS := hS0.below hB
    obtain ⟨-, hcl, hcm, hget⟩ := hS.cells
    by_cases hlt : k < ys.length
    · obtain ⟨g, o, rfl, hg, ck, cp⟩ := hget k hlt
      clear hget
      go_upto_region 9 with fail
      have hP1 : pts (wr.alloc (.cells #[.int .i64 ys[k].k, .int .i64 ys[k].p] 41)) wr.heap.size [.int .i64 ys[k].k, .int .i64 ys[k].p] 41 := pts.newA wr _ _
      have hb1 := (Below.refl wr.heap.size wr).alloc (Nat.le_refl _) (.cells #[.int .i64 ys[k].k, .int .i64 ys[k].p] 41)
      have hM1 := hid (hM.below hb1)
      have hB1 := hid (Below.next hB hb1 hB.size)
      have hsa : wr.heap.size ≠ a ∧ wr.heap.size ≠ p := by have := hM.lt; omega
      have hS0 := hid hS0
      clear hM hB hS ck cp hg hb1
      generalize hsb : wr.heap.size = sb at hP1 hsa ⊢
      generalize wr.alloc (.cells #[.int .i64 ys[k].k, .int .i64 ys[k].p] 41) = W1 at hP1 hM1 hB1 ⊢
      generalize ys[k].k = K at hP1 ⊢
      generalize ys[k].p = P at hP1 ⊢
      clear hsb
      have hP1 := hid hP1
      have hsz1 : sb < W1.heap.size := hP1.out.lt
      have hK1 : W1.cell? ⟨sb, 0, none⟩ = some (.int .i64 K) := hP1.out.cell 0
      have hp1 : W1.cell? ⟨sb, 1, none⟩ = some (.int .i64 P) := hP1.out.cell 1
      go_upto_block 2 with (first | (go_at_call 11; (with_reducible refine (all_c hM1.out).mono ?_); rintro e W2 ⟨v, rfl, hv2, hb2⟩; obtain ⟨a4, c4, rfl⟩ := hv2.shape; rw [List.length_map]; have hM2 := hid (hM1.out.below hb2); have hB2 := hid (Below.next hB1.out hb2 hB1.out.size); have hP2 := hid (hP1.out.below hb2); have hsz2 : sb < W2.heap.size := hP2.out.lt; have hK2 : W2.cell? ⟨sb, 0, none⟩ = some (.int .i64 K) := hP2.out.cell 0; have hp2 : W2.cell? ⟨sb, 1, none⟩ = some (.int .i64 P) := hP2.out.cell 1; have hv2 := hid hv2; have hal2 := hid (And.intro hM1.out.lt.2 hb2.size); clear hb2 hK1 hp1) | (go_at_call 22; (with_reducible refine (starts_c hM2.out _).mono ?_); rintro e w' ⟨rfl, rfl⟩) | (go_at_call 15; (with_reducible refine (kind_c _ _ _).mono ?_); rintro e W3 ⟨rfl, hb3⟩; have hM3 := hid (hM2.out.below hb3); have hB3 := hid (Below.next hB2.out hb3 hB2.out.size); have hP3 := hid (hP2.out.below hb3); have hsz3 : sb < W3.heap.size := hP3.out.lt; have hK3 : W3.cell? ⟨sb, 0, none⟩ = some (.int .i64 K) := hP3.out.cell 0; have hp3 : W3.cell? ⟨sb, 1, none⟩ = some (.int .i64 P) := hP3.out.cell 1; have hv3 := hid (hv2.out.below hb3); have hal3 := hid (Nat.lt_of_lt_of_le hal2.out.1 (Nat.le_trans hal2.out.2 hb3.size)); clear hb3 hK2 hp2))
      go_cut [] from 35 to 54 (fun wx => ModesAt wx p a (stepM s (kindM K) P) ∧ Chg (Mine a) W3 wx)
      case first =>
        rcases kindM_lt K with hkd | hkd | hkd
        all_goals
          have hk0 := hid hkd
          rw [hkd]
          clear hkd
          go_wp2_with (first | (go_at_call 9; (with_reducible refine (fault_c hM3.out _).mono ?_); rintro e W4 ⟨rfl, hM4, hc4⟩; have hM4 := hid hM4; have hc4 := hid hc4) | (go_at_call 18; (with_reducible refine (again_c hM3.out _).mono ?_); rintro e W4 ⟨rfl, hM4, hc4⟩; have hM4 := hid hM4; have hc4 := hid hc4) | (go_at_call 20; (with_reducible refine (up_c hM3.out _).mono ?_); rintro e W4 ⟨rfl, hM4, hc4⟩; have hM4 := hid hM4; have hc4 := hid hc4))
          go_meet
          case rel => exact ⟨by have := hk0.out; simpa [stepM, this] using hM4.out, hc4.out⟩
      case rest =>
        obtain ⟨hM4, hc4⟩ := hcut
        have hP4 := hid (hP3.out.chg hc4 (by unfold Mine; exact hsa.1))
        have hB4 := hid (chg_mine hc4 hB3.out haz)
        have hv4 := hid ((hv3.out.mono (ok' := fun b => b ≠ a) (fun b h _ => by have := hal2.out.1; omega)).chg hc4 (fun b h _ => h))
        have hM4 := hid hM4
        have hwf := hid hM1.out.wf
        have hsl := stepM_len s hwf.out (kindM K) P (kindM_lt K)
        have hpos := hM1.out.pos
        have hpos' : ¬ ((s.length : Int) < 1) := by omega
        have hle := hM1.out.le
        clear hK3 hp3 hsz3 hsz2 hsz1
        go_upto_block 3 with (first | (go_at_call 11; (with_reducible refine (all_c hM4.out).mono ?_); rintro e W5 ⟨v, rfl, hv5, hb5⟩; obtain ⟨a5, c5, rfl⟩ := hv5.shape; rw [List.length_map, hsl]; have hM5 := hid (hM4.out.below hb5); have hB5 := hid (Below.next hB4.out hb5 hB4.out.size); have hP5 := hid (hP4.out.below hb5); have hvw := hid (hv4.out.below hb5); have hv5 := hid hv5; clear hb5))
        have hsf := hid (fun j hj hj' => stepM_turns s hwf.out (kindM K) P (kindM_lt K) j hj hj')
        have hst := hid (fun j (hj : j < s.length) => show startsM s (j : Int) = s[j].s by unfold startsM; rw [at?_in hj])
        have hst' := hid (fun j (hj : j < (stepM s (kindM K) P).length) => show startsM (stepM s (kindM K) P) (j : Int) = (stepM s (kindM K) P)[j].s by unfold startsM; rw [at?_in hj])
        clear hM1 hM2 hM3 hM4 hP1 hP2 hP3 hP4 hv2 hv3 hv4 hB1 hB2 hB3 hB4 hal2 hal3
        generalize hs' : stepM s (kindM K) P = s' at hM5 hsf hst' hv5 hsl
        clear hs'
        have hMl := hM5.out.lt
        go_wp2
        go_loopg [11] s.length (fun g i wx => ∃ j : Nat, j ≤ s.length ∧ g = s.length - j ∧ i = .int .i64 j ∧ Below W5.heap.size W5 wx)
        case atStart => exact ⟨0, Nat.zero_le _, rfl, rfl, Below.refl _ _⟩
        case round =>
          obtain ⟨j, hj, hgj, rfl, hbx⟩ := hrel
          by_cases hjl : j < s.length
          · obtain ⟨-, -, -, hgw⟩ := hvw.out.get
            obtain ⟨gw, ow, rfl, -, hgwl, cw⟩ := hgw j (by simpa using hjl)
            obtain ⟨-, -, -, hgn⟩ := hv5.out.get
            obtain ⟨gn, on, rfl, -, hgnl, cn⟩ := hgn j (by simpa [hsl] using hjl)
            have cw := (hbx.cell (p := ⟨gw, ow + j, none⟩) hgwl).trans cw
            have cn := (hbx.cell (p := ⟨gn, on + j, none⟩) hgnl).trans cn
            have cK := (hbx.cell (p := ⟨sb, 0, none⟩) hP5.out.lt).trans (hP5.out.cell 0)
            have cP := (hbx.cell (p := ⟨sb, 1, none⟩) hP5.out.lt).trans (hP5.out.cell 1)
            simp only [List.getElem?_cons_zero, List.getElem?_cons_succ, List.getElem_map] at cw cn cK cP
            clear hgw hgn
            have hjs' : j < s'.length := by omega
            have hc := hsf.out j hjl hjs'
            have hsj := hid (hst.out j hjl)
            have hsj' := hid (hst'.out j hjs')
            have hMx := hid (hM5.out.below hbx)
            have hsbx := Nat.lt_of_lt_of_le hP5.out.lt hbx.size
            have hbx := hid hbx
            have hcomb := hc
            clear hc
            generalize s[j].m = mw at cw hcomb
            generalize s'[j].m = mn at cn hcomb
            unfold Turns at hcomb
            have hcomb := hid hcomb
            go_upto_region 24 with fail
            go_cut [128] (fun v wy => v = .bool false ∧ Below wr.heap.size wr wy)
            case first =>
              rcases hcomb.out with ⟨rfl, rfl⟩ | ⟨rfl, rfl⟩ | ⟨rfl, rfl⟩ | ⟨rfl, rfl, rfl⟩ | ⟨rfl, rfl, rfl⟩ | ⟨rfl, hk2, rfl, rfl, hss⟩
              · clear hcomb
                by_cases hpj : P = j
                · subst hpj
                  go_quiet (fail)
                  go_wp2
                  go_meet
                  case rel => exact ⟨rfl, ⟨rfl, rfl, rfl, Nat.le_refl _, fun _ _ => rfl⟩⟩
                · have hpj1 : (P == (j : Int)) = false := by simpa using hpj
                  have hpj2 : ((j : Int) == P) = false := by simpa using Ne.symm hpj
                  have hpj3 : ((j : Int) != P) = true := by simpa using Ne.symm hpj
                  go_quiet (fail)
                  go_wp2
                  go_meet
                  case rel => exact ⟨rfl, ⟨rfl, rfl, rfl, Nat.le_refl _, fun _ _ => rfl⟩⟩
              · clear hcomb
                by_cases hpj : P = j
                · subst hpj
                  go_quiet (fail)
                  go_wp2
                  go_meet
                  case rel => exact ⟨rfl, ⟨rfl, rfl, rfl, Nat.le_refl _, fun _ _ => rfl⟩⟩
                · have hpj1 : (P == (j : Int)) = false := by simpa using hpj
                  have hpj2 : ((j : Int) == P) = false := by simpa using Ne.symm hpj
                  have hpj3 : ((j : Int) != P) = true := by simpa using Ne.symm hpj
                  go_quiet (fail)
                  go_wp2
                  go_meet
                  case rel => exact ⟨rfl, ⟨rfl, rfl, rfl, Nat.le_refl _, fun _ _ => rfl⟩⟩
              · clear hcomb
                by_cases hpj : P = j
                · subst hpj
                  go_quiet (fail)
                  go_wp2
                  go_meet
                  case rel => exact ⟨rfl, ⟨rfl, rfl, rfl, Nat.le_refl _, fun _ _ => rfl⟩⟩
                · have hpj1 : (P == (j : Int)) = false := by simpa using hpj
                  have hpj2 : ((j : Int) == P) = false := by simpa using Ne.symm hpj
                  have hpj3 : ((j : Int) != P) = true := by simpa using Ne.symm hpj
                  go_quiet (fail)
                  go_wp2
                  go_meet
                  case rel => exact ⟨rfl, ⟨rfl, rfl, rfl, Nat.le_refl _, fun _ _ => rfl⟩⟩
              · clear hcomb
                go_quiet (fail)
                go_wp2
                go_meet
                case rel => exact ⟨rfl, ⟨rfl, rfl, rfl, Nat.le_refl _, fun _ _ => rfl⟩⟩
              · clear hcomb
                go_quiet (fail)
                go_wp2
                go_meet
                case rel => exact ⟨rfl, ⟨rfl, rfl, rfl, Nat.le_refl _, fun _ _ => rfl⟩⟩
              · clear hcomb
                have hk2 := hid hk2
                have hss := hid hss
                refine wp_region_held_drew (S := (fun W => W.cell? ⟨gw, ow + j, none⟩ = some (.int .i64 1) ∧ W.cell? ⟨gn, on + j, none⟩ = some (.int .i64 0) ∧ W.cell? ⟨sb, 0, none⟩ = some (.int .i64 K) ∧ W.cell? ⟨sb, 1, none⟩ = some (.int .i64 j))) (by kernel_rfl) ⟨cw, cn, cK, cP⟩ (fun hHeld => ?_)
                refine regTake (i := 0) (v := ?_) rfl (by kernel_rfl) (by kernel_rfl) (by kernel_rfl) (fun _ _ _ h => h) (by rfl) ?_ hHeld ?_
                rotate_left
                · intro w hSw; (try dsimp only at hSw); go_simp; (try (with_reducible rfl))
                (try simp only [Act.put, List.setIfInBounds_toArray, List.set_cons_zero, List.set_cons_succ])
                refine regTake (i := 1) (v := ?_) rfl (by kernel_rfl) (by kernel_rfl) (by kernel_rfl) (fun _ _ _ h => h) (by rfl) ?_ hHeld ?_
                rotate_left
                · intro w hSw; (try dsimp only at hSw); go_simp; (try (with_reducible rfl))
                (try simp only [Act.put, List.setIfInBounds_toArray, List.set_cons_zero, List.set_cons_succ])
                refine regTake (i := 2) (v := ?_) rfl (by kernel_rfl) (by kernel_rfl) (by kernel_rfl) (fun _ _ _ h => h) (by rfl) ?_ hHeld ?_
                rotate_left
                · intro w hSw; (try dsimp only at hSw); go_simp; (try (with_reducible rfl))
                (try simp only [Act.put, List.setIfInBounds_toArray, List.set_cons_zero, List.set_cons_succ])
                refine regTake (i := 3) (v := ?_) rfl (by kernel_rfl) (by kernel_rfl) (by kernel_rfl) (fun _ _ _ h => h) (by rfl) ?_ hHeld ?_
                rotate_left
                · intro w hSw; (try dsimp only at hSw); go_simp; (try (with_reducible rfl))
                (try simp only [Act.put, List.setIfInBounds_toArray, List.set_cons_zero, List.set_cons_succ])
                refine regTake (i := 4) (v := ?_) rfl (by kernel_rfl) (by kernel_rfl) (by kernel_rfl) (fun _ _ _ h => h) (by rfl) ?_ hHeld ?_
                rotate_left
                · intro w hSw; (try dsimp only at hSw); go_simp; (try (with_reducible rfl))
                (try simp only [Act.put, List.setIfInBounds_toArray, List.set_cons_zero, List.set_cons_succ])
                refine regTake (i := 5) (v := ?_) rfl (by kernel_rfl) (by kernel_rfl) (by kernel_rfl) (fun _ _ _ h => h) (by rfl) ?_ hHeld ?_
                rotate_left
                · intro w hSw; (try dsimp only at hSw); go_simp; (try (with_reducible rfl))
                (try simp only [Act.put, List.setIfInBounds_toArray, List.set_cons_zero, List.set_cons_succ])
                refine regSkip (i := 6) rfl (by kernel_rfl) (by kernel_rfl) (by kernel_rfl) (fun _ _ _ h => h) (by rfl) hHeld ?_
                (try simp only [Act.put, List.setIfInBounds_toArray, List.set_cons_zero, List.set_cons_succ])
                refine regSkip (i := 7) rfl (by kernel_rfl) (by kernel_rfl) (by kernel_rfl) (fun _ _ _ h => h) (by rfl) hHeld ?_
                (try simp only [Act.put, List.setIfInBounds_toArray, List.set_cons_zero, List.set_cons_succ])
                refine regSkip (i := 8) rfl (by kernel_rfl) (by kernel_rfl) (by kernel_rfl) (fun _ _ _ h => h) (by rfl) hHeld ?_
                (try simp only [Act.put, List.setIfInBounds_toArray, List.set_cons_zero, List.set_cons_succ])
                refine regSkip (i := 9) rfl (by kernel_rfl) (by kernel_rfl) (by kernel_rfl) (fun _ _ _ h => h) (by rfl) hHeld ?_
                (try simp only [Act.put, List.setIfInBounds_toArray, List.set_cons_zero, List.set_cons_succ])
                refine regSkip (i := 10) rfl (by kernel_rfl) (by kernel_rfl) (by kernel_rfl) (fun _ _ _ h => h) (by rfl) hHeld ?_
                (try simp only [Act.put, List.setIfInBounds_toArray, List.set_cons_zero, List.set_cons_succ])
                refine regTake (i := 11) (v := ?_) rfl (by kernel_rfl) (by kernel_rfl) (by kernel_rfl) (fun _ _ _ h => h) (by rfl) ?_ hHeld ?_
                rotate_left
                · intro w hSw; (try dsimp only at hSw); go_simp; (try (with_reducible rfl))
                (try simp only [Act.put, List.setIfInBounds_toArray, List.set_cons_zero, List.set_cons_succ])
                refine regTake (i := 12) (v := ?_) rfl (by kernel_rfl) (by kernel_rfl) (by kernel_rfl) (fun _ _ _ h => h) (by rfl) ?_ hHeld ?_
                rotate_left
                · intro w hSw; (try dsimp only at hSw); go_simp; (try (with_reducible rfl))
                (try simp only [Act.put, List.setIfInBounds_toArray, List.set_cons_zero, List.set_cons_succ])
                refine regTake (i := 13) (v := ?_) rfl (by kernel_rfl) (by kernel_rfl) (by kernel_rfl) (fun _ _ _ h => h) (by rfl) ?_ hHeld ?_
                rotate_left
                · intro w hSw; (try dsimp only at hSw); go_simp; (try (with_reducible rfl))
                (try simp only [Act.put, List.setIfInBounds_toArray, List.set_cons_zero, List.set_cons_succ])
                refine regTake (i := 14) (v := ?_) rfl (by kernel_rfl) (by kernel_rfl) (by kernel_rfl) (fun _ _ _ h => h) (by rfl) ?_ hHeld ?_
                rotate_left
                · intro w hSw; (try dsimp only at hSw); go_simp; (try (with_reducible rfl))
                (try simp only [Act.put, List.setIfInBounds_toArray, List.set_cons_zero, List.set_cons_succ])
                refine regTake (i := 15) (v := ?_) rfl (by kernel_rfl) (by kernel_rfl) (by kernel_rfl) (fun _ _ _ h => h) (by rfl) ?_ hHeld ?_
                rotate_left
                · intro w hSw; (try dsimp only at hSw); go_simp; (try (with_reducible rfl))
                (try simp only [Act.put, List.setIfInBounds_toArray, List.set_cons_zero, List.set_cons_succ])
                refine regTake (i := 16) (v := ?_) rfl (by kernel_rfl) (by kernel_rfl) (by kernel_rfl) (fun _ _ _ h => h) (by rfl) ?_ hHeld ?_
                rotate_left
                · intro w hSw; (try dsimp only at hSw); go_simp; (try (with_reducible rfl))
                (try simp only [Act.put, List.setIfInBounds_toArray, List.set_cons_zero, List.set_cons_succ])
                refine regTake (i := 17) (v := ?_) rfl (by kernel_rfl) (by kernel_rfl) (by kernel_rfl) (fun _ _ _ h => h) (by rfl) ?_ hHeld ?_
                rotate_left
                · intro w hSw; (try dsimp only at hSw); go_simp; (try (with_reducible rfl))
                (try simp only [Act.put, List.setIfInBounds_toArray, List.set_cons_zero, List.set_cons_succ])
                refine regSkip (i := 18) rfl (by kernel_rfl) (by kernel_rfl) (by kernel_rfl) (fun _ _ _ h => h) (by rfl) hHeld ?_
                (try simp only [Act.put, List.setIfInBounds_toArray, List.set_cons_zero, List.set_cons_succ])
                refine regSkip (i := 19) rfl (by kernel_rfl) (by kernel_rfl) (by kernel_rfl) (fun _ _ _ h => h) (by rfl) hHeld ?_
                (try simp only [Act.put, List.setIfInBounds_toArray, List.set_cons_zero, List.set_cons_succ])
                refine regSkip (i := 20) rfl (by kernel_rfl) (by kernel_rfl) (by kernel_rfl) (fun _ _ _ h => h) (by rfl) hHeld ?_
                (try simp only [Act.put, List.setIfInBounds_toArray, List.set_cons_zero, List.set_cons_succ])
                refine regSkip (i := 21) rfl (by kernel_rfl) (by kernel_rfl) (by kernel_rfl) (fun _ _ _ h => h) (by rfl) hHeld ?_
                (try simp only [Act.put, List.setIfInBounds_toArray, List.set_cons_zero, List.set_cons_succ])
                refine regSkip (i := 22) rfl (by kernel_rfl) (by kernel_rfl) (by kernel_rfl) (fun _ _ _ h => h) (by rfl) hHeld ?_
                (try simp only [Act.put, List.setIfInBounds_toArray, List.set_cons_zero, List.set_cons_succ])
                refine regSkip (i := 23) rfl (by kernel_rfl) (by kernel_rfl) (by kernel_rfl) (fun _ _ _ h => h) (by rfl) hHeld ?_
                (try simp only [Act.put, List.setIfInBounds_toArray, List.set_cons_zero, List.set_cons_succ])
                refine regSkip (i := 24) rfl (by kernel_rfl) (by kernel_rfl) (by kernel_rfl) (fun _ _ _ h => h) (by rfl) hHeld ?_
                (try simp only [Act.put, List.setIfInBounds_toArray, List.set_cons_zero, List.set_cons_succ])
                refine regSkip (i := 25) rfl (by kernel_rfl) (by kernel_rfl) (by kernel_rfl) (fun _ _ _ h => h) (by rfl) hHeld ?_
                (try simp only [Act.put, List.setIfInBounds_toArray, List.set_cons_zero, List.set_cons_succ])
                refine regSkip (i := 26) rfl (by kernel_rfl) (by kernel_rfl) (by kernel_rfl) (fun _ _ _ h => h) (by rfl) hHeld ?_
                (try simp only [Act.put, List.setIfInBounds_toArray, List.set_cons_zero, List.set_cons_succ])
                refine regTake (i := 27) (v := ?_) rfl (by kernel_rfl) (by kernel_rfl) (by kernel_rfl) (fun _ _ _ h => h) (by rfl) ?_ hHeld ?_
                rotate_left
                · intro w hSw; (try dsimp only at hSw); go_simp; (try (with_reducible rfl))
                (try simp only [Act.put, List.setIfInBounds_toArray, List.set_cons_zero, List.set_cons_succ])
                refine regTake (i := 28) (v := ?_) rfl (by kernel_rfl) (by kernel_rfl) (by kernel_rfl) (fun _ _ _ h => h) (by rfl) ?_ hHeld ?_
                rotate_left
                · intro w hSw; (try dsimp only at hSw); go_simp; (try (with_reducible rfl))
                (try simp only [Act.put, List.setIfInBounds_toArray, List.set_cons_zero, List.set_cons_succ])
                refine regTake (i := 29) (v := ?_) rfl (by kernel_rfl) (by kernel_rfl) (by kernel_rfl) (fun _ _ _ h => h) (by rfl) ?_ hHeld ?_
                rotate_left
                · intro w hSw; (try dsimp only at hSw); go_simp; (try (with_reducible rfl))
                (try simp only [Act.put, List.setIfInBounds_toArray, List.set_cons_zero, List.set_cons_succ])
                refine regTake (i := 30) (v := ?_) rfl (by kernel_rfl) (by kernel_rfl) (by kernel_rfl) (fun _ _ _ h => h) (by rfl) ?_ hHeld ?_
                rotate_left
                · intro w hSw; (try dsimp only at hSw); go_simp; (try (with_reducible rfl))
                (try simp only [Act.put, List.setIfInBounds_toArray, List.set_cons_zero, List.set_cons_succ])
                refine regTake (i := 31) (v := ?_) rfl (by kernel_rfl) (by kernel_rfl) (by kernel_rfl) (fun _ _ _ h => h) (by rfl) ?_ hHeld ?_
                rotate_left
                · intro w hSw; (try dsimp only at hSw); go_simp; (try (with_reducible rfl))
                (try simp only [Act.put, List.setIfInBounds_toArray, List.set_cons_zero, List.set_cons_succ])
                refine regTake (i := 32) (v := ?_) rfl (by kernel_rfl) (by kernel_rfl) (by kernel_rfl) (fun _ _ _ h => h) (by rfl) ?_ hHeld ?_
                rotate_left
                · intro w hSw; (try dsimp only at hSw); go_simp; (try (with_reducible rfl))
                (try simp only [Act.put, List.setIfInBounds_toArray, List.set_cons_zero, List.set_cons_succ])
                refine regTake (i := 33) (v := ?_) rfl (by kernel_rfl) (by kernel_rfl) (by kernel_rfl) (fun _ _ _ h => h) (by rfl) ?_ hHeld ?_
                rotate_left
                · intro w hSw; (try dsimp only at hSw); go_simp; (try (with_reducible rfl))
                (try simp only [Act.put, List.setIfInBounds_toArray, List.set_cons_zero, List.set_cons_succ])
                refine regTake (i := 34) (v := ?_) rfl (by kernel_rfl) (by kernel_rfl) (by kernel_rfl) (fun _ _ _ h => h) (by rfl) ?_ hHeld ?_
                rotate_left
                · intro w hSw; (try dsimp only at hSw); go_simp; (try (with_reducible rfl))
                (try simp only [Act.put, List.setIfInBounds_toArray, List.set_cons_zero, List.set_cons_succ])
                refine regTake (i := 35) (v := ?_) rfl (by kernel_rfl) (by kernel_rfl) (by kernel_rfl) (fun _ _ _ h => h) (by rfl) ?_ hHeld ?_
                rotate_left
                · intro w hSw; (try dsimp only at hSw); go_simp; (try (with_reducible rfl))
                (try simp only [Act.put, List.setIfInBounds_toArray, List.set_cons_zero, List.set_cons_succ])
                refine regTake (i := 36) (v := ?_) rfl (by kernel_rfl) (by kernel_rfl) (by kernel_rfl) (fun _ _ _ h => h) (by rfl) ?_ hHeld ?_
                rotate_left
                · intro w hSw; (try dsimp only at hSw); go_simp; (try (with_reducible rfl))
                (try simp only [Act.put, List.setIfInBounds_toArray, List.set_cons_zero, List.set_cons_succ])
                refine regTake (i := 37) (v := ?_) rfl (by kernel_rfl) (by kernel_rfl) (by kernel_rfl) (fun _ _ _ h => h) (by rfl) ?_ hHeld ?_
                rotate_left
                · intro w hSw; (try dsimp only at hSw); go_simp; (try (with_reducible rfl))
                (try simp only [Act.put, List.setIfInBounds_toArray, List.set_cons_zero, List.set_cons_succ])
                refine regTake (i := 38) (v := ?_) rfl (by kernel_rfl) (by kernel_rfl) (by kernel_rfl) (fun _ _ _ h => h) (by rfl) ?_ hHeld ?_
                rotate_left
                · intro w hSw; (try dsimp only at hSw); go_simp; (try (with_reducible rfl))
                (try simp only [Act.put, List.setIfInBounds_toArray, List.set_cons_zero, List.set_cons_succ])
                refine regTake (i := 39) (v := ?_) rfl (by kernel_rfl) (by kernel_rfl) (by kernel_rfl) (fun _ _ _ h => h) (by rfl) ?_ hHeld ?_
                rotate_left
                · intro w hSw; (try dsimp only at hSw); go_simp; (try (with_reducible rfl))
                (try simp only [Act.put, List.setIfInBounds_toArray, List.set_cons_zero, List.set_cons_succ])
                refine regTake (i := 40) (v := ?_) rfl (by kernel_rfl) (by kernel_rfl) (by kernel_rfl) (fun _ _ _ h => h) (by rfl) ?_ hHeld ?_
                rotate_left
                · intro w hSw; (try dsimp only at hSw); go_simp; (try (with_reducible rfl))
                (try simp only [Act.put, List.setIfInBounds_toArray, List.set_cons_zero, List.set_cons_succ])
                refine regTake (i := 41) (v := ?_) rfl (by kernel_rfl) (by kernel_rfl) (by kernel_rfl) (fun _ _ _ h => h) (by rfl) ?_ hHeld ?_
                rotate_left
                · intro w hSw; (try dsimp only at hSw); go_simp; (try (with_reducible rfl))
                (try simp only [Act.put, List.setIfInBounds_toArray, List.set_cons_zero, List.set_cons_succ])
                refine regTake (i := 42) (v := ?_) rfl (by kernel_rfl) (by kernel_rfl) (by kernel_rfl) (fun _ _ _ h => h) (by rfl) ?_ hHeld ?_
                rotate_left
                · intro w hSw; (try dsimp only at hSw); go_simp; (try (with_reducible rfl))
                (try simp only [Act.put, List.setIfInBounds_toArray, List.set_cons_zero, List.set_cons_succ])
                refine regTake (i := 43) (v := ?_) rfl (by kernel_rfl) (by kernel_rfl) (by kernel_rfl) (fun _ _ _ h => h) (by rfl) ?_ hHeld ?_
                rotate_left
                · intro w hSw; (try dsimp only at hSw); go_simp; (try (with_reducible rfl))
                (try simp only [Act.put, List.setIfInBounds_toArray, List.set_cons_zero, List.set_cons_succ])
                refine regOnly (i := 44) rfl (by kernel_rfl) (by rfl) (fun K hK => ?_)
                go_simp
                go_at_call 15
                (with_reducible refine (kind_c _ _ _).mono ?_)
                rintro e w1 ⟨rfl, hb1⟩
                rw [hk2.out]
                obtain ⟨hc1, hf1, hz1⟩ := bcellLe (W := wr.drew) wr.heap.size (Nat.le_refl _) hb1
                have hb1 := Below.ofDrew hb1
                refine hK.out _ _ ⟨(hc1 gw (ow + j) (Nat.lt_of_lt_of_le hgwl hbx.out.size)).trans cw, (hc1 gn (on + j) (Nat.lt_of_lt_of_le hgnl hbx.out.size)).trans cn, (hc1 sb 0 hsbx).trans cK, (hc1 sb 1 hsbx).trans cP⟩ (fun hHeld => ?_)
                clear hK K
                (try simp only [Act.put, List.setIfInBounds_toArray, List.set_cons_zero, List.set_cons_succ])
                refine regTake (i := 45) (v := ?_) rfl (by kernel_rfl) (by kernel_rfl) (by kernel_rfl) (fun _ _ _ h => h) (by rfl) ?_ hHeld ?_
                rotate_left
                · intro w hSw; (try dsimp only at hSw); go_simp; (try (with_reducible rfl))
                (try simp only [Act.put, List.setIfInBounds_toArray, List.set_cons_zero, List.set_cons_succ])
                refine regTake (i := 46) (v := ?_) rfl (by kernel_rfl) (by kernel_rfl) (by kernel_rfl) (fun _ _ _ h => h) (by rfl) ?_ hHeld ?_
                rotate_left
                · intro w hSw; (try dsimp only at hSw); go_simp; (try (with_reducible rfl))
                (try simp only [Act.put, List.setIfInBounds_toArray, List.set_cons_zero, List.set_cons_succ])
                refine regTake (i := 47) (v := ?_) rfl (by kernel_rfl) (by kernel_rfl) (by kernel_rfl) (fun _ _ _ h => h) (by rfl) ?_ hHeld ?_
                rotate_left
                · intro w hSw; (try dsimp only at hSw); go_simp; (try (with_reducible rfl))
                (try simp only [Act.put, List.setIfInBounds_toArray, List.set_cons_zero, List.set_cons_succ])
                refine regTake (i := 48) (v := ?_) rfl (by kernel_rfl) (by kernel_rfl) (by kernel_rfl) (fun _ _ _ h => h) (by rfl) ?_ hHeld ?_
                rotate_left
                · intro w hSw; (try dsimp only at hSw); go_simp; (try (with_reducible rfl))
                (try simp only [Act.put, List.setIfInBounds_toArray, List.set_cons_zero, List.set_cons_succ])
                refine regTake (i := 50) (v := ?_) rfl (by kernel_rfl) (by kernel_rfl) (by kernel_rfl) (fun _ _ _ h => h) (by rfl) ?_ hHeld ?_
                rotate_left
                · intro w hSw; (try dsimp only at hSw); go_simp; (try (with_reducible rfl))
                (try simp only [Act.put, List.setIfInBounds_toArray, List.set_cons_zero, List.set_cons_succ])
                refine regTake (i := 51) (v := ?_) rfl (by kernel_rfl) (by kernel_rfl) (by kernel_rfl) (fun _ _ _ h => h) (by rfl) ?_ hHeld ?_
                rotate_left
                · intro w hSw; (try dsimp only at hSw); go_simp; (try (with_reducible rfl))
                (try simp only [Act.put, List.setIfInBounds_toArray, List.set_cons_zero, List.set_cons_succ])
                refine regOnly (i := 49) rfl (by kernel_rfl) (by rfl) (fun K hK => ?_)
                go_simp
                go_at_call 22
                (with_reducible refine (starts_c (hMx.out.below hb1) _).mono ?_)
                rintro e w' ⟨rfl, rfl⟩
                rw [hsj'.out, hss.out]
                refine hK.out _ _ hHeld (fun hHeld => ?_)
                clear hK K
                (try simp only [Act.put, List.setIfInBounds_toArray, List.set_cons_zero, List.set_cons_succ])
                refine regTake (i := 52) (v := ?_) rfl (by kernel_rfl) (by kernel_rfl) (by kernel_rfl) (fun _ _ _ h => h) (by rfl) ?_ hHeld ?_
                rotate_left
                · intro w hSw; (try dsimp only at hSw); go_simp; (try (with_reducible rfl))
                (try simp only [Act.put, List.setIfInBounds_toArray, List.set_cons_zero, List.set_cons_succ])
                refine regTake (i := 53) (v := ?_) rfl (by kernel_rfl) (by kernel_rfl) (by kernel_rfl) (fun _ _ _ h => h) (by rfl) ?_ hHeld ?_
                rotate_left
                · intro w hSw; (try dsimp only at hSw); go_simp; (try (with_reducible rfl))
                (try simp only [Act.put, List.setIfInBounds_toArray, List.set_cons_zero, List.set_cons_succ])
                refine regTake (i := 54) (v := ?_) rfl (by kernel_rfl) (by kernel_rfl) (by kernel_rfl) (fun _ _ _ h => h) (by rfl) ?_ hHeld ?_
                rotate_left
                · intro w hSw; (try dsimp only at hSw); go_simp; (try (with_reducible rfl))
                (try simp only [Act.put, List.setIfInBounds_toArray, List.set_cons_zero, List.set_cons_succ])
                refine regTake (i := 55) (v := ?_) rfl (by kernel_rfl) (by kernel_rfl) (by kernel_rfl) (fun _ _ _ h => h) (by rfl) ?_ hHeld ?_
                rotate_left
                · intro w hSw; (try dsimp only at hSw); go_simp; (try (with_reducible rfl))
                (try simp only [Act.put, List.setIfInBounds_toArray, List.set_cons_zero, List.set_cons_succ])
                refine wpAnyH_done (by kernel_rfl) ?_ _
                go_wp2
                go_meet
                case rel => exact ⟨by rw [hsj.out, IntKind.wrap_i64]; unfold wrap64; simp, hb1⟩
            case rest =>
              obtain ⟨rfl, hbc⟩ := hcut
              have cw := (hbc.cell (p := ⟨gw, ow + j, none⟩) (Nat.lt_of_lt_of_le hgwl hbx.out.size)).trans cw
              have cn := (hbc.cell (p := ⟨gn, on + j, none⟩) (Nat.lt_of_lt_of_le hgnl hbx.out.size)).trans cn
              have hby := hid (Below.next hbx.out hbc hbx.out.size)
              clear hbc cK cP
              rcases hcomb.out with ⟨rfl, rfl⟩ | ⟨rfl, rfl⟩ | ⟨rfl, rfl⟩ | ⟨-, rfl, rfl⟩ | ⟨-, rfl, rfl⟩ | ⟨-, -, rfl, rfl, -⟩
              all_goals
                clear hcomb
                go_wp2
                go_roundg (s.length - (j + 1))
                case rel => exact ⟨j + 1, by omega, rfl, by go_num, hby.out⟩
                case measure => omega
          · obtain rfl : j = s.length := by omega
            have hMx := hid (hM5.out.below hbx)
            have hBx := hid (Below.next hB5.out hbx hB5.out.size)
            go_wp2
            go_roundg (ys.length - (k + 1))
            case rel => exact ⟨k + 1, _, by omega, rfl, by go_num, hMx.out, hBx.out⟩
            case measure => omega
    · obtain rfl : k = ys.length := by omega
      go_wp2
      go_ret
      exact ⟨rfl, hB⟩
end Go.Proofs.Ytfnhjendplgidaa.Lw
