/- DERIVED. The walk over the statement WheelPlays: what a wheel answers, and has, in whatever row, is what the document says. -/
import Derived.Test.YtallemgagloagaaRefWheel
namespace Go.Proofs.Ytallemgagloagaa.Rw
set_option linter.unusedVariables false
set_option linter.unusedSimpArgs false
open Go.RowKit Go.Proofs.Ytallemgagloagaa.K Go.Proofs.Ytallemgagloagaa.Lb Go.Proofs.Ytallemgagloagaa.Wh
theorem TAt.grow {M : Nat → Prop} {w w' : World} {v : Value} {l : List Ent} (h : TAt (fun b => ¬ M b) w v l) (hc : Chg M w w') : TAt (fun b => ¬ grow M w w' b) w' v l :=
  ((h.mono (ok' := fun b => ¬ M b ∧ b < w.heap.size) (fun b h hlt => ⟨h, hlt⟩)).chg hc (fun b h _ => h.1)).mono (fun b h _ hm => by rcases hm with hm | hm; exact h.1 hm; have := h.2; omega)
theorem WhM.srtU {w : World} {M : Nat → Prop} {wb : Nat} {l : List Ent} {s : Int} (h : WhM w M wb l s) : l.Pairwise (fun a b => a.u ≤ b.u) := by
  obtain ⟨_, hr⟩ := h.rel
  exact hr.srt.imp (fun hab => by unfold ltE at hab; omega)
theorem WhM.bdU {w : World} {M : Nat → Prop} {wb : Nat} {l : List Ent} {s : Int} (h : WhM w M wb l s) : ∀ e ∈ l, 0 ≤ e.u ∧ e.u ≤ 4611686018427387904 := by
  obtain ⟨_, hr⟩ := h.rel
  exact fun e he => (hr.bd e he).2.1
theorem kindW_lt (k : Int) : 0 ≤ kindW k ∧ kindW k < 6 := by unfold kindW; omega
set_option maxHeartbeats 4000000 in
set_option maxRecDepth 100000 in
theorem wplays_c {w : World} {ao : Option Addr} {n0 c0 : Nat} {qs : List WSt} (hs0 : WStepsAt w (.slice ao n0 c0) qs) : Calls Try.prog 6 #[.slice ao n0 c0] w (LivesW w) := by
  replace hs0 := hid hs0
  go_enter Try.func6, Try.ntmps6
  go_upto_region 6 with (first | (go_at_call 8; (with_reducible refine (lives_c _).mono ?_); rintro e w1 ⟨rfl, hb⟩; have hB1 := hid hb; clear hb) | (go_at_call 9; (with_reducible refine (new_l w1).mono ?_); rintro e w2 ⟨wb, rfl, hG, hb⟩; have hG2 := hid hG; have hW2 := hid (show Wd w.heap.size w w2 (fun b => w1.heap.size ≤ b ∧ b < w2.heap.size) from ⟨Below.next hB1.out hb hB1.out.size, fun b h => Nat.le_trans hB1.out.size h.1, fun b h => h.2, Nat.le_trans hB1.out.size hb.size⟩); clear hG hb; generalize (fun b => w1.heap.size ≤ b ∧ b < w2.heap.size) = M2 at hG2 hW2) | (go_at_call 16; (with_reducible refine (wearly_c (w0 := w) _ hs0.out).mono ?_); rintro e w' ⟨v', rfl, hv', rfl⟩; have hl80 := hid (show (qs.take 80).length ≤ 80 by simp; omega); generalize qs.take 80 = ys at hv' hl80; obtain ⟨a3, c3, rfl⟩ := hv'.shape; replace hv' := hid hv'))
  go_wp2
  go_loopg [5, 4, 6, 7, 8, 9, 10, 11, 12, 13, 14, 15, 16, 17, 18, 19, 20] ys.length (fun gg si s4 s6 s7 s8 s9 s10 s11 s12 s13 s14 s15 s16 s17 s18 s19 s20 wr => ∃ (i : Nat) (l : List Ent) (s : Int) (M : Nat → Prop), i ≤ ys.length ∧ gg = ys.length - i ∧ si = .int .i64 i ∧ s ≤ i ∧ l.length ≤ i ∧ TAt (fun b => ¬ M b) wr s4 l ∧ WhM wr M wb l s ∧ Wd w.heap.size w wr M)
  case atStart => exact ⟨0, [], 0, M2, by omega, by omega, rfl, by omega, by simp, RowAt.nil _ _ _ _, hG2.out, hW2.out⟩
  case round =>
    clear hG2 hW2
    obtain ⟨i, l, s, M, hi, hgg, rfl, hsi, hli, hT, hG, hW⟩ := hrel
    by_cases hlt : i < ys.length
    · obtain ⟨xg, xo, rfl, xl, hqi, c0, c1, c2⟩ := hv'.out.atC hW.below hlt
      have hi80 : i < 80 := Nat.lt_of_lt_of_le hlt hl80.out
      have d1 : decide ((i : Int) < ys.length) = true := decide_eq_true (by omega)
      generalize ys[i] = q at hqi c0 c1 c2
      replace hqi := hid hqi
      have hbb := (Below.refl wr.heap.size wr).alloc (Nat.le_refl _) (.cells #[.int .i64 q.k, .int .i64 q.key, .int .i64 q.n] 40)
      have hP := hid (pts.newA wr #[.int .i64 q.k, .int .i64 q.key, .int .i64 q.n] 40)
      have hG1 := hid (hG.below hbb)
      have hW1 := hid (hW.next hbb)
      obtain ⟨ra, rc, rfl⟩ := hT.shape
      have hT1 := hid (hT.below hbb)
      have hnb := hid (show ¬ M wr.heap.size from fun hm => Nat.lt_irrefl _ (hG.lt wr.heap.size hm))
      clear hG hW hT hbb
      go_upto_region 11 with fail
      generalize wr.alloc (.cells #[.int .i64 q.k, .int .i64 q.key, .int .i64 q.n] 40) = w5 at hP hG1 hW1 hT1 ⊢
      obtain ⟨pb, hpb⟩ : ∃ pb, pb = wr.heap.size := ⟨_, rfl⟩
      rw [← hpb] at hP hnb ⊢
      replace hpb := hid hpb
      clear c0 c1 c2 xl d1
      have p0 := hP.out.cell 0
      have p1 := hP.out.cell 1
      have p2 := hP.out.cell 2
      have pl := hP.out.lt
      simp only [List.getElem?_cons_zero, List.getElem?_cons_succ] at p0 p1 p2
      have hkd := hid (kindW_lt q.k)
      go_upto_block 2 with (first | (go_at_call 17; (with_reducible refine (wkind_c _ q).mono ?_); rintro e w6 ⟨rfl, hb⟩; have hG6 := hid (hG1.out.below hb); have hW6 := hid (hW1.out.next hb); have hP6 := hid (hP.out.below hb); have hT6 := hid (hT1.out.below hb); clear hb))
      clear p0 p1 p2 pl hG1 hW1 hP hT1
      generalize kindW q.k = K at hkd ⊢
      have p1 := hP6.out.cell 1
      have p2 := hP6.out.cell 2
      have pl := hP6.out.lt
      simp only [List.getElem?_cons_zero, List.getElem?_cons_succ] at p1 p2
      have hl6 := hid (show l.length < 100000 by omega)
      go_cut [4, 7, 8, 9, 10, 11, 12, 13] from 38 to 91 (fun v4 v7 u8 u9 u10 u11 u12 u13 wx => v7 = .bool true ∧ ∃ (l' : List Ent) (s' : Int) (M' : Nat → Prop), s' ≤ (i : Int) + 1 ∧ l'.length ≤ i + 1 ∧ TAt (fun b => ¬ M' b) wx v4 l' ∧ WhM wx M' wb l' s' ∧ Wd w.heap.size w wx M' ∧ pts wx pb [.int .i64 q.k, .int .i64 q.key, .int .i64 q.n] 40)
      case first =>
        by_cases hK3 : K < 3
        · have hrs := hid (rset_c hT6.out hl6.out (WhM.srtU hG6.out) q.key q.n (s + 1))
          have hsl := hid (set_le l q.key (cutT q.n) (s + 1))
          go_upto_if 38 with fail
          go_cut [38] from 38 to 41 (fun v wx => v = .bool true ∧ w6 = wx)
          case first =>
            rcases (show K = 0 ∨ K = 1 ∨ K = 2 by have := hkd.out; omega) with rfl | rfl | rfl
            all_goals go_wp2
            all_goals go_meet
            all_goals exact ⟨rfl, rfl⟩
          case rest =>
            obtain ⟨rfl, rfl⟩ := hcut
            go_wp2_with (first | (go_at_call 18; (with_reducible refine (hrs.out).mono ?_); rintro e w7 ⟨v7, rfl, hT, hb⟩; obtain ⟨a7, c7, rfl⟩ := hT.shape; have hT7 := hid (hT.mono (ok' := fun b => ¬ M b) (fun b h _ hm => by have := hG6.out.lt b hm; omega)); have hG7 := hid (hG6.out.below hb); have hW7 := hid (hW6.out.next hb); have hP7 := hid (hP6.out.below hb); have p1 := hP7.out.cell 1; have p2 := hP7.out.cell 2; have pl := hP7.out.lt; simp only [List.getElem?_cons_zero, List.getElem?_cons_succ] at p1 p2; clear hT hb) | (go_at_call 10; (with_reducible refine (set_l hG7.out (by omega) hqi.out q.n).mono ?_); rintro e w8 hp; have hT8 := hid (TAt.grow hT7.out hp.2.2); have hP8 := hid (hP7.out.chg hp.2.2 hnb.out); obtain ⟨rfl, hG', hW'⟩ := WhM.wd hW7.out hp; have hG8 := hid hG'; have hW8 := hid hW'; clear hG' hW' hp))
            go_meet
            case rel => exact ⟨rfl, _, s + 1, _, by omega, by have := hsl.out; omega, hT8.out, hG8.out, hW8.out, hP8.out⟩
        · have q0 : (K == 0) = false := by simp; omega
          have q1 : (K == 1) = false := by simp; omega
          have q2 : (K == 2) = false := by simp; omega
          by_cases hK3e : K = 3
          · have q3 : (K == 3) = true := by simpa using hK3e
            replace hK3e := hid hK3e
            have hrc := hid (rcancel_c hT6.out (by have := hl6.out; omega) q.key)
            have hrl := hid (show (rmE q.key l).length ≤ l.length from List.length_filter_le _ _)
            go_wp2_with (first | (go_at_call 19; (with_reducible refine (hrc.out).mono ?_); rintro e w7 ⟨v7, rfl, hT, hb⟩; obtain ⟨a7, c7, rfl⟩ := hT.shape; have hT7 := hid (hT.mono (ok' := fun b => ¬ M b) (fun b h _ hm => by have := hG6.out.lt b hm; omega)); have hG7 := hid (hG6.out.below hb); have hW7 := hid (hW6.out.next hb); have hP7 := hid (hP6.out.below hb); have p1 := hP7.out.cell 1; have p2 := hP7.out.cell 2; have pl := hP7.out.lt; simp only [List.getElem?_cons_zero, List.getElem?_cons_succ] at p1 p2; clear hT hb) | (go_at_call 15; (with_reducible refine (cancel_l hG7.out hqi.out).mono ?_); rintro e w8 hp; have hT8 := hid (TAt.grow hT7.out hp.2.2); have hP8 := hid (hP7.out.chg hp.2.2 hnb.out); obtain ⟨rfl, hG', hW'⟩ := WhM.wd hW7.out hp; have hG8 := hid hG'; have hW8 := hid hW'; clear hG' hW' hp))
            go_meet
            case rel => exact ⟨rfl, _, s, _, by omega, by have := hrl.out; omega, hT8.out, hG8.out, hW8.out, hP8.out⟩
          · have q3 : (K == 3) = false := by simpa using hK3e
            by_cases hK4e : K = 4
            · have q4 : (K == 4) = true := by simpa using hK4e
              replace hK4e := hid hK4e
              have hrd := hid (rdue_c hT6.out (by have := hl6.out; omega) (WhM.srtU hG6.out) (WhM.bdU hG6.out) q.n)
              have hrl := hid (show (l.filter (fun e => !lateE q.n e)).length ≤ l.length from List.length_filter_le _ _)
              go_wp2_with (first | (go_at_call 20; (with_reducible refine (hrd.out).mono ?_); rintro e w7 ⟨v7, v8, rfl, hT, hi, hb⟩; obtain ⟨a7, c7, rfl⟩ := hT.shape; obtain ⟨a8, c8, rfl⟩ := hi.shape; have hT7 := hid hT; have hi7 := hid (hi.mono (ok' := fun b => ¬ M b) (fun b h _ hm => by have := hG6.out.lt b hm; omega)); have hG7 := hid (hG6.out.below hb); have hW7 := hid (hW6.out.next hb); have hP7 := hid (hP6.out.below hb); have p1 := hP7.out.cell 1; have p2 := hP7.out.cell 2; have pl := hP7.out.lt; simp only [List.getElem?_cons_zero, List.getElem?_cons_succ] at p1 p2; clear hT hi hb) | (go_at_call 11; (with_reducible refine (due_l hG7.out (by omega) (by omega) q.n).mono ?_); rintro e w8 ⟨v9, rfl, hi, hG', hC⟩; obtain ⟨a9, c9, rfl⟩ := hi.shape; have hT8 := hid (hT7.out.chg hC (fun b hb _ => hb)); have hi8 := hid (hi7.out.chg hC (fun b hb _ => hb)); have hj8 := hid hi; have hP8 := hid (hP7.out.chg hC hnb.out); have hG8 := hid hG'; have hW8 := hid (Wd.chgSame hW7.out hC); clear hi hG' hC) | (go_at_call 21; (with_reducible refine (R1.same_c hj8.out hi8.out).mono ?_); rw [decide_eq_true rfl]; rintro e w9 ⟨rfl, kk, rfl⟩))
              go_meet
              case rel => exact ⟨rfl, _, s, _, by omega, by have := hrl.out; omega, hT8.out, hG8.out.below ⟨rfl, rfl, rfl, Nat.le_refl _, fun _ _ => rfl⟩, hW8.out.next ⟨rfl, rfl, rfl, Nat.le_refl _, fun _ _ => rfl⟩, hP8.out⟩
            · have q4 : (K == 4) = false := by simpa using hK4e
              replace hK3e := hid hK3e
              replace hK4e := hid hK4e
              go_wp2
              go_meet
              case rel => exact ⟨rfl, l, s, M, by omega, by omega, hT6.out, hG6.out, hW6.out, hP6.out⟩
      case rest =>
        clear hG6 hW6 hP6 hT6 hl6 p1 p2 pl hli hsi
        obtain ⟨rfl, l', s', M', hs', hl', hT, hG, hW, hP⟩ := hcut
        replace hT := hid hT
        replace hG := hid hG
        replace hW := hid hW
        replace hP := hid hP
        obtain ⟨ra', rc', rfl⟩ := hT.out.shape
        have p1 := hP.out.cell 1
        have pl := hP.out.lt
        simp only [List.getElem?_cons_zero, List.getElem?_cons_succ] at p1
        obtain ⟨uu, huu⟩ : ∃ uu, untilE l' q.key = uu := ⟨_, rfl⟩
        obtain ⟨hh, hhh⟩ : ∃ hh, hasE l' q.key = hh := ⟨_, rfl⟩
        obtain ⟨ln, hln⟩ : ∃ ln, l'.length = ln := ⟨_, rfl⟩
        rw [hln] at hT ⊢
        have hln80 : ln ≤ 81 := by omega
        replace huu := hid huu
        replace hhh := hid hhh
        have bxu : (hh != hh) = false := by simp
        have bxl : ((ln : Int) != ln) = false := by simp
        have bxv : (uu != uu) = false := by simp
        cases l' with
        | nil =>
          obtain rfl : ln = 0 := by rw [← hln]; rfl
          replace hln := hid hln
          have hf0 : hdK [] = 0 ∧ hdU [] = 0 ∧ (!([] : List Ent).isEmpty) = false := ⟨rfl, rfl, rfl⟩
          replace hf0 := hid hf0
          go_wp2_with (first | (go_at_call 14; (with_reducible refine (until_l hG.out hqi.out).mono ?_); rw [huu.out, hhh.out]; rintro e w7 ⟨rfl, hb⟩; have hG7 := hid (hG.out.below hb); have hW7 := hid (hW.out.next hb); have hT7 := hid (hT.out.below hb); have hP7 := hid (hP.out.below hb); have p1 := hP7.out.cell 1; have pl := hP7.out.lt; simp only [List.getElem?_cons_zero, List.getElem?_cons_succ] at p1; clear hb) | (go_at_call 22; (with_reducible refine (runtil_c hT7.out q.key).mono ?_); rw [huu.out, hhh.out]; rintro e w' ⟨rfl, rfl⟩) | (go_at_call 23; (with_reducible refine (first_l hG7.out (by omega)).mono ?_); rw [hf0.out.1, hf0.out.2.1, hf0.out.2.2]; rintro e w8 ⟨rfl, hb⟩; have hG8 := hid (hG7.out.below hb); have hW8 := hid (hW7.out.next hb); have hT8 := hid (hT7.out.below hb); clear hb) | (go_at_call 12; (with_reducible refine (len_l hG8.out).mono ?_); rw [hln.out]; rintro e w' ⟨rfl, rfl⟩) | (go_at_call 13; (with_reducible refine (keys_l hG8.out (by omega)).mono ?_); rintro e w9 ⟨v9, rfl, hi, hb⟩; obtain ⟨a9, c9, rfl⟩ := hi.shape; have hi9 := hid hi; have hG9 := hid (hG8.out.below hb); have hW9 := hid (hW8.out.next hb); have hT9 := hid (hT8.out.below hb); clear hi hb) | (go_at_call 24; (with_reducible refine (rkeys_c hT9.out (by rw [hln.out]; omega)).mono ?_); rintro e wA ⟨vA, rfl, hi, hb⟩; obtain ⟨aA, cA, rfl⟩ := hi.shape; have hiA := hid hi; have hjA := hid (hi9.out.below hb); have hGA := hid (hG9.out.below hb); have hWA := hid (hW9.out.next hb); have hTA := hid (hT9.out.below hb); clear hi hb) | (go_at_call 21; (with_reducible refine (R1.same_c hjA.out hiA.out).mono ?_); rw [decide_eq_true rfl]; rintro e wB ⟨rfl, kk, rfl⟩))
          go_roundg (ys.length - (i + 1))
          case rel => exact ⟨i + 1, [], s', M', by omega, rfl, by go_num, by omega, by simp, hTA.out, hGA.out.below ⟨rfl, rfl, rfl, Nat.le_refl _, fun _ _ => rfl⟩, hWA.out.next ⟨rfl, rfl, rfl, Nat.le_refl _, fun _ _ => rfl⟩⟩
          case measure => omega
        | cons e0 t0 =>
          obtain ⟨m, rfl⟩ : ∃ m, ln = m + 1 := ⟨t0.length, by rw [← hln]; rfl⟩
          replace hln := hid hln
          have hf0 : hdK (e0 :: t0) = e0.k ∧ hdU (e0 :: t0) = e0.u ∧ (!(e0 :: t0).isEmpty) = true := ⟨rfl, rfl, rfl⟩
          replace hf0 := hid hf0
          have b1 : (e0.k != e0.k) = false := by simp
          have b2 : (e0.u != e0.u) = false := by simp
          go_wp2_with (first | (go_at_call 14; (with_reducible refine (until_l hG.out hqi.out).mono ?_); rw [huu.out, hhh.out]; rintro e w7 ⟨rfl, hb⟩; have hG7 := hid (hG.out.below hb); have hW7 := hid (hW.out.next hb); have hT7 := hid (hT.out.below hb); have hP7 := hid (hP.out.below hb); have p1 := hP7.out.cell 1; have pl := hP7.out.lt; simp only [List.getElem?_cons_zero, List.getElem?_cons_succ] at p1; clear hb) | (go_at_call 22; (with_reducible refine (runtil_c hT7.out q.key).mono ?_); rw [huu.out, hhh.out]; rintro e w' ⟨rfl, rfl⟩) | (go_at_call 23; (with_reducible refine (first_l hG7.out (by omega)).mono ?_); rw [hf0.out.1, hf0.out.2.1, hf0.out.2.2]; rintro e w8 ⟨rfl, hb⟩; have hG8 := hid (hG7.out.below hb); have hW8 := hid (hW7.out.next hb); have hT8 := hid (hT7.out.below hb); clear hb) | (go_at_call 12; (with_reducible refine (len_l hG8.out).mono ?_); rw [hln.out]; rintro e w' ⟨rfl, rfl⟩) | (go_at_call 13; (with_reducible refine (keys_l hG8.out (by omega)).mono ?_); rintro e w9 ⟨v9, rfl, hi, hb⟩; obtain ⟨a9, c9, rfl⟩ := hi.shape; have hi9 := hid hi; have hG9 := hid (hG8.out.below hb); have hW9 := hid (hW8.out.next hb); have hT9 := hid (hT8.out.below hb); clear hi hb) | (go_at_call 24; (with_reducible refine (rkeys_c hT9.out (by rw [hln.out]; omega)).mono ?_); rintro e wA ⟨vA, rfl, hi, hb⟩; obtain ⟨aA, cA, rfl⟩ := hi.shape; have hiA := hid hi; have hjA := hid (hi9.out.below hb); have hGA := hid (hG9.out.below hb); have hWA := hid (hW9.out.next hb); have hTA := hid (hT9.out.below hb); clear hi hb) | (go_at_call 21; (with_reducible refine (R1.same_c hjA.out hiA.out).mono ?_); rw [decide_eq_true rfl]; rintro e wB ⟨rfl, kk, rfl⟩; obtain ⟨tg, to_, hra, -, tl, t0_, t1_⟩ := TAt.cells (i := 0) (show TAt (fun b => ¬ M' b) (wA.drewN kk) (.slice ra' (m + 1) rc') (e0 :: t0) from hTA.out) (by simp); subst hra; simp only [Nat.zero_mul, Nat.add_zero, List.getElem_cons_zero] at t0_ t1_))
          go_roundg (ys.length - (i + 1))
          case rel => exact ⟨i + 1, e0 :: t0, s', M', by omega, rfl, by go_num, by omega, hl', hTA.out, hGA.out.below ⟨rfl, rfl, rfl, Nat.le_refl _, fun _ _ => rfl⟩, hWA.out.next ⟨rfl, rfl, rfl, Nat.le_refl _, fun _ _ => rfl⟩⟩
          case measure => omega
    · have d1 : decide ((i : Int) < ys.length) = false := decide_eq_false (by omega)
      have hend := hid (show LivesW w (.returned (.bool true)) wr from ⟨rfl, hW.below⟩)
      obtain ⟨ra, rc, rfl⟩ := hT.shape
      clear hT hG hW
      go_wp2
      go_ret
      exact hend.out
end Go.Proofs.Ytallemgagloagaa.Rw
