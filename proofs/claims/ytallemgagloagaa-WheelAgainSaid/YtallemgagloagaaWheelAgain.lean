/- DERIVED. The walk over the statement WheelAgain: what is set again has the last tick, and is behind those of it that were set ahead; what is cancelled is never told. -/
import Derived.Test.YtallemgagloagaaWheelH
import Derived.Test.YtallemgagloagaaWheelAgainP
namespace Go.Proofs.Ytallemgagloagaa.Wh
set_option linter.unusedVariables false
set_option linter.unusedSimpArgs false
open Go.RowKit Go.Proofs.Ytallemgagloagaa.K Go.Proofs.Ytallemgagloagaa.Lb
set_option maxHeartbeats 4000000 in
set_option maxRecDepth 100000 in
theorem wagain_c {w : World} {v : Value} {xs : List Int} (hx : IntsAt (fun _ => True) w v xs) (hxi : ∀ x ∈ xs, isInt x) (a b : Int) : Calls Try.prog 4 #[v, .int .i64 a, .int .i64 b] w (LivesW w) := by
  obtain ⟨xa, xc, rfl⟩ := hx.shape
  have hxl := hx.get.2.1
  have hxm := hx.get.2.2.1
  have hx0 := hid (hx.mono (ok' := fun b => b < w.heap.size) (fun b _ h => h))
  replace hxi := hid hxi
  have eX := hid (cut100 (n := a))
  have eY := hid (cut100 (n := b))
  have hY := hid (show 0 ≤ (b % 18446744073709551616) % 100 ∧ (b % 18446744073709551616) % 100 < 100 by omega)
  generalize (a % 18446744073709551616) % 100 = X at eX
  generalize (b % 18446744073709551616) % 100 = Y at eY hY
  have hcy := hid (show cutT Y = Y by have := hY.out; unfold cutT; omega)
  clear hx
  go_enter Try.func4, Try.ntmps4
  go_upto_region 5 with (first | (go_at_call 8; (with_reducible refine (lives_c _).mono ?_); rintro e w1 ⟨rfl, hb⟩; have hB1 := hid hb; clear hb) | (go_at_call 9; (with_reducible refine (new_l w1).mono ?_); rintro e w2 ⟨wb, rfl, hG, hb⟩; have hG2 := hid hG; have hW2 := hid (show Wd w.heap.size w w2 (fun b => w1.heap.size ≤ b ∧ b < w2.heap.size) from ⟨Below.next hB1.out hb hB1.out.size, fun b h => Nat.le_trans hB1.out.size h.1, fun b h => h.2, Nat.le_trans hB1.out.size hb.size⟩); clear hG hb; generalize (fun b => w1.heap.size ≤ b ∧ b < w2.heap.size) = M2 at hG2 hW2))
  rw [eX.out, eY.out]
  go_upto_block 0 with fail
  go_cut [10] from 31 to 47 (fun si wx => ∃ (l : List Ent) (s : Int) (M : Nat → Prop), s ≤ 30 ∧ l.length ≤ 30 ∧ (∀ k, hasE l k = true ↔ k ∈ xs.take 30) ∧ WhM wx M wb l s ∧ Wd w.heap.size w wx M)
  case first =>
    go_wp2_with fail
    go_loopg [10] xs.length (fun gg si wr => ∃ (i : Nat) (l : List Ent) (M : Nat → Prop), i ≤ xs.length ∧ i ≤ 30 ∧ gg = xs.length - i ∧ si = .int .i64 i ∧ l.length ≤ i ∧ (∀ k, hasE l k = true ↔ k ∈ xs.take i) ∧ WhM wr M wb l i ∧ Wd w.heap.size w wr M)
    case atStart => exact ⟨0, [], M2, by omega, by omega, rfl, rfl, by simp, fun k => by simp [hasE], hG2.out, hW2.out⟩
    case round =>
      clear hG2 hW2
      obtain ⟨i, l, M, hi, h30, hgg, rfl, hli, hmem, hG, hW⟩ := hrel
      have hle := hid (fun k u s => Nat.le_trans (set_le l k u s) (Nat.succ_le_succ hli))
      replace hmem := hid hmem
      replace hG := hid hG
      replace hW := hid hW
      by_cases hlt : i < xs.length
      · have d1 : decide ((i : Int) < xs.length) = true := decide_eq_true (by omega)
        by_cases hl3 : i < 30
        · have d2 : decide ((i : Int) < 30) = true := decide_eq_true (by omega)
          obtain ⟨-, -, -, hg⟩ := (hx0.out.kept hW.out.below.size (fun b h _ => hW.out.below.block b h)).get
          obtain ⟨xg, xo, rfl, -, xl, cx⟩ := hg i hlt
          have hki := hid (hxi.out _ (List.getElem_mem hlt))
          have hnx := hid (show ∀ k, hasE (setE l xs[i] (cutT X) ((i : Int) + 1)) k = true ↔ k ∈ xs.take (i + 1) by
            intro k
            rw [has_set, Bool.or_eq_true, hmem.out k, List.take_succ_eq_append_getElem hlt, List.mem_append, List.mem_singleton, beq_iff_eq]
            constructor
            · rintro (h | h); exact .inr h.symm; exact .inl h
            · rintro (h | h); exact .inr h; exact .inl h.symm)
          clear hg
          go_wp2_with (first | (go_at_call 10; (with_reducible refine (set_l hG.out (by omega) hki.out X).mono ?_); rintro e w3 hp; obtain ⟨rfl, hG', hW'⟩ := WhM.wd hW.out hp; have hG3 := hid hG'; have hW3 := hid hW'; clear hG' hW' hp))
          go_roundg (xs.length - (i + 1))
          case rel => exact ⟨i + 1, _, _, by omega, by omega, rfl, by go_num, hle.out _ _ _, hnx.out, hG3.out, hW3.out⟩
          case measure => omega
        · have d2 : decide ((i : Int) < 30) = false := decide_eq_false (by omega)
          obtain rfl : i = 30 := by omega
          go_wp2
          go_meet
          case rel => exact ⟨l, _, M, by omega, hli, hmem.out, hG.out, hW.out⟩
      · have d1 : decide ((i : Int) < xs.length) = false := decide_eq_false (by omega)
        obtain rfl : i = xs.length := by omega
        have hm30 := hid (show ∀ k, hasE l k = true ↔ k ∈ xs.take 30 by
          intro k; rw [hmem.out k, List.take_of_length_le (Nat.le_refl _), List.take_of_length_le h30])
        go_wp2
        go_meet
        case rel => exact ⟨l, _, M, by omega, by omega, hm30.out, hG.out, hW.out⟩
  case rest =>
    clear hG2 hW2
    obtain ⟨l1, s1, M1, hs1, hl30, hm1, hG1, hW1⟩ := hcut
    replace hm1 := hid hm1
    replace hG1 := hid hG1
    replace hW1 := hid hW1
    have hnd1 := hid (show (keysE l1).Nodup from let ⟨_, h⟩ := hG1.out.rel; h.nd)
    obtain ⟨n, hn⟩ : ∃ n, n = l1.length := ⟨_, rfl⟩
    have hn30 : n ≤ 30 := by omega
    clear hl30
    go_upto_region 10 with (first | (go_at_call 12; (with_reducible refine (len_l hG1.out).mono ?_); rw [← hn]; rintro e w' ⟨rfl, rfl⟩))
    replace hn := hid hn
    go_upto_block 2 with fail
    go_cut [12] from 50 to 67 (fun si wx => ∃ (l : List Ent) (s : Int) (M : Nat → Prop), s ≤ 60 ∧ l.length = n ∧ (∀ e ∈ l, e.u = Y) ∧ WhM wx M wb l s ∧ Wd w.heap.size w wx M)
    case first =>
      go_wp2_with fail
      go_loopg [12] xs.length (fun gg si wr => ∃ (i : Nat) (l : List Ent) (s : Int) (M : Nat → Prop), i ≤ xs.length ∧ i ≤ 30 ∧ gg = xs.length - i ∧ si = .int .i64 i ∧ s ≤ 30 + i ∧ l.length = n ∧ (∀ k, hasE l k = true ↔ k ∈ xs.take 30) ∧ (∀ e ∈ l, e.k ∈ xs.take i → e.u = Y) ∧ WhM wr M wb l s ∧ Wd w.heap.size w wr M)
      case atStart => exact ⟨0, l1, s1, M1, by omega, by omega, rfl, rfl, by omega, hn.out.symm, hm1.out, fun e _ h => (by simp at h), hG1.out, hW1.out⟩
      case round =>
        clear hG1 hW1 hm1 hnd1
        obtain ⟨i, l, s, M, hi, h30, hgg, rfl, hsi, hln, hmem, hYs, hG, hW⟩ := hrel
        replace hmem := hid hmem
        replace hYs := hid hYs
        replace hln := hid hln
        replace hG := hid hG
        replace hW := hid hW
        by_cases hlt : i < xs.length
        · have d1 : decide ((i : Int) < xs.length) = true := decide_eq_true (by omega)
          by_cases hl3 : i < 30
          · have d2 : decide ((i : Int) < 30) = true := decide_eq_true (by omega)
            obtain ⟨-, -, -, hg⟩ := (hx0.out.kept hW.out.below.size (fun b h _ => hW.out.below.block b h)).get
            obtain ⟨xg, xo, rfl, -, xl, cx⟩ := hg i hlt
            have hki := hid (hxi.out _ (List.getElem_mem hlt))
            have hhas : hasE l xs[i] = true := (hmem.out _).2 (by
              rw [List.mem_take_iff_getElem]; exact ⟨i, by omega, rfl⟩)
            have hsl := set_l hG.out (by omega) hki.out Y
            rw [hhas, hcy.out] at hsl
            replace hsl := hid hsl
            have hnd := hid (show (keysE l).Nodup from let ⟨_, h⟩ := hG.out.rel; h.nd)
            have hm2 := hid (show ∀ k, hasE (setE l xs[i] Y (s + 1)) k = true ↔ k ∈ xs.take 30 by
              intro k
              rw [has_set, Bool.or_eq_true, hmem.out k, beq_iff_eq]
              constructor
              · rintro (h | h)
                · rw [← h]; exact (hmem.out _).1 hhas
                · exact h
              · exact .inr)
            have hY2 := hid (show ∀ e ∈ setE l xs[i] Y (s + 1), e.k ∈ xs.take (i + 1) → e.u = Y by
              intro e he hk
              rcases mem_set.1 he with rfl | ⟨h1, h2⟩
              · rfl
              · rw [List.take_succ_eq_append_getElem hlt, List.mem_append, List.mem_singleton] at hk
                rcases hk with h | h
                · exact hYs.out e h1 h
                · exact absurd h h2)
            have hl2 := hid (fun (h : (keysE (setE l xs[i] Y (s + 1))).Nodup) => (set_len hnd.out h hhas).trans hln.out)
            replace hhas := hid hhas
            clear hg
            go_wp2_with (first | (go_at_call 10; (with_reducible refine (hsl.out).mono ?_); rintro e w3 hp; obtain ⟨rfl, hG', hW'⟩ := WhM.wd hW.out hp; have hG3 := hid hG'; have hW3 := hid hW'; clear hG' hW' hp))
            go_roundg (xs.length - (i + 1))
            case rel => exact ⟨i + 1, _, _, _, by omega, by omega, rfl, by go_num, by omega, hl2.out (let ⟨_, h⟩ := hG3.out.rel; h.nd), hm2.out, hY2.out, hG3.out, hW3.out⟩
            case measure => omega
          · have d2 : decide ((i : Int) < 30) = false := decide_eq_false (by omega)
            obtain rfl : i = 30 := by omega
            have hall := hid (show ∀ e ∈ l, e.u = Y from fun e he => hYs.out e he ((hmem.out e.k).1 (hasE_mem he)))
            go_wp2
            go_meet
            case rel => exact ⟨l, s, M, by omega, hln.out, hall.out, hG.out, hW.out⟩
        · have d1 : decide ((i : Int) < xs.length) = false := decide_eq_false (by omega)
          obtain rfl : i = xs.length := by omega
          have hall := hid (show ∀ e ∈ l, e.u = Y from fun e he => hYs.out e he (by rw [List.take_of_length_le (Nat.le_refl _)]; exact List.mem_of_mem_take ((hmem.out e.k).1 (hasE_mem he))))
          go_wp2
          go_meet
          case rel => exact ⟨l, s, M, by omega, hln.out, hall.out, hG.out, hW.out⟩
    case rest =>
      clear hG1 hW1 hm1 hnd1
      obtain ⟨l, s, M, hs, hln, hall, hG, hW⟩ := hcut
      rw [← hn.out]
      clear hn
      obtain ⟨D, hR⟩ := hG.rel
      have hnd := hid hR.nd
      have hbd := hid (fun e he => (hR.bd e he).1)
      have hkl : (keysE l).length = n := by unfold keysE; rw [List.length_map, hln]
      replace hln := hid hln
      replace hall := hid hall
      replace hG := hid hG
      replace hW := hid hW
      clear hR
      go_upto_region 16 with (first | (go_at_call 13; (with_reducible refine (keys_l hG.out (by omega)).mono ?_); rintro e w4 ⟨v, rfl, hi, hb⟩; obtain ⟨ka, kc, rfl⟩ := hi.shape; have hi4 := hid (hi.mono (ok' := fun b => ¬ M b) (fun b h _ hm => by have := hG.out.lt b hm; omega)); rw [hkl]; have hG4 := hid (hG.out.below hb); have hW4 := hid (hW.out.next hb); clear hb hi))
      clear hG hW
      rw [hkl] at hi4
      replace hkl := hid hkl
      have hcapn := hi4.out.get.2.1
      have hcapm := hi4.out.get.2.2.1
      have dn : ((n : Int) != n) = false := by simp
      go_upto_region 18 with (first | (go_at_call 12; (with_reducible refine (len_l hG4.out).mono ?_); rw [hln.out]; rintro e w' ⟨rfl, rfl⟩))
      go_wp2_with fail
      go_loopg [14, 15, 16] n (fun gg si s15 s16 wr => ∃ i : Nat, i ≤ n ∧ gg = n - i ∧ si = .int .i64 i ∧ Below w4.heap.size w4 wr)
      case atStart => exact ⟨0, by omega, rfl, rfl, Below.refl _ _⟩
      case round =>
        obtain ⟨i, hi, hgg, rfl, hb⟩ := hrel
        by_cases hlt : i < n
        · have d1 : decide ((i : Int) < n) = true := decide_eq_true (by omega)
          obtain ⟨-, -, -, hg⟩ := (hi4.out.below hb).get
          obtain ⟨kg, ko, rfl, -, kl, ck⟩ := hg i (by rw [hkl.out]; exact hlt)
          have hil : i < l.length := by rw [hln.out]; exact hlt
          simp only [keysE, List.getElem_map] at ck
          have hmem : l[i] ∈ l := List.getElem_mem hil
          have hun := until_l (hG4.out.below hb) (hbd.out _ hmem)
          rw [untilE_mem hnd.out hmem, hasE_mem hmem, hall.out _ hmem] at hun
          replace hun := hid hun
          have dy : (Y != Y) = false := by simp
          replace hb := hid hb
          clear hg hmem
          replace hil := hid hil
          go_wp2_with (first | (go_at_call 14; (with_reducible refine (hun.out).mono ?_); rintro e w5 ⟨rfl, hb5⟩; have hb6 := hid (Below.next hb.out hb5 hb.out.size); clear hb5))
          go_roundg (n - (i + 1))
          case rel => exact ⟨i + 1, by omega, rfl, by go_num, hb6.out⟩
          case measure => omega
        · obtain rfl : i = n := by omega
          have d1 : decide ((i : Int) < i) = false := decide_eq_false (by omega)
          have hi5 := hid (hi4.out.below hb)
          have hG5 := hid (hG4.out.below hb)
          have hW5 := hid (hW4.out.next hb)
          clear hb hi4 hG4 hW4
          go_wp2_with fail
          go_loopg [17] (i + 1) (fun gg si wr => ∃ (J j : Nat) (M : Nat → Prop), Hid (J = 2 * j) ∧ J ≤ i + 1 ∧ gg = i + 1 - J ∧ si = .int .i64 J ∧ WhM wr M wb (odds (l.take J) ++ l.drop J) s ∧ Wd w.heap.size w wr M ∧ IntsAt (fun b => ¬ M b) wr (.slice ka i kc) (keysE l))
          case atStart => exact ⟨0, 0, M, rfl, by omega, by omega, rfl, by simpa [odds] using hG5.out, hW5.out, hi5.out⟩
          case round =>
            clear hi5 hG5 hW5
            obtain ⟨J, j, M, hJ, hj, hgg, rfl, hG, hW, hi⟩ := hrel
            replace hG := hid hG
            replace hW := hid hW
            replace hi := hid hi
            by_cases hlt : J < i
            · have d2 : decide ((J : Int) < i) = true := decide_eq_true (by omega)
              obtain ⟨-, -, -, hg⟩ := hi.out.get
              obtain ⟨kg, ko, rfl, -, kl, ck⟩ := hg J (by rw [hkl.out]; exact hlt)
              have hil : J < l.length := by rw [hln.out]; exact hlt
              simp only [keysE, List.getElem_map] at ck
              have hmem : l[J] ∈ l := List.getElem_mem hil
              have hki := hid (hbd.out _ hmem)
              have hed : odds (l.take J) ++ l.drop J = odds (l.take J) ++ l[J] :: l.drop (J + 1) := by rw [List.drop_eq_getElem_cons hil]
              have hcnd : (keysE (odds (l.take J) ++ l[J] :: l.drop (J + 1))).Nodup := by rw [← hed]; exact let ⟨_, h⟩ := hG.out.rel; h.nd
              have hnx := rm_mid hcnd
              have hc1 := cancel_l hG.out hki.out
              rw [hed, hasE_mem (show l[J] ∈ odds (l.take J) ++ l[J] :: l.drop (J + 1) from List.mem_append.2 (.inr List.mem_cons_self))] at hc1
              have hh2 : hasE (rmE l[J].k (odds (l.take J) ++ l[J] :: l.drop (J + 1))) l[J].k = false := by rw [hasE_rm]; simp
              have hfin := hid (show rmE l[J].k (rmE l[J].k (odds (l.take J) ++ l[J] :: l.drop (J + 1))) = odds (l.take (J + 2)) ++ l.drop (J + 2) by
                have hJ' := hJ.out
                subst hJ'
                rw [rm_rm, hnx, odds_step])
              replace hc1 := hid hc1
              replace hh2 := hid hh2
              clear hg hmem hed hcnd hnx
              generalize hkk : l[J].k = kk at ck hki hc1 hh2 hfin
              replace hkk := hid hkk
              replace hil := hid hil
              go_wp2_with (first | (go_at_call 15; (with_reducible refine (hc1.out).mono ?_); rintro e w6 hp; have hi6 := hid (hi.out.grow hp.2.2); have ck6 := ck; obtain ⟨rfl, hG', hW'⟩ := WhM.wd hW.out hp; have hG6 := hid hG'; have hW6 := hid hW'; have kl6 : kg < w6.heap.size := Nat.lt_of_lt_of_le kl hp.2.2.size; have ck6 : w6.cell? ⟨kg, ko + J, none⟩ = some (.int .i64 kk) := (by obtain ⟨-, -, -, hg⟩ := hi6.out.get; obtain ⟨kg', ko', e', -, -, ck'⟩ := hg J (by rw [hkl.out]; exact hlt); simp only [keysE, List.getElem_map] at ck'; cases e'; rw [← hkk.out]; exact ck'); clear hG' hW' hp) | (go_at_call 15; (with_reducible refine (cancel_l hG6.out hki.out).mono ?_); rw [hh2.out, hfin.out]; rintro e w7 hp; have hi7 := hid (hi6.out.grow hp.2.2); obtain ⟨rfl, hG', hW'⟩ := WhM.wd hW6.out hp; have hG7 := hid hG'; have hW7 := hid hW'; clear hG' hW' hp))
              go_roundg (i + 1 - (J + 2))
              case rel => exact ⟨J + 2, j + 1, _, by have := hJ.out; show J + 2 = 2 * (j + 1); omega, by omega, rfl, by go_num, hG7.out, hW7.out, hi7.out⟩
              case measure => omega
            · have d2 : decide ((J : Int) < i) = false := decide_eq_false (by omega)
              have hil : l.length ≤ J := by rw [hln.out]; omega
              rw [List.take_of_length_le hil, List.drop_of_length_le hil, List.append_nil] at hG
              have hlate : ∀ e ∈ odds l, lateE Y e = true := by
                intro e he
                have hel : e ∈ l := by
                  obtain ⟨q, hq, rfl⟩ := List.mem_iff_getElem.1 he
                  have h1 := odds_get l q
                  rw [List.getElem?_eq_getElem hq] at h1
                  exact List.mem_of_getElem? h1.symm
                unfold lateE lateT
                rw [hall.out e hel]; simp
              have hdue := due_e hG.out (by omega) (show (odds l).length ≤ 1000000 by rw [odds_len, hln.out]; omega) (now := Y) (out := odds l) (rest := []) (ks := keysE (odds l)) (List.filter_eq_self.2 hlate) (List.filter_eq_nil_iff.2 (fun e he => by simp [hlate e he])) rfl
              have hol : (keysE (odds l)).length = i / 2 := by unfold keysE; rw [List.length_map, odds_len, hln.out]
              replace hdue := hid hdue
              replace hil := hid hil
              clear hlate
              go_upto_block 8 with (first | (go_at_call 11; (with_reducible refine (hdue.out).mono ?_); rintro e w8 ⟨v8, rfl, hi8, hG8, hC8⟩; obtain ⟨da, dc, rfl⟩ := hi8.shape; rw [hol]; have hd8 := hid hi8; have hk8 := hid (hi.out.chg hC8 (fun b hb _ => hb)); replace hG8 := hid hG8; have hW8 := hid (Wd.chgSame hW.out hC8); clear hC8 hi8))
              rw [hol] at hd8
              replace hol := hid hol
              have hdc := hd8.out.get.2.1
              have hdm := hd8.out.get.2.2.1
              clear hi hG hW hdue
              obtain ⟨m, hm⟩ : ∃ m, m = i / 2 := ⟨_, rfl⟩
              rw [← hm] at hd8 hdc ⊢
              have hm2 : 2 * m ≤ i ∧ i < 2 * m + 2 := by omega
              have htd : (i : Int).tdiv 2 = (m : Int) := by rw [Int.tdiv_eq_ediv_of_nonneg (by omega)]; omega
              have hed : (i : Int) / 2 = (m : Int) := by omega
              replace hm := hid hm
              replace htd := hid htd
              replace hed := hid hed
              go_wp2_with fail
              go_loopg [19] m (fun gg si wr => ∃ q : Nat, q ≤ m ∧ gg = m - q ∧ si = .int .i64 q ∧ Below w8.heap.size w8 wr)
              case atStart => exact ⟨0, by omega, rfl, rfl, Below.refl _ _⟩
              case round =>
                obtain ⟨q, hq, hgg, rfl, hb⟩ := hrel
                by_cases hql : q < m
                · have d3 : decide ((q : Int) < m) = true := decide_eq_true (by omega)
                  obtain ⟨-, -, -, hgd⟩ := (hd8.out.below hb).get
                  obtain ⟨dg, do_, rfl, -, dl, dk⟩ := hgd q (by rw [hol.out, ← hm.out]; exact hql)
                  obtain ⟨-, -, -, hgk⟩ := (hk8.out.below hb).get
                  obtain ⟨Q, hQ⟩ : ∃ Q, Q = 2 * q + 1 := ⟨_, rfl⟩
                  have hQi : Q < i := by omega
                  obtain ⟨kg, ko, rfl, -, kl, ck⟩ := hgk Q (by rw [hkl.out]; exact hQi)
                  have hQl : Q < l.length := by rw [hln.out]; exact hQi
                  have hog := odds_get l q
                  rw [← hQ, List.getElem?_eq_getElem hQl, List.getElem?_eq_getElem (by rw [odds_len, hln.out, ← hm.out]; exact hql)] at hog
                  simp only [Option.some.injEq] at hog
                  simp only [keysE, List.getElem_map] at ck dk
                  rw [hog] at dk
                  generalize l[Q].k = kk at ck dk
                  have eQ : 2 * (q : Int) + 1 = (Q : Int) := by omega
                  have q0 : (0 : Int) ≤ q ∧ (q : Int) ≤ 15 := by omega
                  have d4 : decide ((i : Int) ≤ (Q : Int)) = false := decide_eq_false (by omega)
                  have dk2 : (kk != kk) = false := by simp
                  have Q0 : (0 : Int) ≤ (Q : Int) ∧ (Q : Int) < i := by omega
                  replace hQ := hid hQ
                  replace hQl := hid hQl
                  replace hb := hid hb
                  clear hgd hgk hog
                  go_upto_region 35 with fail
                  go_quiet (fail)
                  go_wp2
                  go_roundg (m - (q + 1))
                  case rel => exact ⟨q + 1, by omega, rfl, by go_num, ⟨hb.out.os, hb.out.tape, hb.out.output, hb.out.size, hb.out.block⟩⟩
                  case measure => omega
                · obtain rfl : q = m := by omega
                  have d3 : decide ((q : Int) < q) = false := decide_eq_false (by omega)
                  have hG9 := hid (WhM.below hG8.out hb)
                  have hW9 := hid (hW8.out.next hb)
                  have deq : ((q : Int) == (i : Int) / 2) = true := by rw [hed.out]; simp
                  clear hb
                  go_wp2_with (first | (go_at_call 12; (with_reducible refine (len_l hG9.out).mono ?_); rw [List.length_nil]; rintro e w' ⟨rfl, rfl⟩))
                  all_goals first | (exact absurd hed.out.symm (by assumption)) | skip
                  go_ret
                  exact ⟨rfl, hW9.out.below⟩
end Go.Proofs.Ytallemgagloagaa.Wh
