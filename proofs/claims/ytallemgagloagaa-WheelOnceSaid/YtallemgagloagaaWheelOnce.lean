/- DERIVED. The walk over the statement WheelOnce: what is set once is told once, at the first Due that is no earlier than its tick, in the row of ticks, and of one as they were set. -/
import Derived.Test.YtallemgagloagaaWheelH
import Derived.Test.YtallemgagloagaaWheelOnceP
namespace Go.Proofs.Ytallemgagloagaa.Wh
set_option linter.unusedVariables false
set_option linter.unusedSimpArgs false
open Go.RowKit Go.Proofs.Ytallemgagloagaa.K Go.Proofs.Ytallemgagloagaa.Lb
theorem infoBool : (Try.prog.info? 4).map (fun i => (i.zero, i.size, i.bytes)) = some (some (.bool false), 1, 1) := by kernel_rfl
theorem mkBools (w : World) {n : Nat} (hn : n ≤ 30) : (Instr.makeSlice 28 (.int .i64 n) (.int .i64 n)).run Try.prog w = .ok (.slice (some ⟨w.heap.size, 0, none⟩) n n) (w.alloc (.cells (madeCells #[.bool false] n) 4)) := by
  obtain ⟨i, hi, h0, h1, h2⟩ := info_parts infoBool
  have h := run_makeSlice (P := Try.prog) (w := w) 28 4 i (.bool false) Try.underlying28 hi h0 .i64 .i64 n n (by omega) (Int.le_refl _) (by rw [h1]; simp; omega) (by rw [h2]; omega) (by omega)
  rw [h1] at h
  simpa [Value.cells] using h
set_option maxHeartbeats 4000000 in
set_option maxRecDepth 100000 in
theorem wonce_c {w : World} {v v2 : Value} {xs ys : List Int} (hx : IntsAt (fun _ => True) w v xs) (hy : IntsAt (fun _ => True) w v2 ys) : Calls Try.prog 3 #[v, v2] w (LivesW w) := by
  obtain ⟨xa, xc, rfl⟩ := hx.shape
  obtain ⟨ya, yc, rfl⟩ := hy.shape
  have hxl := hx.get.2.1
  have hxm := hx.get.2.2.1
  have hyl := hy.get.2.1
  have hym := hy.get.2.2.1
  have hmin := minTwo
  have hx0 := hid (hx.mono (ok' := fun b => b < w.heap.size) (fun b _ h => h))
  have hy0 := hid (hy.mono (ok' := fun b => b < w.heap.size) (fun b _ h => h))
  clear hx hy
  obtain ⟨n, hn⟩ : ∃ n, n = min xs.length 30 := ⟨_, rfl⟩
  have hn30 : n ≤ 30 := by omega
  have hnx : n ≤ xs.length := by omega
  have hnm : min (xs.length : Int) 30 = (n : Int) := by omega
  replace hn := hid hn
  go_enter Try.func3, Try.ntmps3
  go_upto_region 5 with (first | (go_at_call 8; (with_reducible refine (lives_c _).mono ?_); rintro e w1 ⟨rfl, hb⟩; have hB1 := hid hb; clear hb) | (go_at_call 9; (with_reducible refine (new_l w1).mono ?_); rintro e w2 ⟨wb, rfl, hG, hb⟩; have hG2 := hid hG; have hW2 := hid (show Wd w.heap.size w w2 (fun b => w1.heap.size ≤ b ∧ b < w2.heap.size) from ⟨Below.next hB1.out hb hB1.out.size, fun b h => Nat.le_trans hB1.out.size h.1, fun b h => h.2, Nat.le_trans hB1.out.size hb.size⟩); clear hG hb; generalize (fun b => w1.heap.size ≤ b ∧ b < w2.heap.size) = M2 at hG2 hW2))
  replace hnm := hid hnm
  go_wp2_with fail
  go_loopg [7] n (fun gg si wr => ∃ (i : Nat) (l : List Ent) (M : Nat → Prop), i ≤ n ∧ gg = n - i ∧ si = .int .i64 i ∧ l.length = i ∧ OnceL xs i l ∧ (∀ j : Nat, j < i → hasE l (j : Int) = true) ∧ WhM wr M wb l i ∧ Wd w.heap.size w wr M)
  case atStart => exact ⟨0, [], M2, by omega, by omega, rfl, rfl, (fun e he => by cases he), (fun j hj => by omega), hG2.out, hW2.out⟩
  case round =>
    clear hG2 hW2
    obtain ⟨i, l, M, hi, hgg, rfl, hli, hO, hall, hG, hW⟩ := hrel
    replace hall := hid hall
    replace hli := hid hli
    replace hO := hid hO
    replace hG := hid hG
    replace hW := hid hW
    by_cases hlt : i < n
    · have d1 : decide ((i : Int) < n) = true := decide_eq_true (by omega)
      have hix : i < xs.length := by omega
      obtain ⟨-, -, -, hg⟩ := (hx0.out.kept hW.out.below.size (fun b h _ => hW.out.below.block b h)).get
      obtain ⟨xg, xo, rfl, -, xl, cx⟩ := hg i hix
      have eu := hid (uO_eq hix)
      have hnd := hid (show (keysE l).Nodup from let ⟨_, h⟩ := hG.out.rel; h.nd)
      have hst := hid (OnceL.set hO.out hnd.out hli.out)
      have hal := hid (show ∀ j : Nat, j < i + 1 → hasE (setE l i (uO xs i) ((i : Int) + 1)) (j : Int) = true by
        intro j hj
        rw [has_set]
        by_cases e : j = i
        · subst e; simp
        · rw [hall.out j (by omega)]; simp)
      have hcu := hid (show cutT (uO xs i) = uO xs i by have := uO_in xs i; unfold cutT; omega)
      have hki := hid (show isInt (i : Int) by unfold isInt; omega)
      have hsl := set_l hG.out (by omega) hki.out (uO xs i)
      rw [hcu.out] at hsl
      rw [← eu.out] at hsl
      replace hsl := hid hsl
      clear hg
      go_wp2_with (first | (go_at_call 10; (with_reducible refine (hsl.out).mono ?_); rw [eu.out]; rintro e w3 hp; obtain ⟨rfl, hG', hW'⟩ := WhM.wd hW.out hp; have hG3 := hid hG'; have hW3 := hid hW'; clear hG' hW' hp))
      go_roundg (n - (i + 1))
      case rel => exact ⟨i + 1, _, _, by omega, rfl, by go_num, hst.out.2, hst.out.1, hal.out, hG3.out, hW3.out⟩
      case measure => omega
    · obtain rfl : i = n := by omega
      have d1 : decide ((i : Int) < i) = false := decide_eq_false (by omega)
      have hmk := fun w => mkBools w hn30
      go_upto_block 2 with fail
      clear hmk d1
      have hcell : (madeCells #[.bool false] i).toList = seenB l i := by
        rw [toList_madeCells_one]
        apply List.ext_getElem?
        intro j
        by_cases hj : j < i
        · rw [seenB_get hj, hall.out j hj]; simp [hj]
        · rw [List.getElem?_eq_none (by simp; omega), List.getElem?_eq_none (by rw [seenB_len]; omega)]
      have hbb := (Below.refl wr.heap.size wr).alloc (Nat.le_refl _) (.cells (madeCells #[.bool false] i) 4)
      have hP := pts.newA wr (madeCells #[.bool false] i) 4
      rw [hcell] at hP
      replace hP := hid hP
      have hnb := hid (show ¬ M wr.heap.size from fun hm => Nat.lt_irrefl _ (hG.out.lt _ hm))
      have hsb := hid (show w.heap.size ≤ wr.heap.size from hW.out.le)
      have hG1 := hid (hG.out.below hbb)
      have hW1 := hid (hW.out.next hbb)
      clear hG hW hbb hcell hall
      generalize wr.alloc (.cells (madeCells #[.bool false] i) 4) = w5 at hP hG1 hW1 ⊢
      generalize wr.heap.size = sb at hP hnb hsb ⊢
      obtain ⟨mm, hmm⟩ : ∃ mm, mm = min ys.length 30 := ⟨_, rfl⟩
      have hm1 : mm ≤ ys.length := by omega
      have hm2 : mm ≤ 30 := by omega
      go_wp2_with fail
      go_loopg [11, 8, 12, 13, 14, 15, 16, 9] (mm + 1) (fun gg si s8 s12 s13 s14 s15 s16 s9 wr => ∃ (j : Nat) (now t : Int) (c : List Ent), j ≤ mm + 1 ∧ gg = mm + 1 - j ∧ si = .int .i64 j ∧ s8 = .int .i64 now ∧ s9 = .int .i64 t ∧ 0 ≤ t ∧ t + c.length = i ∧ (0 ≤ now ∧ now ≤ 500) ∧ (j ≤ mm → now ≤ 499) ∧ (0 < j → ∀ e ∈ c, now < e.u) ∧ (j = mm + 1 → c = []) ∧ OnceL xs i c ∧ WhM wr M wb c i ∧ Wd w.heap.size w wr M ∧ pts wr sb (seenB c i) 4)
      case atStart => exact ⟨0, 0, 0, l, by omega, by omega, rfl, rfl, rfl, by omega, by have := hli.out; omega, by omega, by omega, by omega, by omega, hO.out, hG1.out, hW1.out, hP.out⟩
      case round =>
        clear hG1 hW1 hP hO hli
        obtain ⟨j, now, t, c, hj, hgg, rfl, rfl, rfl, ht0, htc, hnow, hn499, hlt0, hend, hO, hG, hW, hP⟩ := hrel
        replace hlt0 := hid hlt0
        replace hend := hid hend
        replace hO := hid hO
        replace hG := hid hG
        replace hW := hid hW
        replace hP := hid hP
        by_cases hjm : j ≤ mm
        · have d1 : decide ((j : Int) ≤ ys.length) = true := decide_eq_true (by omega)
          have d2 : decide ((j : Int) ≤ 30) = true := decide_eq_true (by omega)
          go_upto_region 16 with fail
          go_cut [58] from 51 to 58 (fun v wx => v = .bool (decide (j < mm)) ∧ wr = wx)
          case first =>
            by_cases hjl : j < mm
            · have d3 : decide ((j : Int) < ys.length) = true := decide_eq_true (by omega)
              have d4 : decide ((j : Int) < 30) = true := decide_eq_true (by omega)
              have d5 := hid (decide_eq_true hjl)
              go_wp2
              go_meet
              case rel => exact ⟨by rw [d5.out], rfl⟩
            · have d5 := hid (decide_eq_false hjl)
              by_cases hjy : j < ys.length
              · have d3 : decide ((j : Int) < ys.length) = true := decide_eq_true (by omega)
                have d4 : decide ((j : Int) < 30) = false := decide_eq_false (by omega)
                go_wp2
                go_meet
                case rel => exact ⟨by rw [d5.out], rfl⟩
              · have d3 : decide ((j : Int) < ys.length) = false := decide_eq_false (by omega)
                go_wp2
                go_meet
                case rel => exact ⟨by rw [d5.out], rfl⟩
          case rest =>
            obtain ⟨rfl, rfl⟩ := hcut
            clear d1 d2
            go_upto_if 58 with fail
            go_cut [8] from 59 to 68 (fun v wx => ∃ now2 : Int, v = .int .i64 now2 ∧ (now ≤ now2 ∧ now2 ≤ 500 ∧ (j < mm → now2 ≤ 499) ∧ (j = mm → now2 = 500)) ∧ wr = wx)
            case first =>
              by_cases hjl : j < mm
              · have d5 : decide (j < mm) = true := decide_eq_true hjl
                obtain ⟨-, -, -, hg⟩ := (hy0.out.kept hW.out.below.size (fun b h _ => hW.out.below.block b h)).get
                obtain ⟨yg, yo, rfl, -, yl, cy⟩ := hg j (by omega)
                obtain ⟨d, hd0, hd1, ed⟩ := cut60 (x := ys[j]'(by omega))
                have hjy : (j : Int) < ys.length := by omega
                have hmv := hid (show now ≤ min (now + d) 499 ∧ min (now + d) 499 ≤ 500 ∧ (j < mm → min (now + d) 499 ≤ 499) ∧ (j = mm → min (now + d) 499 = 500) by omega)
                clear hg
                go_upto_region 17 with fail
                go_wp2
                go_meet
                case rel => exact ⟨min (now + d) 499, rfl, hmv.out, rfl⟩
              · have d5 : decide (j < mm) = false := decide_eq_false hjl
                go_wp2
                go_meet
                case rel => exact ⟨500, rfl, by omega, rfl⟩
            case rest =>
              obtain ⟨now2, rfl, hn2, rfl⟩ := hcut
              have hnd := hid (show (keysE c).Nodup from let ⟨_, h⟩ := hG.out.rel; h.nd)
              have hsr := hid (show c.Pairwise ltE from let ⟨_, h⟩ := hG.out.rel; h.srt)
              obtain ⟨O, hOe⟩ : ∃ O, c.filter (lateE now2) = O := ⟨_, rfl⟩
              obtain ⟨R, hRe⟩ : ∃ R, c.filter (fun e => !lateE now2 e) = R := ⟨_, rfl⟩
              have hpm := hid (show (O ++ R).Perm c by rw [← hOe, ← hRe]; exact split_perm _ c)
              have hlen : O.length + R.length = c.length := by have := hpm.out.length_eq; simpa using this
              have hOm : ∀ e ∈ O, e ∈ c ∧ e.u ≤ now2 := fun e he => by
                rw [← hOe] at he
                have := List.mem_filter.1 he
                exact ⟨this.1, (late_iff hO.out ⟨by omega, by omega⟩ this.1).1 this.2⟩
              have hRm : ∀ e ∈ R, e ∈ c ∧ now2 < e.u := fun e he => by
                rw [← hRe] at he
                have := List.mem_filter.1 he
                refine ⟨this.1, ?_⟩
                have h2 := late_iff hO.out ⟨by omega, by omega⟩ this.1 (now := now2)
                cases h3 : lateE now2 e with
                | true => rw [h3] at this; simp at this
                | false => rw [h3] at h2; simp at h2; omega
              have hOs := hid (show O.Pairwise ltE by rw [← hOe]; exact hsr.out.filter _)
              have hRn := hid (show j = mm → R = [] from fun h => by
                have h5 := hn2.2.2.2 h
                rw [← hRe, List.filter_eq_nil_iff]
                intro e he
                obtain ⟨q, hq, e1⟩ := hO.out e he
                have h6 := uO_in xs q
                have := (late_iff hO.out ⟨by omega, by omega⟩ he (now := now2)).2 (by rw [e1]; simp only; omega)
                simp [this])
              have hndR := hid (show (keysE (O ++ R)).Nodup from (hpm.out.map _).nodup_iff.2 hnd.out)
              have hPc := hid (show pts wr sb (seenB (O ++ R) i) 4 by rw [seenB_perm hpm.out]; exact hP.out)
              have hdue := hid (due_e hG.out (by omega) (by omega) (now := now2) (ks := keysE O) hOe hRe rfl)
              have hko : (keysE O).length = O.length := by unfold keysE; simp
              replace hOm := hid hOm
              replace hRm := hid hRm
              replace hOe := hid hOe
              replace hRe := hid hRe
              clear hP
              go_upto_block 4 with (first | (go_at_call 11; (with_reducible refine (hdue.out).mono ?_); rintro e w8 ⟨v8, rfl, hi8, hG8, hC8⟩; obtain ⟨da, dc, rfl⟩ := hi8.shape; rw [hko]; have hP8 := hid (hPc.out.chg hC8 hnb.out); have hd8 := hid (hi8.mono (ok' := fun b => b ≠ sb) (fun b hb _ e => by have := hPc.out.lt; omega)); replace hG8 := hid hG8; have hW8 := hid (Wd.chgSame hW.out hC8); clear hC8 hi8))
              rw [hko] at hd8
              replace hko := hid hko
              have hdc := hd8.out.get.2.1
              have hdm := hd8.out.get.2.2.1
              clear hdue hG hW hPc
              have hMs := hid (show ∀ b, M b → b ≠ sb from fun b hb e => hnb.out (e ▸ hb))
              go_wp2_with fail
              go_loopg [15, 14, 16, 9] O.length (fun gg sk sl su st wx => ∃ (k : Nat) (last : Int), k ≤ O.length ∧ gg = O.length - k ∧ sk = .int .i64 k ∧ sl = .int .i64 last ∧ st = .int .i64 (t + k) ∧ (k = 0 → last = -1) ∧ (∀ h : k - 1 < O.length, 0 < k → last = O[k - 1].u) ∧ pts wx sb (seenB (O.drop k ++ R) i) 4 ∧ Chg (fun b => b = sb) w8 wx)
              case atStart => exact ⟨0, -1, by omega, by omega, rfl, rfl, by simp, fun _ => rfl, fun _ h => absurd h (by omega), by simpa using hP8.out, Chg.refl _ _⟩
              case round =>
                clear hP8
                obtain ⟨k, last, hk, hgg, rfl, rfl, rfl, hl0, hlk, hP, hC⟩ := hrel
                replace hlk := hid hlk
                replace hP := hid hP
                replace hC := hid hC
                by_cases hkl : k < O.length
                · have d6 : decide ((k : Int) < O.length) = true := decide_eq_true (by omega)
                  have hke : O.drop k = O[k] :: O.drop (k + 1) := List.drop_eq_getElem_cons hkl
                  have hmem : O[k] ∈ O := List.getElem_mem hkl
                  obtain ⟨hec, heu⟩ := hOm.out _ hmem
                  obtain ⟨q, hq, heq⟩ := hO.out _ hec
                  have hPd := hP.out
                  rw [hke, List.cons_append] at hPd
                  have hnk : (keysE (O[k] :: (O.drop (k + 1) ++ R))).Nodup := by
                    have h1 := hndR.out
                    have h2 : O ++ R = O.take k ++ (O[k] :: (O.drop (k + 1) ++ R)) := by rw [← List.cons_append, ← hke, ← List.append_assoc, List.take_append_drop]
                    rw [h2] at h1; unfold keysE at h1 ⊢; rw [List.map_append] at h1; exact (List.nodup_append.1 h1).2.1
                  have hset := seenB_set hnk (show O[k].k = (q : Int) by rw [heq]) hq
                  have hsq : hasE (O[k] :: (O.drop (k + 1) ++ R)) (q : Int) = true := by rw [hasE_cons, heq]; simp
                  have hcq := hPd.cell q
                  rw [seenB_get hq, hsq] at hcq
                  simp only [Bool.not_true] at hcq
                  have hfq := hPd.frozen q
                  have hsl := hPd.lt
                  have hd9 := hid (hd8.out.chg hC.out (fun b hb _ hm => hb hm))
                  obtain ⟨-, -, -, hgd⟩ := hd9.out.get
                  obtain ⟨dg, do_, rfl, -, dl, dk⟩ := hgd k (by rw [hko.out]; exact hkl)
                  simp only [keysE, List.getElem_map] at dk
                  rw [heq] at dk
                  simp only at dk
                  have hxw := (hx0.out.kept (w' := wr) (Nat.le_trans hW8.out.below.size hC.out.size) (fun b h _ => (hC.out.block b (Nat.lt_of_lt_of_le h hW8.out.le) (by have := hsb.out; omega)).trans (hW8.out.below.block b h)))
                  have hqx : q < xs.length := by omega
                  obtain ⟨-, -, -, hgx⟩ := hxw.get
                  obtain ⟨xg, xo, rfl, -, xl, cx⟩ := hgx q hqx
                  have eu := hid (uO_eq hqx)
                  rw [heq] at heu
                  simp only at heu
                  have hwas := hid (fun (h : 0 < j) => show now < uO xs q by have := hlt0.out h _ hec; rw [heq] at this; exact this)
                  have hU := uO_in xs q
                  have hlast := hid (show last ≤ uO xs q by
                    rcases Nat.eq_zero_or_pos k with h | h
                    · rw [hl0 h]; omega
                    · obtain ⟨K, rfl⟩ : ∃ K, k = K + 1 := ⟨k - 1, by omega⟩
                      have h1 := (next_told (fun e he => hO.out e (hOm.out e he).1) hOs.out hkl).1
                      rw [hlk.out (by omega) (by omega)]
                      rw [heq] at h1
                      exact h1)
                  have hprev := hid (fun (h : uO xs q = last) => show ∃ (K : Nat) (q' : Int), k = K + 1 ∧ wr.cell? ⟨dg, do_ + K, none⟩ = some (.int .i64 q') ∧ ¬ ((q : Int) < q') by
                    rcases Nat.eq_zero_or_pos k with h2 | h2
                    · rw [hl0 h2] at h; omega
                    · obtain ⟨K, rfl⟩ : ∃ K, k = K + 1 := ⟨k - 1, by omega⟩
                      have h1 := (next_told (fun e he => hO.out e (hOm.out e he).1) hOs.out hkl).2
                      rw [heq] at h1
                      simp only at h1
                      have h3 := hlk.out (by omega) (by omega)
                      have h4 := h1 (by rw [h, h3]; rfl)
                      obtain ⟨dg', do', e', -, -, dk'⟩ := hgd K (by rw [hko.out]; omega)
                      cases e'
                      simp only [keysE, List.getElem_map] at dk'
                      exact ⟨K, _, rfl, dk', by omega⟩)
                  have dq0 : decide ((q : Int) < 0) = false := decide_eq_false (by omega)
                  have dq1 : decide ((i : Int) ≤ q) = false := decide_eq_false (by omega)
                  replace hPd := hid hPd
                  replace hset := hid hset
                  replace heq := hid heq
                  clear hgd hgx hnk hke hsq hmem hec
                  go_upto_region 26 with fail
                  rw [eu.out]
                  generalize hUe : uO xs q = U at hU heu hlast hprev hwas
                  replace hUe := hid hUe
                  replace eu := hid eu
                  clear dq0 dq1 d6 xl cx
                  go_cut [143] from 89 to 143 (fun v wx => v = .bool false ∧ pts wx sb (seenB (O[k] :: (O.drop (k + 1) ++ R)) i) 4 ∧ Chg (fun b => b = sb) w8 wx)
                  case first =>
                    have n1 : decide (now2 < U) = false := decide_eq_false (by omega)
                    have n2 : decide (U < last) = false := decide_eq_false (by have := hlast.out; omega)
                    by_cases hj0 : 0 < j
                    · have n3 : decide ((0 : Int) < (j : Int)) = true := decide_eq_true (by omega)
                      have n4 : decide (U ≤ now) = false := decide_eq_false (by have := hwas.out hj0; omega)
                      by_cases hul : U = last
                      · have n5 : (U == last) = true := by simpa using hul
                        obtain ⟨K, q', hkK, dk2, hqq⟩ := hprev.out hul
                        have n6 : decide ((q : Int) < q') = false := decide_eq_false hqq
                        have eK : (k : Int) - 1 = (K : Int) := by omega
                        have hKl : (K : Int) < O.length := by omega
                        replace hul := hid hul
                        replace hkK := hid hkK
                        go_quiet (fail)
                        go_wp2
                        go_meet
                        case rel => exact ⟨rfl, hPd.out, ⟨hC.out.os, hC.out.tape, hC.out.output, hC.out.size, hC.out.block⟩⟩
                      · have n5 : (U == last) = false := by simpa using hul
                        replace hul := hid hul
                        go_quiet (fail)
                        go_wp2
                        go_meet
                        case rel => exact ⟨rfl, hPd.out, ⟨hC.out.os, hC.out.tape, hC.out.output, hC.out.size, hC.out.block⟩⟩
                    · have n3 : decide ((0 : Int) < (j : Int)) = false := decide_eq_false (by omega)
                      by_cases hul : U = last
                      · have n5 : (U == last) = true := by simpa using hul
                        obtain ⟨K, q', hkK, dk2, hqq⟩ := hprev.out hul
                        have n6 : decide ((q : Int) < q') = false := decide_eq_false hqq
                        have eK : (k : Int) - 1 = (K : Int) := by omega
                        have hKl : (K : Int) < O.length := by omega
                        replace hul := hid hul
                        replace hkK := hid hkK
                        go_quiet (fail)
                        go_wp2
                        go_meet
                        case rel => exact ⟨rfl, hPd.out, ⟨hC.out.os, hC.out.tape, hC.out.output, hC.out.size, hC.out.block⟩⟩
                      · have n5 : (U == last) = false := by simpa using hul
                        replace hul := hid hul
                        go_quiet (fail)
                        go_wp2
                        go_meet
                        case rel => exact ⟨rfl, hPd.out, ⟨hC.out.os, hC.out.tape, hC.out.output, hC.out.size, hC.out.block⟩⟩
                  case rest =>
                    clear hP hPd hC
                    obtain ⟨rfl, hP, hC⟩ := hcut
                    replace hC := hid hC
                    have hsl2 := hP.lt
                    have hfq2 := hP.frozen q
                    have hcq2 := hP.cell q
                    rw [seenB_get hq] at hcq2
                    have hd10 := hid (hd8.out.chg hC.out (fun b hb _ hm => hb hm))
                    obtain ⟨-, -, -, hgd⟩ := hd10.out.get
                    obtain ⟨dg', do', e', -, dl2, dk2⟩ := hgd k (by rw [hko.out]; exact hkl)
                    cases e'
                    simp only [keysE, List.getElem_map] at dk2
                    rw [heq.out] at dk2
                    simp only at dk2
                    have hP2 := hid (show pts (wc.setCell ⟨sb, q, none⟩ (.bool true)) sb (seenB (O.drop (k + 1) ++ R) i) 4 by have := hP.set q (.bool true); rw [hset.out] at this; exact this)
                    have hC2 := hid (show Chg (fun b => b = sb) w8 (wc.setCell ⟨sb, q, none⟩ (.bool true)) from hC.out.setB rfl)
                    clear hgd hP
                    have hkU := hid (show ∀ h : k + 1 - 1 < O.length, 0 < k + 1 → U = O[k + 1 - 1].u from fun h _ => by
                      have e0 : O[k + 1 - 1] = O[k] := by simp
                      rw [e0, heq.out]; exact hUe.out.symm)
                    go_wp2_with fail
                    go_roundg (O.length - (k + 1))
                    case rel => exact ⟨k + 1, U, by omega, rfl, by go_num, rfl, by go_num, by omega, hkU.out, hP2.out, hC2.out⟩
                    case measure => omega
                · obtain rfl : k = O.length := by omega
                  have d6 : decide ((O.length : Int) < O.length) = false := decide_eq_false (by omega)
                  have hPR := hid (show pts wr sb (seenB R i) 4 by have := hP.out; simpa using this)
                  have hG9 := hid (hG8.out.chg hC.out (fun b hb => hMs.out b hb))
                  have hW9 := hid (show Wd w.heap.size w wr M from ⟨hW8.out.below.trans (hC.out.toBelow hW8.out.le (fun b e => e ▸ hsb.out)), hW8.out.ge, hG9.out.lt, Nat.le_trans hW8.out.le hC.out.size⟩)
                  have hOR := hid (show OnceL xs i R from fun e he => hO.out e (hRm.out e he).1)
                  have hRu := hid (show ∀ e ∈ R, now2 < e.u from fun e he => (hRm.out e he).2)
                  clear hP hC
                  go_wp2
                  go_roundg (mm + 1 - (j + 1))
                  case rel => exact ⟨j + 1, now2, t + O.length, R, by omega, rfl, by go_num, rfl, rfl, by omega, by omega, by omega, by omega, fun _ => hRu.out, fun h => hRn.out (by omega), hOR.out, hG9.out, hW9.out, hPR.out⟩
                  case measure => omega
        · have hje : j = mm + 1 := by omega
          have hc0 := hend.out hje
          subst hc0
          have hti : t = i := by simpa using htc
          subst hti
          by_cases hyy : ys.length < j
          · have d1 : decide ((j : Int) ≤ ys.length) = false := decide_eq_false (by omega)
            go_wp2_with (first | (go_at_call 12; (with_reducible refine (len_l hG.out).mono ?_); rw [List.length_nil]; rintro e w' ⟨rfl, rfl⟩))
            go_ret
            exact ⟨rfl, hW.out.below⟩
          · have d1 : decide ((j : Int) ≤ ys.length) = true := decide_eq_true (by omega)
            have d2 : decide ((j : Int) ≤ 30) = false := decide_eq_false (by omega)
            go_wp2_with (first | (go_at_call 12; (with_reducible refine (len_l hG.out).mono ?_); rw [List.length_nil]; rintro e w' ⟨rfl, rfl⟩))
            go_ret
            exact ⟨rfl, hW.out.below⟩
end Go.Proofs.Ytallemgagloagaa.Wh
