/- DERIVED. The walk over the statement QueueTimes: who is told when. -/
import Derived.Test.YtnlmkllhmldgiaaQueueTimesP
namespace Go.Proofs.Ytnlmkllhmldgiaa.Qu
set_option linter.unusedVariables false
set_option linter.unusedSimpArgs false
open Go.RowKit Go.Maps Go.Proofs.Ytnlmkllhmldgiaa.K Go.Proofs.Ytnlmkllhmldgiaa.Lb Go.Proofs.Ytnlmkllhmldgiaa.Wh
theorem infoBool : (Try.prog.info? 4).map (fun i => (i.zero, i.size, i.bytes)) = some (some (.bool false), 1, 1) := by kernel_rfl
theorem mkBools (w : World) {n : Nat} (hn : n ≤ 30) : (Instr.makeSlice 32 (.int .i64 n) (.int .i64 n)).run Try.prog w = .ok (.slice (some ⟨w.heap.size, 0, none⟩) n n) (w.alloc (.cells (madeCells #[.bool false] n) 4)) := by
  obtain ⟨i, hi, h0, h1, h2⟩ := info_parts infoBool
  have h := run_makeSlice (P := Try.prog) (w := w) 32 4 i (.bool false) Try.underlying32 hi h0 .i64 .i64 n n (by omega) (Int.le_refl _) (by rw [h1]; simp; omega) (by rw [h2]; omega) (by omega)
  rw [h1] at h
  simpa [Value.cells] using h
set_option maxHeartbeats 4000000 in
set_option maxRecDepth 100000 in
theorem times_c {w : World} {v v2 : Value} {xs ys : List Int} (hx : IntsAt (fun _ => True) w v xs) (hy : IntsAt (fun _ => True) w v2 ys) : Calls Try.prog 3 #[v, v2] w (LivesPost w) := by
  obtain ⟨xa, xc, rfl⟩ := hx.shape
  obtain ⟨ya, yc, rfl⟩ := hy.shape
  have hxl := hx.get.2.1
  have hxm := hx.get.2.2.1
  have hyl := hy.get.2.1
  have hym := hy.get.2.2.1
  have hmin := minTwo
  have hx0 := hid (hx.mono (ok' := fun b => b < w.heap.size) (fun b _ h => h))
  have hy0 := hid (hy.mono (ok' := fun b => b < w.heap.size) (fun b _ h => h))
  clear hx hy
  obtain ⟨n, hn⟩ : ∃ n, n = min xs.length 30 := ⟨_, rfl⟩
  have hn30 : n ≤ 30 := by omega
  have hnx : n ≤ xs.length := by omega
  have hnm : min (xs.length : Int) 30 = (n : Int) := by omega
  replace hn := hid hn
  have h1 := hid (show holdT 1 = 1 from rfl)
  go_enter Try.func3, Try.ntmps3
  go_upto_region 5 with (first | (go_at_call 8; (with_reducible refine (lives_c _).mono ?_); rintro e w1 ⟨rfl, hb⟩; have hB1 := hid hb; clear hb) | (go_at_call 9; (with_reducible refine (new_x w1 1).mono ?_); rintro e w2 ⟨pb, M, rfl, hP, hM, hb⟩; have hW := hid (show Wd w.heap.size w w2 M from ⟨Below.next hB1.out hb hB1.out.size, fun b h => Nat.le_trans hB1.out.size (hM b h), fun b h => hP.lt b (.inl h), Nat.le_trans hB1.out.size hb.size⟩); have hP := hid hP; clear hM hb))
  replace hnm := hid hnm
  go_wp2_with fail
  go_loopg [7, 8, 9] n (fun gg si s8 s9 wr => ∃ (i : Nat) (p : Prt) (M W : Nat → Prop), i ≤ n ∧ gg = n - i ∧ si = .int .i64 i ∧ PortF wr M W pb p ∧ Wd w.heap.size w wr M ∧ TInv xs i 0 p ∧ p.s = i ∧ p.row.length = i ∧ ∀ k : Nat, k < i → (k : Int) ∈ p.row)
  case atStart => exact ⟨0, _, M, _, by omega, by omega, rfl, hP.out, hW.out, TInv.start xs, rfl, rfl, fun k hk => by omega⟩
  case round =>
    clear hP hW
    obtain ⟨i, p, M, W, hi, hgg, rfl, hP, hW, hT, hs, hrl, hall⟩ := hrel
    by_cases hlt : i < n
    · have d1 : decide ((i : Int) < n) = true := decide_eq_true (by omega)
      have hix : i < xs.length := by omega
      obtain ⟨-, -, -, hg⟩ := (hx0.out.kept hW.below.size (fun b h _ => hW.below.block b h)).get
      obtain ⟨xg, xo, rfl, -, xl, cx⟩ := hg i hix
      have eu := xQ_eq hix
      have hxq := xQ_in xs i
      have hki := hid (show isInt (i : Int) by unfold isInt; omega)
      obtain ⟨p', hap, hT', hrow, hs'⟩ := hT.ask hP.inv hs
      have hak := ask_x hP hki.out (uQ xs i) 0 (by omega) (by omega)
      rw [hap] at hak
      have hfin := hid (show p'.row.length = i + 1 ∧ ∀ k : Nat, k < i + 1 → (k : Int) ∈ p'.row by
        rw [hrow]
        refine ⟨by simp [hrl], fun k hk => ?_⟩
        by_cases e : k = i
        · subst e; simp
        · exact List.mem_append_left _ (hall k (by omega)))
      unfold uQ AskX at hak
      simp only [zeroP, List.length_nil] at hak
      replace hak := hid hak
      replace hT' := hid hT'
      replace hs' := hid hs'
      have hW := hid hW
      clear hg hP hall hrow hap hT
      go_wp2_with (first | (go_at_call 10; (with_reducible refine (hak.out).mono ?_); rintro e w3 ⟨a3, c3, rfl, -, hst⟩; have hst := hid hst))
      go_roundg (n - (i + 1))
      case rel =>
        obtain ⟨M', W', hP', hW', -, -, -⟩ := hst.out.next hW.out
        exact ⟨i + 1, p', M', W', by omega, rfl, by go_num, hP'.below ((Below.refl _ _).alloc (Nat.le_refl _) _), hW'.next ((Below.refl _ _).alloc (Nat.le_refl _) _), hT'.out, by rw [hs'.out]; push_cast; rfl, hfin.out.1, hfin.out.2⟩
      case measure => omega
    · obtain rfl : i = n := by omega
      have d1 : decide ((i : Int) < i) = false := decide_eq_false (by omega)
      have hmk := fun w => mkBools w hn30
      have hcell := hid (show (madeCells #[.bool false] i).toList = seenR i p.row by rw [toList_madeCells_one]; exact seenR_start hall)
      have hP := hid hP
      have hW := hid hW
      have hT := hid hT
      have hrl := hid hrl
      clear hall hs
      go_upto_block 2 with fail
      clear hmk d1
      have hbb := (Below.refl wr.heap.size wr).alloc (Nat.le_refl _) (.cells (madeCells #[.bool false] i) 4)
      have hS := pts.newA wr (madeCells #[.bool false] i) 4
      rw [hcell.out] at hS
      replace hS := hid hS
      have hnb := hid (show ¬ M wr.heap.size from fun hm => Nat.lt_irrefl _ (hW.out.lt _ hm))
      have hsb := hid (show w.heap.size ≤ wr.heap.size from hW.out.le)
      have hnw := hid (show ¬ W wr.heap.size from fun hm => Nat.lt_irrefl _ (hP.out.lt _ (.inr hm)))
      have hP1 := hid (hP.out.below hbb)
      have hW1 := hid (hW.out.next hbb)
      clear hP hW hbb hcell
      generalize wr.alloc (.cells (madeCells #[.bool false] i) 4) = w5 at hS hP1 hW1 ⊢
      generalize wr.heap.size = sb at hS hnb hsb hnw ⊢
      go_wp2_with fail
      go_loopg [13, 11, 12, 14, 15, 16, 17, 18, 19, 20, 21] ys.length (fun gg si s11 s12 s14 s15 s16 s17 s18 s19 s20 s21 wr => ∃ (j : Nat) (now t : Int) (p : Prt) (M W : Nat → Prop), j ≤ ys.length ∧ j ≤ 40 ∧ gg = ys.length - j ∧ si = .int .i64 j ∧ s11 = .int .i64 now ∧ s12 = .int .i64 t ∧ (0 ≤ now ∧ now ≤ 20 * j) ∧ (0 ≤ t ∧ t + p.row.length = i) ∧ TInv xs i now p ∧ PortF wr M W pb p ∧ Wd w.heap.size w wr M ∧ pts wr sb (seenR i p.row) 4 ∧ ¬ M sb ∧ ¬ W sb)
      case atStart => exact ⟨0, 0, 0, p, M, _, by omega, by omega, rfl, rfl, rfl, rfl, by omega, by have := hrl.out; omega, hT.out, hP1.out, hW1.out, hS.out, hnb.out, hnw.out⟩
      case round =>
        clear hP1 hW1 hS hT hrl hnb hnw
        obtain ⟨j, now, t, p, M, W, hj, hj40, hgg, rfl, rfl, rfl, hnow, ht, hT, hP, hW, hS, hnb, hnw⟩ := hrel
        by_cases hlt : j < ys.length
        · have d1 : decide ((j : Int) < ys.length) = true := decide_eq_true (by omega)
          by_cases hl4 : j < 40
          · have d2 : decide ((j : Int) < 40) = true := decide_eq_true (by omega)
            obtain ⟨-, -, -, hg⟩ := (hy0.out.kept hW.below.size (fun b h _ => hW.below.block b h)).get
            obtain ⟨yg, yo, rfl, -, yl, cy⟩ := hg j hlt
            clear hg
            obtain ⟨d, hd0, hd20, hdz⟩ := cut20 (x := ys[j])
            generalize ys[j] = z at cy hdz
            have hnd := hid hP.nodup
            have hI := hid hP.inv
            have hT := hid hT
            have hP := hid hP
            have hW := hid hW
            have hS := hid hS
            have hnb := hid hnb
            have hnw := hid hnw
            go_upto_if 66 with fail
            cases hz3 : (z.tmod 3 == 0) with
            | true =>
              clear hz3 hdz
              have hrl : p.row.length ≤ 17592186044416 := by omega
              cases hr : p.row with
              | cons x r =>
                obtain ⟨p', hput, hT', hrow', hask⟩ := hT.out.putRow hn30 hI.out hr ⟨[], 0, 0, 1000, 0⟩
                obtain ⟨q, hq, hxq⟩ := hT.out.row hI.out (x := x) (by rw [hr]; simp)
                have hlen := but_one hnd.out (x := x) (by rw [hr]; simp)
                rw [← hrow', hr] at hlen
                subst hxq
                have hseen : (seenR i p.row)[q]? = some (.bool false) := by rw [seenR_get hq, hr]; simp
                have hset : (seenR i p.row).set q (.bool true) = seenR i p'.row := by rw [hrow']; exact seenR_set hq
                have hT' := hid hT'
                have hput := hid hput
                have hask := hid hask
                have hseen := hid hseen
                have hset := hid hset
                have hlen := hid hlen
                have hs' := hid hT'.out.s
                have hwt := waiting_x hP.out hrl
                rw [hr] at hwt
                have hwt := hid hwt
                have hrl2 : r.length + 1 ≤ 30 := by have := hlen.out; rw [hr] at ht; simp only [List.length_cons] at ht; omega
                have ht := hid ht
                clear hrow'
                go_upto_region 20 with (first | (go_at_call 11; (with_reducible refine (hwt.out).mono ?_); rintro e w8 ⟨v, rfl, hv, hb⟩; obtain ⟨a8, c8, rfl⟩ := hv.shape; have hv8 := hid (hv.mono (ok' := fun b => b < w8.heap.size ∧ ¬ M b) (fun b hb hlt => ⟨hlt, fun hm => by have := hP.out.lt b (.inl hm); omega⟩)); have hP8 := hid (hP.out.below hb); have hW8 := hid (hW.out.next hb); have hS8 := hid (hS.out.below hb); clear hb hv) | (go_at_call 12; (with_reducible refine (put_m hP8.out hput.out).mono ?_); rintro e w9 ⟨rfl, hst⟩; obtain ⟨M9, W9, hP9, hW9, hn9, hc9, hw9⟩ := hst.next hW8.out; have hv9 := hid (hv8.out.chg hc9 (fun b hb _ => hb.2)); have hS9 := hid (hS8.out.chg hc9 hnb.out); have hm9 := hid (And.intro (hn9 sb hS8.out.lt hnb.out) (hw9 sb hS8.out.lt hnw.out)); have hP9 := hid hP9; have hW9 := hid hW9; have hn9 := hid hn9; have hz9 := hid hc9.size; clear hst hc9 hw9) | (go_at_call 10; (with_reducible refine (ask_m hP9.out hask.out (by have := hs'.out; omega) (by have := hlen.out; simp only [List.length_cons] at this; omega)).mono ?_); rintro e w10 ⟨⟨v10, rfl⟩, hst⟩; obtain ⟨M10, W10, hP10, hW10, hn10, hc10, hw10⟩ := hst.next hW9.out; have hv10 := hid (hv9.out.chg hc10 (fun b hb _ => hn9.out b hb.1 hb.2)); have hS10 := hid (hS9.out.chg hc10 hm9.out.1); have hm10 := hid (And.intro (hn10 sb hS9.out.lt hm9.out.1) (hw10 sb hS9.out.lt hm9.out.2)); have hP10 := hid hP10; have hW10 := hid hW10; clear hst hc10 hn10 hw10))
                obtain ⟨-, -, -, hgr⟩ := hv10.out.get
                obtain ⟨gr, or_, rfl, -, hgrl, cr⟩ := hgr 0 (by simp)
                simp only [Nat.add_zero, List.getElem_cons_zero] at cr
                clear hgr
                have cq := hS10.out.cell q
                rw [hseen.out] at cq
                have hfq := hS10.out.frozen q
                have hql := hS10.out.lt
                have hS11 := hid (show pts (w10.setCell ⟨sb, q, none⟩ (.bool true)) sb (seenR i p'.row) 4 by have := hS10.out.set q (.bool true); rw [hset.out] at this; exact this)
                have hC11 := hid (show Chg (fun b => b = sb) w10 (w10.setCell ⟨sb, q, none⟩ (.bool true)) from (Chg.refl _ _).setB rfl)
                have hqi : (q : Int) < (i : Int) := by omega
                have hr0 : (0 : Int) < (r.length : Int) + 1 := by omega
                go_wp2
                go_roundg (ys.length - (j + 1))
                case rel => exact ⟨j + 1, now, t + 1, p', M10, W10, by omega, by omega, rfl, by go_num, rfl, by go_num, by omega, by have h1 := ht.out; have h2 := hlen.out; rw [hr] at h1; omega, hT'.out, hP10.out.chg hC11.out (by rintro b rfl; exact hm10.out), hW10.out.chgIn hC11.out (by rintro b rfl; exact hsb.out), hS11.out, hm10.out.1, hm10.out.2⟩
                case measure => omega
              | nil =>
                obtain ⟨p', hput, hask⟩ := hT.out.putNil hr ⟨[], 0, 0, 1000, 0⟩
                have hput := hid hput
                have hask := hid hask
                have hwt := waiting_x hP.out hrl
                rw [hr] at hwt
                have hwt := hid hwt
                have hp's := hid (show p'.s ≤ 100 ∧ p'.row.length ≤ 100 by
                  have h := putP_of' p ⟨[], 0, 0, 1000, 0⟩
                  rw [hput.out] at h
                  have := hT.out.s
                  rw [hr] at h
                  simp only [List.length_nil] at h
                  omega)
                have hr' := hid hr
                have ht' := hid ht
                clear hr ht
                go_upto_region 20 with (first | (go_at_call 11; (with_reducible refine (hwt.out).mono ?_); rintro e w8 ⟨v, rfl, hv, hb⟩; obtain ⟨a8, c8, rfl⟩ := hv.shape; have hP8 := hid (hP.out.below hb); have hW8 := hid (hW.out.next hb); have hS8 := hid (hS.out.below hb); clear hb hv) | (go_at_call 12; (with_reducible refine (put_m hP8.out hput.out).mono ?_); rintro e w9 ⟨rfl, hst⟩; obtain ⟨M9, W9, hP9, hW9, hn9, hc9, hw9⟩ := hst.next hW8.out; have hS9 := hid (hS8.out.chg hc9 hnb.out); have hm9 := hid (And.intro (hn9 sb hS8.out.lt hnb.out) (hw9 sb hS8.out.lt hnw.out)); have hP9 := hid hP9; have hW9 := hid hW9; clear hst hc9 hw9 hn9) | (go_at_call 10; (with_reducible refine (ask_m hP9.out hask.out hp's.out.1 hp's.out.2).mono ?_); rintro e w10 ⟨⟨v10, rfl⟩, hst⟩; obtain ⟨M10, W10, hP10, hW10, hn10, hc10, hw10⟩ := hst.next hW9.out; have hS10 := hid (hS9.out.chg hc10 hm9.out.1); have hm10 := hid (And.intro (hn10 sb hS9.out.lt hm9.out.1) (hw10 sb hS9.out.lt hm9.out.2)); have hP10 := hid hP10; have hW10 := hid hW10; clear hst hc10 hn10 hw10))
                go_wp2
                go_roundg (ys.length - (j + 1))
                case rel => exact ⟨j + 1, now, t, p, M10, W10, by omega, by omega, rfl, by go_num, rfl, rfl, by omega, ht'.out, hT.out, hP10.out, hW10.out, hS10.out, hm10.out.1, hm10.out.2⟩
                case measure => omega
            | false =>
              clear hz3
              have hnw' : 0 ≤ now + d ∧ now + d ≤ 1000 := by omega
              have hex := hid (expire_x hP.out (now + d) (by have := hT.out.s; omega) (by omega))
              have hTe := hid (hT.out.exp hnw')
              have hkn : (keysE p.es).Nodup := hI.out.perm.nodup_iff.1 hnd.out
              have hel := hid (exp_len hI.out hkn (now + d))
              have hLn := hid (show (keysE (p.es.filter (lateE (now + d)))).Nodup from (List.filter_sublist.map _).nodup hkn)
              have hLr := hid (show ∀ x ∈ keysE (p.es.filter (lateE (now + d))), x ∈ p.row from fun x hx => hI.out.perm.mem_iff.2 ((List.filter_sublist.map _).subset hx))
              have hLt := hid (fun x hx => hT.out.told hnw' (x := x) hx)
              have hrow : (expP p (now + d)).row = (keysE (p.es.filter (lateE (now + d)))).foldl butT p.row := rfl
              unfold ExpX at hex
              generalize keysE (p.es.filter (lateE (now + d))) = L at hex hel hLn hLr hLt hrow
              generalize expP p (now + d) = p' at hex hTe hel hrow
              have hrow := hid hrow
              have ht := hid ht
              have hLl := hid (show L.length ≤ 30 by have := hel.out; have := ht.out; omega)
              have hdz' := hid hdz
              go_upto_block 4 with (first | (go_at_call 13; (with_reducible refine (hex.out).mono ?_); rintro e w8 ⟨v8, rfl, hv, hP', hc⟩; obtain ⟨a8, c8, rfl⟩ := hv.shape; have hv8 := hid (hv.mono (ok' := fun b => b ≠ sb) (fun b hb _ e => by have := hS.out.lt; omega)); have hS8 := hid (hS.out.chg hc hnb.out); have hP8 := hid hP'; have hW8 := hid (hW.out.turn hc (fun b hb => .inl hb) (fun b hb => hP'.lt b (.inl hb))); clear hv hP' hc))
              clear hdz
              have hx8 := hid ((hx0.out.kept hW8.out.below.size (fun b h _ => hW8.out.below.block b h)).mono (ok' := fun b => b ≠ sb) (fun b hb _ e => by have := hsb.out; omega))
              go_wp2_with fail
              go_loopg [20, 12, 21] L.length (fun gg sk st su wx => ∃ (k : Nat), k ≤ L.length ∧ gg = L.length - k ∧ sk = .int .i64 k ∧ st = .int .i64 (t + k) ∧ pts wx sb (seenR i ((L.take k).foldl butT p.row)) 4 ∧ Chg (fun b => b = sb) w8 wx)
              case atStart => exact ⟨0, by omega, by omega, rfl, by go_num, by simpa using hS8.out, Chg.refl _ _⟩
              case round =>
                obtain ⟨k, hk, hgk, rfl, rfl, hSk, hCk⟩ := hrel
                have hSk := hid hSk
                have hCk := hid hCk
                by_cases hkl : k < L.length
                · have dk : decide ((k : Int) < L.length) = true := decide_eq_true (by omega)
                  obtain ⟨q, hq, hLq, hu1, hu2⟩ := hLt.out _ (List.getElem_mem hkl)
                  have hin := told_in hLn.out hLr.out hkl
                  have htk := take_but (row := p.row) hkl
                  rw [hLq] at hin htk
                  have hcon : (seenR i ((L.take k).foldl butT p.row))[q]? = some (.bool false) := by rw [seenR_get hq, List.contains_iff_mem.2 hin]; rfl
                  have hset := seenR_set (row := (L.take k).foldl butT p.row) hq
                  rw [← htk] at hset
                  obtain ⟨-, -, -, hgd⟩ := (hv8.out.chg hCk.out (fun b hb _ e => hb e)).get
                  obtain ⟨dg, do_, rfl, -, dl, ck⟩ := hgd k hkl
                  rw [hLq] at ck
                  have hqx : q < xs.length := by omega
                  obtain ⟨-, -, -, hgx⟩ := (hx8.out.chg hCk.out (fun b hb _ e => hb e)).get
                  obtain ⟨xg', xo', rfl, -, xl', cx⟩ := hgx q hqx
                  have eu := xQ_eq hqx
                  have hxq := xQ_in xs q
                  have cq := hSk.out.cell q
                  rw [hcon] at cq
                  have hfq := hSk.out.frozen q
                  have hql := hSk.out.lt
                  have hS9 := hid (show pts (wr.setCell ⟨sb, q, none⟩ (.bool true)) sb (seenR i ((L.take (k + 1)).foldl butT p.row)) 4 by have := hSk.out.set q (.bool true); rw [hset] at this; exact this)
                  have hC9 := hid (show Chg (fun b => b = sb) w8 (wr.setCell ⟨sb, q, none⟩ (.bool true)) from hCk.out.setB rfl)
                  unfold uQ at hu1 hu2
                  have n1 : decide ((q : Int) < 0) = false := decide_eq_false (by omega)
                  have n2 : decide ((i : Int) ≤ (q : Int)) = false := decide_eq_false (by omega)
                  have n3 : decide (now + d < 1 + xQ xs q) = false := decide_eq_false (by omega)
                  have n4 : decide (1 + xQ xs q ≤ now) = false := decide_eq_false (by omega)
                  have hqi : (q : Int) < (i : Int) := by omega
                  have hqx' : (q : Int) < (xs.length : Int) := by omega
                  have hk30 : k ≤ 30 := by have := hLl.out; omega
                  have ht30 : t ≤ 30 := by have := ht.out; omega
                  have ht0 : 0 ≤ t := ht.out.1
                  clear hcon hset htk hin hLq hgd hgx
                  generalize xs[q] = xv at cx eu
                  go_wp2
                  go_roundg (L.length - (k + 1))
                  case rel => exact ⟨k + 1, by omega, rfl, by go_num, by go_num, hS9.out, hC9.out⟩
                  case measure => omega
                · obtain rfl : k = L.length := by omega
                  have dk : decide ((L.length : Int) < L.length) = false := decide_eq_false (by omega)
                  have hSe := hid (show pts wr sb (seenR i p'.row) 4 by have := hSk.out; rw [List.take_of_length_le (Nat.le_refl _), ← hrow.out] at this; exact this)
                  go_wp2
                  go_roundg (ys.length - (j + 1))
                  case rel => exact ⟨j + 1, now + d, t + L.length, p', M, W, by omega, by omega, rfl, by go_num, rfl, rfl, by push_cast; omega, by have h1 := ht.out; have h2 := hel.out; omega, hTe.out, hP8.out.chg hCk.out (by rintro b rfl; exact ⟨hnb.out, hnw.out⟩), hW8.out.chgIn hCk.out (by rintro b rfl; exact hsb.out), hSe.out, hnb.out, hnw.out⟩
                  case measure => omega
          · have d2 : decide ((j : Int) < 40) = false := decide_eq_false (by omega)
            have dd : (t + (p.row.length : Int) == (i : Int)) = true := by simp; omega
            have hB := hid hW.below
            have hrl : p.row.length ≤ 17592186044416 := by omega
            have hP := hid hP
            have hBl := hid hW.le
            go_wp2_with (first | (go_at_call 11; (with_reducible refine (waiting_x hP.out hrl).mono ?_); rintro e w8 ⟨v, rfl, hv, hb⟩; obtain ⟨a8, c8, rfl⟩ := hv.shape; have hb8 := hid hb; clear hv hb))
            go_ret
            exact ⟨rfl, Below.next hB.out hb8.out hBl.out⟩
        · have d1 : decide ((j : Int) < ys.length) = false := decide_eq_false (by omega)
          have dd : (t + (p.row.length : Int) == (i : Int)) = true := by simp; omega
          have hB := hid hW.below
          have hrl : p.row.length ≤ 17592186044416 := by omega
          have hP := hid hP
          have hBl := hid hW.le
          go_wp2_with (first | (go_at_call 11; (with_reducible refine (waiting_x hP.out hrl).mono ?_); rintro e w8 ⟨v, rfl, hv, hb⟩; obtain ⟨a8, c8, rfl⟩ := hv.shape; have hb8 := hid hb; clear hv hb))
          go_ret
          exact ⟨rfl, Below.next hB.out hb8.out hBl.out⟩
end Go.Proofs.Ytnlmkllhmldgiaa.Qu
