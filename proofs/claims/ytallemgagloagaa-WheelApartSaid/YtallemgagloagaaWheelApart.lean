/- DERIVED. The walk over the statement WheelApart: what is done with one key changes nothing of another one but its place behind it. -/
import Derived.Test.YtallemgagloagaaWheelH
namespace Go.Proofs.Ytallemgagloagaa.Wh
set_option linter.unusedVariables false
set_option linter.unusedSimpArgs false
open Go.RowKit Go.Proofs.Ytallemgagloagaa.K Go.Proofs.Ytallemgagloagaa.Lb
theorem until_ins {e : Ent} : ∀ {l : List Ent} {j : Int}, j ≠ e.k → untilE (insE e l) j = untilE l j
  | [], j, h => by
    unfold untilE insE
    have : (e.k == j) = false := beq_eq_false_iff_ne.2 (Ne.symm h)
    simp [this]
  | x :: t, j, h => by
    have hej : (e.k == j) = false := beq_eq_false_iff_ne.2 (Ne.symm h)
    unfold insE
    split
    · have ih := until_ins (l := t) h
      unfold untilE at ih ⊢
      rw [List.find?_cons, List.find?_cons]
      cases hx : (x.k == j) with
      | true => rfl
      | false => exact ih
    · unfold untilE
      rw [List.find?_cons, hej]
theorem until_rm {k j : Int} (h : j ≠ k) : ∀ l : List Ent, untilE (rmE k l) j = untilE l j
  | [] => rfl
  | x :: t => by
    have ih := until_rm h t
    unfold untilE rmE at *
    rw [List.filter_cons]
    cases hx : (x.k == k) with
    | true =>
      have : (x.k == j) = false := beq_eq_false_iff_ne.2 (fun e => h (by rw [← e]; simpa using hx))
      rw [List.find?_cons (a := x), this]
      simpa using ih
    | false =>
      simp only [Bool.not_false, if_true]
      rw [List.find?_cons, List.find?_cons]
      cases (x.k == j) with
      | true => rfl
      | false => exact ih
theorem until_set {l : List Ent} {k j u s : Int} (h : j ≠ k) : untilE (setE l k u s) j = untilE l j ∧ hasE (setE l k u s) j = hasE l j := by
  unfold setE
  have e1 : (k == j) = false := beq_eq_false_iff_ne.2 (Ne.symm h)
  have e2 : (j == k) = false := beq_eq_false_iff_ne.2 h
  exact ⟨by rw [until_ins (show j ≠ (⟨k, u, s⟩ : Ent).k from h), until_rm h], by rw [hasE_ins, hasE_rm]; simp [e1, e2]⟩
theorem has_rm {l : List Ent} {k j : Int} (h : j ≠ k) : hasE (rmE k l) j = hasE l j := by
  have e2 : (j == k) = false := beq_eq_false_iff_ne.2 h
  rw [hasE_rm, e2]; simp
theorem cutM {n : Int} : wrap64 ((IntKind.u64.wrap n).tmod 1000000) = (n % 18446744073709551616) % 1000000 := by
  rw [IntKind.wrap_u64, Int.tmod_eq_emod_of_nonneg (by omega)]; unfold wrap64; omega
theorem len_pos {l : List Ent} {k : Int} (h : hasE l k = true) : 1 ≤ l.length := by
  cases l with
  | nil => cases h
  | cons x t => simp
set_option maxHeartbeats 2000000 in
theorem wapart_c {w : World} {ao : Option Addr} {n0 c0 : Nat} {qs : List WSt} (hs0 : WStepsAt w (.slice ao n0 c0) qs) {key : Int} (hkey : isInt key) (until_ : Int) : Calls Try.prog 5 #[.slice ao n0 c0, .int .i64 key, .int .i64 until_] w (LivesW w) := by
  replace hs0 := hid hs0
  have eU := hid (cutM (n := until_))
  have hU := hid (show 0 ≤ (until_ % 18446744073709551616) % 1000000 ∧ (until_ % 18446744073709551616) % 1000000 < 1000000 by omega)
  generalize (until_ % 18446744073709551616) % 1000000 = U at eU hU
  have hcu := hid (show cutT U = U by have := hU.out; unfold cutT; omega)
  go_enter Try.func5, Try.ntmps5
  go_upto_region 5 with (first | (go_at_call 8; (with_reducible refine (lives_c _).mono ?_); rintro e w1 ⟨rfl, hb⟩; have hB1 := hid hb; clear hb) | (go_at_call 9; (with_reducible refine (new_l w1).mono ?_); rintro e w2 ⟨wb, rfl, hG, hb⟩; have hG2 := hid hG; have hW2 := hid (show Wd w.heap.size w w2 (fun b => w1.heap.size ≤ b ∧ b < w2.heap.size) from ⟨Below.next hB1.out hb hB1.out.size, fun b h => Nat.le_trans hB1.out.size h.1, fun b h => h.2, Nat.le_trans hB1.out.size hb.size⟩); clear hG hb; generalize (fun b => w1.heap.size ≤ b ∧ b < w2.heap.size) = M2 at hG2 hW2))
  rw [eU.out]
  go_upto_region 7 with (first | (go_at_call 10; (with_reducible refine (set_l hG2.out (show (0 : Int) < 1000000 by decide) hkey U).mono ?_); rintro e w3 hp; obtain ⟨rfl, hG, hW⟩ := WhM.wd hW2.out hp; have hG3 := hid hG; have hW3 := hid hW; clear hG hW hp; generalize grow M2 w2 w3 = M3 at hG3 hW3) | (go_at_call 16; (with_reducible refine (wearly_c (w0 := w) _ hs0.out).mono ?_); rintro e w' ⟨v', rfl, hv', rfl⟩; have hl80 := hid (show (qs.take 80).length ≤ 80 by simp; omega); generalize qs.take 80 = ys at hv' hl80; obtain ⟨a3, c3, rfl⟩ := hv'.shape; replace hv' := hid hv'))
  have hst := hid (show untilE (setE [] key (cutT U) (0 + 1)) key = U ∧ hasE (setE [] key (cutT U) (0 + 1)) key = true by rw [hcu.out]; unfold untilE hasE setE rmE insE; simp)
  generalize setE [] key (cutT U) (0 + 1) = l0 at hst hG3
  go_wp2
  go_loopg [8, 9, 10, 11] ys.length (fun gg si s9 s10 s11 wr => ∃ (i : Nat) (l : List Ent) (s : Int) (M : Nat → Prop), i ≤ ys.length ∧ gg = ys.length - i ∧ si = .int .i64 i ∧ s ≤ i + 1 ∧ untilE l key = U ∧ hasE l key = true ∧ WhM wr M wb l s ∧ Wd w.heap.size w wr M)
  case atStart => exact ⟨0, l0, 0 + 1, M3, by omega, rfl, rfl, by omega, hst.out.1, hst.out.2, hG3.out, hW3.out⟩
  case round =>
    clear hG3 hW3 hst
    obtain ⟨i, l, s, M, hi, hgg, rfl, hsi, hlu, hlh, hG, hW⟩ := hrel
    replace hlu := hid hlu
    replace hlh := hid hlh
    by_cases hlt : i < ys.length
    · obtain ⟨xg, xo, rfl, xl, hqi, c0, c1, c2⟩ := hv'.out.atC hW.below hlt
      have hi80 : i < 80 := Nat.lt_of_lt_of_le hlt hl80.out
      have d1 : decide ((i : Int) < ys.length) = true := decide_eq_true (by omega)
      generalize ys[i] = q at hqi c0 c1 c2
      replace hqi := hid hqi
      have hbb := (Below.refl wr.heap.size wr).alloc (Nat.le_refl _) (.cells #[.int .i64 q.k, .int .i64 q.key, .int .i64 q.n] 40)
      have hP := hid (pts.newA wr #[.int .i64 q.k, .int .i64 q.key, .int .i64 q.n] 40)
      have hG1 := hid (hG.below hbb)
      have hW1 := hid (hW.next hbb)
      have hnb := hid (show ¬ M wr.heap.size from fun hm => Nat.lt_irrefl _ (hG.lt wr.heap.size hm))
      clear hG hW hbb
      go_upto_region 11 with fail
      generalize wr.alloc (.cells #[.int .i64 q.k, .int .i64 q.key, .int .i64 q.n] 40) = w5 at hP hG1 hW1 ⊢
      obtain ⟨pb, hpb⟩ : ∃ pb, pb = wr.heap.size := ⟨_, rfl⟩
      rw [← hpb] at hP hnb ⊢
      replace hpb := hid hpb
      clear c0 c1 c2 xl d1
      have p0 := hP.out.cell 0
      have p1 := hP.out.cell 1
      have p2 := hP.out.cell 2
      have pl := hP.out.lt
      simp only [List.getElem?_cons_zero, List.getElem?_cons_succ] at p0 p1 p2
      by_cases hqk : q.key = key
      · have dk : (q.key == key) = true := by simpa using hqk
        replace hqk := hid hqk
        go_wp2
        go_roundg (ys.length - (i + 1))
        case rel => exact ⟨i + 1, l, s, M, by omega, rfl, by go_num, by omega, hlu.out, hlh.out, hG1.out, hW1.out⟩
        case measure => omega
      · have dk : (q.key == key) = false := by simpa using hqk
        replace hqk := hid (fun e => hqk (Eq.symm e) : key ≠ q.key)
        by_cases hk4 : kindW q.k = 4
        · have d4 : (kindW q.k == 4) = true := by simpa using hk4
          replace hk4 := hid hk4
          go_wp2_with (first | (go_at_call 17; (with_reducible refine (wkind_c _ q).mono ?_); rintro e w6 ⟨rfl, hb⟩; have hG6 := hid (hG1.out.below hb); have hW6 := hid (hW1.out.next hb); clear hb))
          go_roundg (ys.length - (i + 1))
          case rel => exact ⟨i + 1, l, s, M, by omega, rfl, by go_num, by omega, hlu.out, hlh.out, hG6.out, hW6.out⟩
          case measure => omega
        · have d4 : (kindW q.k == 4) = false := by simpa using hk4
          replace hk4 := hid hk4
          by_cases hk3 : kindW q.k < 3
          · have d3 : decide (kindW q.k < 3) = true := decide_eq_true hk3
            replace hk3 := hid hk3
            have hsu := hid (until_set (l := l) (u := cutT q.n) (s := s + 1) hqk.out)
            have hu2 := hid (show untilE (setE l q.key (cutT q.n) (s + 1)) key = U from hsu.out.1.trans hlu.out)
            have hh2 := hid (show hasE (setE l q.key (cutT q.n) (s + 1)) key = true from hsu.out.2.trans hlh.out)
            have dU : (U != U) = false := by simp
            go_wp2_with (first | (go_at_call 17; (with_reducible refine (wkind_c _ q).mono ?_); rintro e w6 ⟨rfl, hb⟩; have hG6 := hid (hG1.out.below hb); have hW6 := hid (hW1.out.next hb); have hP6 := hid (hP.out.below hb); have p0 := hP6.out.cell 0; have p1 := hP6.out.cell 1; have p2 := hP6.out.cell 2; have pl := hP6.out.lt; simp only [List.getElem?_cons_zero, List.getElem?_cons_succ] at p0 p1 p2; clear hb) | (go_at_call 17; (with_reducible refine (wkind_c _ q).mono ?_); rintro e w7 ⟨rfl, hb⟩; have hG7 := hid (hG6.out.below hb); have hW7 := hid (hW6.out.next hb); have hP7 := hid (hP6.out.below hb); have p0 := hP7.out.cell 0; have p1 := hP7.out.cell 1; have p2 := hP7.out.cell 2; have pl := hP7.out.lt; simp only [List.getElem?_cons_zero, List.getElem?_cons_succ] at p0 p1 p2; clear hb) | (go_at_call 10; (with_reducible refine (set_l hG7.out (by omega) hqi.out q.n).mono ?_); rintro e w8 hp; obtain ⟨rfl, hG, hW⟩ := WhM.wd hW7.out hp; have hG8 := hid hG; have hW8 := hid hW; clear hG hW hp) | (go_at_call 14; (with_reducible refine (until_l hG8.out hkey).mono ?_); rw [hu2.out, hh2.out]; rintro e w9 ⟨rfl, hb⟩; have hG9 := hid (hG8.out.below hb); have hW9 := hid (hW8.out.next hb); clear hb))
            go_roundg (ys.length - (i + 1))
            case rel => exact ⟨i + 1, _, _, _, by omega, rfl, by go_num, by omega, hu2.out, hh2.out, hG9.out, hW9.out⟩
            case measure => omega
          · have d3 : decide (kindW q.k < 3) = false := decide_eq_false hk3
            replace hk3 := hid hk3
            have hu2 := hid (show untilE (rmE q.key l) key = U from (until_rm hqk.out l).trans hlu.out)
            have hh2 := hid (show hasE (rmE q.key l) key = true from (has_rm hqk.out).trans hlh.out)
            have dU : (U != U) = false := by simp
            go_wp2_with (first | (go_at_call 17; (with_reducible refine (wkind_c _ q).mono ?_); rintro e w6 ⟨rfl, hb⟩; have hG6 := hid (hG1.out.below hb); have hW6 := hid (hW1.out.next hb); have hP6 := hid (hP.out.below hb); have p0 := hP6.out.cell 0; have p1 := hP6.out.cell 1; have p2 := hP6.out.cell 2; have pl := hP6.out.lt; simp only [List.getElem?_cons_zero, List.getElem?_cons_succ] at p0 p1 p2; clear hb) | (go_at_call 17; (with_reducible refine (wkind_c _ q).mono ?_); rintro e w7 ⟨rfl, hb⟩; have hG7 := hid (hG6.out.below hb); have hW7 := hid (hW6.out.next hb); have hP7 := hid (hP6.out.below hb); have p0 := hP7.out.cell 0; have p1 := hP7.out.cell 1; have p2 := hP7.out.cell 2; have pl := hP7.out.lt; simp only [List.getElem?_cons_zero, List.getElem?_cons_succ] at p0 p1 p2; clear hb) | (go_at_call 15; (with_reducible refine (cancel_l hG7.out hqi.out).mono ?_); rintro e w8 hp; obtain ⟨rfl, hG, hW⟩ := WhM.wd hW7.out hp; have hG8 := hid hG; have hW8 := hid hW; clear hG hW hp) | (go_at_call 14; (with_reducible refine (until_l hG8.out hkey).mono ?_); rw [hu2.out, hh2.out]; rintro e w9 ⟨rfl, hb⟩; have hG9 := hid (hG8.out.below hb); have hW9 := hid (hW8.out.next hb); clear hb))
            go_roundg (ys.length - (i + 1))
            case rel => exact ⟨i + 1, _, _, _, by omega, rfl, by go_num, by omega, hu2.out, hh2.out, hG9.out, hW9.out⟩
            case measure => omega
    · have d1 : decide ((i : Int) < ys.length) = false := decide_eq_false (by omega)
      have hlp := len_pos hlh.out
      have dl : decide ((1 : Int) ≤ l.length) = true := decide_eq_true (by omega)
      have hG1 := hid hG
      have hW1 := hid hW
      clear hG hW
      go_wp2_with (first | (go_at_call 12; (with_reducible refine (len_l hG1.out).mono ?_); rintro e w' ⟨rfl, rfl⟩) | (go_at_call 15; (with_reducible refine (cancel_l hG1.out hkey).mono ?_); rw [hlh.out]; rintro e w8 hp; obtain ⟨rfl, hG, hW⟩ := WhM.wd hW1.out hp; have hW8 := hid hW; clear hG hW hp))
      go_ret
      exact ⟨rfl, hW8.out.below⟩
end Go.Proofs.Ytallemgagloagaa.Wh
