/- DERIVED. Walks over lanes: Take, Sweep, Flush. No statement is proved here. -/
import Derived.Test.YtggfallodkbgcaaLaneF
namespace Go.Proofs.Ytggfallodkbgcaa.La
set_option linter.unusedVariables false
set_option linter.unusedSimpArgs false
open Go.RowKit Go.Proofs.Ytggfallodkbgcaa.K Go.Proofs.Ytggfallodkbgcaa.Sp Go.Proofs.Ytggfallodkbgcaa.Lb Go.Proofs.Ytggfallodkbgcaa.So
section
variable {w w' : World} {M : Nat → Prop} {lb : Nat} {ln pl : Int} {ms : List Msg}
theorem LanesM.mono {M' : Nat → Prop} (h : LanesM w M lb ln pl ms) (hM : ∀ b, M b → M' b) (hlt : ∀ b, M' b → b < w.heap.size) : LanesM w M' lb ln pl ms := by
  obtain ⟨lv, ps, he, h⟩ := h; exact ⟨lv, ps, he, h.mono hM hlt⟩
/-- What Sweep and Flush leave: those that were taken, in a row of their own; the others. -/
def OutPost (w : World) (M : Nat → Prop) (lb : Nat) (ln pl : Int) (out rest : List Msg) (e : Ending) (w' : World) : Prop :=
  ∃ v qs, e = .returned v ∧ qs.map Prod.snd = out ∧ w'.ownsRow w.heap.size 37 5 v qs.length (flat encM qs) ∧ WordsIn M w' qs ∧ LanesM w' (fun b => grow M w w' b ∧ v.ownBlock ≠ some b) lb ln pl rest ∧ Chg M w w'
theorem SplitPost.out {W : World} {N : Nat → Prop} {f : Nat → Msg → Bool} {e : Ending} (hb : Below w.heap.size w W) (hMlt : ∀ b, M b → b < w.heap.size) (hN : ∀ b, N b → w.heap.size ≤ b) (h : SplitPost W M N lb ln pl f ms e w') : OutPost w M lb ln pl (selF f 0 (sortM ms)) (selF (fun k m => !f k m) 0 (sortM ms)) e w' := by
  obtain ⟨v, qs, he, hq, ho, hw, hL, hC⟩ := h
  refine ⟨v, qs, he, hq, own_mono ho hb.size, hw, hL.mono (fun b hb' => ⟨?_, hb'.2⟩) (fun b hb' => ?_), (Chg.of_below hb).trans hC (fun i hi => ?_)⟩
  · rcases hb'.1 with h | h
    · exact .inl h
    · exact .inr ⟨Nat.le_trans hb.size h.1, h.2⟩
  · rcases hb'.1 with h | h
    · exact Nat.lt_of_lt_of_le (hMlt b h) (Nat.le_trans hb.size hC.size)
    · exact h.2
  · rcases hi with hi | hi
    · exact .inl hi
    · exact .inr (hN i hi)
theorem sweep_nil (w : World) (now : Int) : Calls Try.prog 57 #[.pointer none, .int .i64 now] w fun e w' => e = .returned (.slice none 0 0) ∧ Below w.heap.size w w' := by
  go_enter Try.func57, Try.ntmps57
  go_wp2_with (first | (go_at_call 70; (with_reducible refine (split_nil _ _).mono ?_); rintro e w1 ⟨rfl, rfl⟩))
  go_ret
  exact ⟨rfl, (Below.refl _ _).alloc (Nat.le_refl _) _⟩
theorem selSweep1 (now : Int) (l : List Msg) : selF (sweepF now) 0 l = l.filter (fun m => lateT now m.late) := by
  unfold sweepF
  have h := selF_filter (fun m : Msg => lateT now m.late) 0 l
  exact h
theorem selSweep2 (now : Int) (l : List Msg) : selF (fun k m => !sweepF now k m) 0 l = l.filter (fun m => !lateT now m.late) := by
  unfold sweepF
  have h := selF_filter (fun m : Msg => !lateT now m.late) 0 l
  exact h
set_option maxHeartbeats 1000000 in
theorem sweep_c (h : LanesM w M lb ln pl ms) (now : Int) : Calls Try.prog 57 #[.pointer (some ⟨lb, 0, none⟩), .int .i64 now] w (OutPost w M lb ln pl ((sortM ms).filter (fun m => lateT now m.late)) ((sortM ms).filter (fun m => !lateT now m.late))) := by
  have hMlt := h.lt
  have hbA := (Below.refl w.heap.size w).alloc (Nat.le_refl _) (.cells #[.int .i64 now] 3)
  have hkA := pts.newA w #[.int .i64 now] 3
  have hk0 := hkA.cell 0
  simp only [List.getElem?_cons_zero] at hk0
  have hsp := splitSweep_c (nb := w.heap.size) (now := now) (h.below hbA) (fun b hb hm => by have := hMlt b hm; omega) (fun b hb => by simp; omega) hk0 (fun {w1 w2 k} h1 h2 h3 => clKeepS (B := w.heap.size + 1) (by omega) h1 (fun b hb => h2 b (by simp; omega)) h3)
    (fun w1 k a n c m h1 _ => (sweep1_c h1 a n c m).mono fun e w2 ⟨he, hb⟩ => ⟨he, clKeepS (k := k) (B := w.heap.size + 1) (by omega) h1 (fun b hb2 => hb.block b (by have := cell_blk h1; omega)) hb.size, Chg.of_below hb⟩) (fun b hm => by have := hMlt b hm; simp; omega)
  have e1 := selSweep1 now (sortM ms)
  have e2 := selSweep2 now (sortM ms)
  have hNge : ∀ b, (fun b => b = w.heap.size) b → w.heap.size ≤ b := fun b hb => Nat.le_of_eq (Eq.symm hb)
  have hfin : Calls Try.prog 70 #[.pointer (some ⟨lb, 0, none⟩), .func (.func 71) #[] #[.pointer (some ⟨w.heap.size, 0, none⟩)]] (w.alloc (.cells #[.int .i64 now] 3)) (OutPost w M lb ln pl ((sortM ms).filter (fun m => lateT now m.late)) ((sortM ms).filter (fun m => !lateT now m.late))) :=
    hsp.mono (fun e w' h => by rw [← e1, ← e2]; exact SplitPost.out hbA hMlt hNge h)
  replace hfin := hid hfin
  replace h := hid h
  clear hk0 hkA e1 e2 hsp
  go_enter Try.func57, Try.ntmps57
  go_wp2_with (first | (go_at_call 70; (with_reducible refine (hfin.out).mono ?_); rintro e w1 ⟨v, qs, rfl, hq, ho, hw, hL, hC⟩; obtain ⟨a1, c1, rfl⟩ := own_shape ho; replace hL := hid hL; replace ho := hid ho; replace hC := hid hC; replace hw := hid hw; replace hq := hid hq))
  go_ret
  exact ⟨_, qs, rfl, hq.out, ho.out, hw.out, hL.out, hC.out⟩
theorem take_nilR (w : World) : Calls Try.prog 58 #[.pointer none] w fun e w' => e = .returned (.tuple #[.agg #[.slice none 0 0, .int .i64 0, .int .i64 0, .int .i64 0, .int .i64 0], .bool false]) ∧ Below w.heap.size w w' := by
  have hb1 := (Below.refl w.heap.size w).alloc (Nat.le_refl _) (.cells #[.slice none 0 0, .int .i64 0, .int .i64 0, .int .i64 0, .int .i64 0] 37)
  go_enter Try.func58, Try.ntmps58
  go_wp2_with (first | (go_at_call 70; (with_reducible refine (split_nil _ _).mono ?_); rintro e w1 ⟨rfl, rfl⟩))
  refine bodyPost_ret (v := .tuple #[.agg #[.slice none 0 0, .int .i64 0, .int .i64 0, .int .i64 0, .int .i64 0], .bool false]) (by simp [results, Try.results58, go_sem]) rfl ⟨rfl, ?_⟩
  exact hb1.alloc (by simp) _
/-- Take's split. -/
theorem takeSplit (h : LanesM w M lb ln pl ms) {o1 : Obj} : ∀ W, W = (w.alloc o1).alloc (.cells #[.int .i64 0] 3) → Calls Try.prog 70 #[.pointer (some ⟨lb, 0, none⟩), .func (.func 72) #[] #[.pointer (some ⟨w.heap.size + 1, 0, none⟩)]] W (SplitPost W M (fun b => b = w.heap.size + 1) lb ln pl takeF ms) := by
  rintro W rfl
  have hMlt := h.lt
  have hbA := ((Below.refl w.heap.size w).alloc (Nat.le_refl _) o1).alloc (by simp) (.cells #[.int .i64 0] 3)
  have hkA := pts.newA (w.alloc o1) #[.int .i64 0] 3
  have hz : (w.alloc o1).heap.size = w.heap.size + 1 := by simp
  rw [hz] at hkA
  exact splitTake_c (nb := w.heap.size + 1) (h.below hbA) (fun b hb hm => by have := hMlt b hm; omega) (fun b hb => by simp; omega) (by simpa [TakeCl] using hkA) (fun {w1 w2 k} h1 h2 h3 => clKeepT (B := w.heap.size + 2) (by omega) h1 (fun b hb => h2 b (by simp; omega)) h3)
    (fun w1 k a n c m h1 hk => take1_c h1 hk a n c m) (fun b hm => by have := hMlt b hm; simp; omega)
/-- Behind split, and the result's cells written. -/
theorem takeEnd (hMlt : ∀ b, M b → b < w.heap.size) {o1 o2 : Obj} {w1 : World} {v : Value} {qs : List (Value × Msg)} {rest : List Msg} (ho : w1.ownsRow ((w.alloc o1).alloc o2).heap.size 37 5 v qs.length (flat encM qs)) (hL : LanesM w1 (fun b => grow M ((w.alloc o1).alloc o2) w1 b ∧ v.ownBlock ≠ some b) lb ln pl rest) (hC : Chg (fun b => M b ∨ b = w.heap.size + 1) ((w.alloc o1).alloc o2) w1) (p : Value × Msg) :
    LanesM (put5 w1 w.heap.size 0 p) (grow M w (put5 w1 w.heap.size 0 p)) lb ln pl rest ∧ Chg M w (put5 w1 w.heap.size 0 p) := by
  have hz : ((w.alloc o1).alloc o2).heap.size = w.heap.size + 2 := by simp
  have hsz := hC.size
  constructor
  · refine (hL.kept (w' := put5 w1 w.heap.size 0 p) (by rw [put5_size]; exact Nat.le_refl _) (fun b hb hlt => put5_other _ _ (fun e => ?_))).mono (fun b hb => ?_) (fun b hb => ?_)
    · subst e
      rcases hb.1 with h | h
      · have := hMlt _ h; omega
      · omega
    · rcases hb.1 with h | h
      · exact .inl h
      · exact .inr ⟨by omega, by rw [put5_size]; exact h.2⟩
    · rw [put5_size]
      rcases hb with h | h
      · have := hMlt _ h; omega
      · rw [put5_size] at h; exact h.2
  · have hb : Below w.heap.size w ((w.alloc o1).alloc o2) := ((Below.refl w.heap.size w).alloc (Nat.le_refl _) o1).alloc (by simp) o2
    have h1 : Chg M w w1 := (Chg.of_below hb).trans hC (fun i hi => by rcases hi with hi | hi; exact .inl hi; exact .inr (by omega))
    exact ((((h1.setN (Nat.le_refl _)).setN (Nat.le_refl _)).setN (Nat.le_refl _)).setN (Nat.le_refl _)).setN (Nat.le_refl _)
set_option maxHeartbeats 1000000 in
theorem take_none (h : LanesM w M lb ln pl []) : Calls Try.prog 58 #[.pointer (some ⟨lb, 0, none⟩)] w fun e w' => e = .returned (.tuple #[.agg #[.slice none 0 0, .int .i64 0, .int .i64 0, .int .i64 0, .int .i64 0], .bool false]) ∧ LanesM w' (grow M w w') lb ln pl [] ∧ Chg M w w' := by
  have hsp := takeSplit h (o1 := .cells #[.slice none 0 0, .int .i64 0, .int .i64 0, .int .i64 0, .int .i64 0] 37) _ rfl
  have hz1 := (pts.newA w #[.slice none 0 0, .int .i64 0, .int .i64 0, .int .i64 0, .int .i64 0] 37).alloc (.cells #[.int .i64 0] 3)
  have hMlt := hid h.lt
  replace hsp := hid hsp
  replace hz1 := hid hz1
  replace h := hid h
  go_enter Try.func58, Try.ntmps58
  go_wp2_with (first | (go_at_call 70; (with_reducible refine (hsp.out).mono ?_); rintro e w1 ⟨v, qs, rfl, hq, ho, hw, hL, hC⟩; have hqs : qs = [] := (List.map_eq_nil_iff.1 hq); subst hqs; obtain ⟨a1, c1, rfl⟩ := own_shape ho; have hE := hid (takeEnd hMlt.out ho hL hC (.slice none 0 0, ⟨[], 0, 0, 0, 0⟩)); have hz2 := hz1.out.chg hC (fun hm => by rcases hm with hm | hm; exact (by have := hMlt.out _ hm; omega); exact (by omega)); have y0 := hz2.cell 0; have y1 := hz2.cell 1; have y2 := hz2.cell 2; have y3 := hz2.cell 3; have y4 := hz2.cell 4; have yl := hz2.lt; have fz := fun o => hz2.frozen o; simp only [List.getElem?_cons_zero, List.getElem?_cons_succ] at y0 y1 y2 y3 y4; clear hw hq hz2 hL hC ho))
  refine bodyPost_ret (v := .tuple #[.agg #[.slice none 0 0, .int .i64 0, .int .i64 0, .int .i64 0, .int .i64 0], .bool false]) (by simp [results, Try.results58, go_sem, y0, y1, y2, y3, y4, yl]) rfl ⟨rfl, hE.out.1, hE.out.2⟩
set_option maxHeartbeats 1000000 in
theorem take_some (h : LanesM w M lb ln pl ms) {m : Msg} {r : List Msg} (he : sortM ms = m :: r) : Calls Try.prog 58 #[.pointer (some ⟨lb, 0, none⟩)] w fun e w' => HandPost w (fun _ b => M b) m e w' ∧ LanesM w' (grow M w w') lb ln pl r ∧ Chg M w w' := by
  have hsp := takeSplit h (o1 := .cells #[.slice none 0 0, .int .i64 0, .int .i64 0, .int .i64 0, .int .i64 0] 37) _ rfl
  have hz1 := (pts.newA w #[.slice none 0 0, .int .i64 0, .int .i64 0, .int .i64 0, .int .i64 0] 37).alloc (.cells #[.int .i64 0] 3)
  have hMlt := hid h.lt
  have e1 := hid (show selF takeF 0 (sortM ms) = [m] by rw [he]; exact (show m :: selF takeF 1 r = [m] from by rw [selF_none (fun i hi p => by simp [takeF]; omega)]))
  have e2 := hid (show selF (fun k m => !takeF k m) 0 (sortM ms) = r by rw [he]; exact (show selF (fun k m => !takeF k m) 1 r = r from selF_all (fun i hi p => by simp [takeF]; omega)))
  replace hsp := hid hsp
  replace hz1 := hid hz1
  replace h := hid h
  replace he := hid he
  go_enter Try.func58, Try.ntmps58
  go_wp2_with (first | (go_at_call 70; (with_reducible refine (hsp.out).mono ?_); rintro e w1 ⟨v, qs, rfl, hq, ho, hw, hL, hC⟩; rw [e1.out] at hq; rw [e2.out] at hL; obtain ⟨p, rfl, hpm⟩ : ∃ p, qs = [p] ∧ p.2 = m := (by rcases qs with _ | ⟨p, _ | ⟨q, t⟩⟩; cases hq; exact ⟨p, rfl, by simpa using hq⟩; simp at hq); have hms := MsgsAt.of_own ho hw; obtain ⟨a1, c1, rfl⟩ := own_shape ho; obtain ⟨g, o, a, c, rfl, hgm, hpe, hat, hiw⟩ := hms.at5 (i := 0) (by simp); simp only [List.getElem_cons_zero, Nat.zero_mul, Nat.add_zero] at hat hiw hpe; rw [hpm] at hat hiw; obtain ⟨x0, x1, x2, x3, x4, hxl⟩ := hat; have hgne : g ≠ w.heap.size := (by simp at hgm; omega); have hgne2 := Ne.symm hgne; have hE := hid (takeEnd hMlt.out ho hL hC (.slice a m.words.length c, m)); have hz2 := hz1.out.chg hC (fun hm => by rcases hm with hm | hm; exact (by have := hMlt.out _ hm; omega); exact (by omega)); have y0 := hz2.cell 0; have y1 := hz2.cell 1; have y2 := hz2.cell 2; have y3 := hz2.cell 3; have y4 := hz2.cell 4; have yl := hz2.lt; have fz := fun o => hz2.frozen o; simp only [List.getElem?_cons_zero, List.getElem?_cons_succ] at y0 y1 y2 y3 y4; obtain ⟨-, hlc, -, -⟩ := hms.get; simp only [List.length_singleton] at hlc ⊢; replace hpe := hid hpe; replace hpm := hid hpm; replace hiw := hid hiw; clear hw hq hz2 hL hC ho hms))
  refine bodyPost_ret (v := .tuple #[.agg #[.slice a m.words.length c, .int .i64 m.lane, .int .i64 m.stamp, .int .i64 m.late, .int .i64 m.seq], .bool true]) (by simp [results, Try.results58, go_sem, y0, y1, y2, y3, y4, yl]) rfl ⟨⟨a, c, rfl, ?_⟩, hE.out.1, hE.out.2⟩
  exact put5_ints (o := 0) (p := (.slice a m.words.length c, m)) hiw.out (fun b h1 h2 e => by have := hMlt.out b h1; omega)
end
end Go.Proofs.Ytggfallodkbgcaa.La
