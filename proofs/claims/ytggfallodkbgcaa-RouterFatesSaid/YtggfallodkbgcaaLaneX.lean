/- DERIVED. Lanes told finely: which blocks may be written (M), and where the messages' words lie, that are never written (W): Sweep, Flush, Take, Put. No statement is proved here. -/
import Derived.Test.YtggfallodkbgcaaLaneP0
namespace Go.Proofs.Ytggfallodkbgcaa.La
set_option linter.unusedVariables false
set_option linter.unusedSimpArgs false
open Go.RowKit Go.Proofs.Ytggfallodkbgcaa.K Go.Proofs.Ytggfallodkbgcaa.Sp Go.Proofs.Ytggfallodkbgcaa.Lb Go.Proofs.Ytggfallodkbgcaa.So
/-- Lanes: M bounds what may be written, their messages' words lie in W, apart from M. -/
def LanesF (w : World) (M W : Nat → Prop) (lb : Nat) (ln pl : Int) (ms : List Msg) : Prop :=
  ∃ lv ps, ps.map Prod.snd = ms ∧ LanesAt w (fun b => M b ∨ W b) lb ln pl lv ps ∧ M lb ∧ (∀ b, lv.ownBlock = some b → M b) ∧ WordsIn W w ps ∧ ∀ b, M b → ¬ W b
section
variable {w w' : World} {M W : Nat → Prop} {lb : Nat} {ln pl : Int} {ms : List Msg}
theorem LanesF.toM (h : LanesF w M W lb ln pl ms) : LanesM w (fun b => M b ∨ W b) lb ln pl ms := let ⟨lv, ps, h1, h2, _⟩ := h; ⟨lv, ps, h1, h2⟩
theorem LanesF.lt (h : LanesF w M W lb ln pl ms) : ∀ b, M b ∨ W b → b < w.heap.size := h.toM.lt
theorem LanesF.inv (h : LanesF w M W lb ln pl ms) : LInv ln pl ms := h.toM.inv
theorem LanesF.ne (h : LanesF w M W lb ln pl ms) : ∀ b, M b → ¬ W b := let ⟨_, _, _, _, _, _, _, h⟩ := h; h
theorem LanesF.kept (h : LanesF w M W lb ln pl ms) (hs : w.heap.size ≤ w'.heap.size) (hk : ∀ b, M b ∨ W b → b < w.heap.size → w'.heap[b]? = w.heap[b]?) : LanesF w' M W lb ln pl ms := by
  obtain ⟨lv, ps, h1, h2, h3, h4, h5, h6⟩ := h
  exact ⟨lv, ps, h1, h2.kept hs hk, h3, h4, h5.kept hs (fun b hb hlt => hk b (.inr hb) hlt), h6⟩
theorem LanesF.below (h : LanesF w M W lb ln pl ms) (hb : Below w.heap.size w w') : LanesF w' M W lb ln pl ms := h.kept hb.size (fun b _ hlt => hb.block b hlt)
theorem LanesF.mono {M' W' : Nat → Prop} (h : LanesF w M W lb ln pl ms) (hM : ∀ b, M b → M' b) (hW : ∀ b, W b → W' b) (hd : ∀ b, M' b → ¬ W' b) (hlt : ∀ b, M' b ∨ W' b → b < w.heap.size) : LanesF w M' W' lb ln pl ms := by
  obtain ⟨lv, ps, h1, h2, h3, h4, h5, h6⟩ := h
  exact ⟨lv, ps, h1, h2.mono (fun b hb => hb.imp (hM b) (hW b)) hlt, hM _ h3, fun b e => hM b (h4 b e), h5.mono (fun b hb _ => hW b hb), hd⟩
/-- Lanes behind a change of what is not theirs. -/
theorem LanesF.chg {N : Nat → Prop} (h : LanesF w M W lb ln pl ms) (hc : Chg N w w') (hN : ∀ b, N b → ¬ M b ∧ ¬ W b) : LanesF w' M W lb ln pl ms :=
  h.kept hc.size (fun b hb hlt => hc.block b hlt (fun hn => hb.elim (hN b hn).1 (hN b hn).2))
theorem LanesF.split {N : Nat → Prop} {lv vr : Value} {ps rs : List (Value × Msg)} {base : Nat} (hl : LanesAt w (fun b => M b ∨ W b) lb ln pl lv ps) (hm : M lb) (hw : WordsIn W w ps) (hd : ∀ b, M b → ¬ W b) (hN : ∀ b, N b → w.heap.size ≤ b) (hC : Chg (fun b => b = lb ∨ N b) w w') (hp : pts w' lb [.int .i64 ln, .int .i64 pl, vr] 90) (hbs : w.heap.size ≤ base) (hr : w'.ownsRow base 37 5 vr rs.length (flat encM rs)) (hs : ∀ p ∈ rs, p ∈ ps) (hsub : List.Sublist (rs.map Prod.snd) (sortM (ps.map Prod.snd))) :
    LanesF w' (fun b => M b ∨ vr.ownBlock = some b) W lb ln pl (rs.map Prod.snd) ∧ ∀ qs : List (Value × Msg), (∀ p ∈ qs, p ∈ ps) → WordsIn W w' qs := by
  have hlt := hl.lt
  have hge : ∀ b, vr.ownBlock = some b → w.heap.size ≤ b := fun b e => Nat.le_trans hbs (own_block_ge hr b e)
  have hWq : ∀ qs : List (Value × Msg), (∀ p ∈ qs, p ∈ ps) → WordsIn W w' qs := fun qs hq => (hw.sub hq).kept hC.size (fun b hb hlt => hC.block b hlt (fun hn => hn.elim (fun e => hd lb hm (e ▸ hb)) (fun hn => by have := hN b hn; omega)))
  refine ⟨⟨vr, rs, rfl, ⟨hp, own_mono hr (Nat.zero_le _), (hWq rs hs).mono (fun b hb _ => ⟨.inr hb, fun e => hd lb hm (e ▸ hb), fun e => by have := hge b e; have := hlt b (.inr hb); omega⟩), .inl (.inl hm), fun b e => .inl (.inr e), fun b hb => ?_, hl.inv.sort.subl hsub⟩, .inl hm, fun b e => .inr e, hWq rs hs, fun b hb hWb => ?_⟩, hWq⟩
  · rcases hb with (hb | hb) | hb
    · exact Nat.lt_of_lt_of_le (hlt b (.inl hb)) hC.size
    · exact own_lt hr hb
    · exact Nat.lt_of_lt_of_le (hlt b (.inr hb)) hC.size
  · rcases hb with hb | hb
    · exact hd b hb hWb
    · have := hge b hb; have := hlt b (.inr hWb); omega
/-- What Sweep and Flush tell and leave. -/
def OutF (w : World) (M W : Nat → Prop) (lb : Nat) (ln pl : Int) (out rest : List Msg) (e : Ending) (w' : World) : Prop :=
  ∃ v qs M', e = .returned v ∧ qs.map Prod.snd = out ∧ w'.ownsRow w.heap.size 37 5 v qs.length (flat encM qs) ∧ WordsIn W w' qs ∧ LanesF w' M' W lb ln pl rest ∧ (∀ b, M' b → M b ∨ w.heap.size ≤ b) ∧ (∀ b, M b → M' b) ∧ (∀ b, v.ownBlock = some b → ¬ M' b) ∧ Chg M w w'
theorem SplitPostA.outF {X : World} {N : Nat → Prop} {f : Nat → Msg → Bool} {e : Ending} {lv : Value} {ps : List (Value × Msg)} (hb : Below w.heap.size w X) (hl : LanesAt w (fun b => M b ∨ W b) lb ln pl lv ps) (hm : M lb) (hw : WordsIn W w ps) (hd : ∀ b, M b → ¬ W b) (hN : ∀ b, N b → w.heap.size ≤ b) (h : SplitPostA X N lb ln pl ps f e w') : OutF w M W lb ln pl (selF f 0 (sortM (ps.map Prod.snd))) (selF (fun k m => !f k m) 0 (sortM (ps.map Prod.snd))) e w' := by
  obtain ⟨vo, qs, vr, rs, rfl, hq, hr1, hsq, hsr, ho, hr, hne, hp, hC⟩ := h
  have hC0 : Chg (fun b => b = lb ∨ N b) w w' := (Chg.of_below hb).trans hC (fun i hi => .inl hi)
  have hz := hl.at_.lt
  obtain ⟨h1, h2⟩ := LanesF.split hl hm hw hd hN hC0 hp hb.size hr hsr (by rw [hr1]; exact selF_sub _ _ _)
  rw [hr1] at h1
  refine ⟨vo, qs, _, rfl, hq, own_mono ho hb.size, h2 qs hsq, h1, fun b hb' => hb'.imp id (fun e => Nat.le_trans hb.size (own_block_ge hr b e)), fun b hb' => .inl hb', fun b e hm' => ?_, ?_⟩
  · rcases hm' with hm' | hm'
    · have := hl.lt b (.inl hm'); have := Nat.le_trans hb.size (own_block_ge ho b e); omega
    · exact hne b e hm'
  · exact ⟨hC0.os, hC0.tape, hC0.output, hC0.size, fun b hlt hn => hC0.block b hlt (fun h => h.elim (fun e => hn (e ▸ hm)) (fun h => by have := hN b h; omega))⟩
set_option maxHeartbeats 1000000 in
theorem sweep_f (h : LanesF w M W lb ln pl ms) (now : Int) : Calls Try.prog 57 #[.pointer (some ⟨lb, 0, none⟩), .int .i64 now] w (OutF w M W lb ln pl ((sortM ms).filter (fun m => lateT now m.late)) ((sortM ms).filter (fun m => !lateT now m.late))) := by
  obtain ⟨lv, ps, rfl, hl, hm, how, hws, hd⟩ := h
  have hMlt := hl.lt
  have hbA := (Below.refl w.heap.size w).alloc (Nat.le_refl _) (.cells #[.int .i64 now] 3)
  have hkA := pts.newA w #[.int .i64 now] 3
  have hk0 := hkA.cell 0
  simp only [List.getElem?_cons_zero] at hk0
  have hsp := splitSweep_cA (nb := w.heap.size) (now := now) (hl.below hbA) (fun b hb hm => by have := hMlt b hm; omega) (fun b hb => by simp; omega) hk0 (fun {w1 w2 k} h1 h2 h3 => clKeepS (B := w.heap.size + 1) (by omega) h1 (fun b hb => h2 b (by simp; omega)) h3)
    (fun w1 k a n c m h1 _ => (sweep1_c h1 a n c m).mono fun e w2 ⟨he, hb⟩ => ⟨he, clKeepS (k := k) (B := w.heap.size + 1) (by omega) h1 (fun b hb2 => hb.block b (by have := cell_blk h1; omega)) hb.size, Chg.of_below hb⟩) (fun b hm => by have := hMlt b hm; simp; omega)
  have e1 := selSweep1 now (sortM (ps.map Prod.snd))
  have e2 := selSweep2 now (sortM (ps.map Prod.snd))
  have hNge : ∀ b, (fun b => b = w.heap.size) b → w.heap.size ≤ b := fun b hb => Nat.le_of_eq (Eq.symm hb)
  have hfin : Calls Try.prog 70 #[.pointer (some ⟨lb, 0, none⟩), .func (.func 71) #[] #[.pointer (some ⟨w.heap.size, 0, none⟩)]] (w.alloc (.cells #[.int .i64 now] 3)) (OutF w M W lb ln pl ((sortM (ps.map Prod.snd)).filter (fun m => lateT now m.late)) ((sortM (ps.map Prod.snd)).filter (fun m => !lateT now m.late))) :=
    hsp.mono (fun e w' h => by rw [← e1, ← e2]; exact SplitPostA.outF hbA hl hm hws hd hNge h)
  replace hfin := hid hfin
  replace hl := hid hl
  clear hm how hws hd
  clear hk0 hkA e1 e2 hsp
  go_enter Try.func57, Try.ntmps57
  go_wp2_with (first | (go_at_call 70; (with_reducible refine (hfin.out).mono ?_); rintro e w1 ⟨v, qs, M', rfl, hall⟩; obtain ⟨a1, c1, rfl⟩ := own_shape hall.2.1; replace hall := hid hall))
  go_ret
  exact ⟨_, qs, M', rfl, hall.out⟩
/-- What Take leaves. -/
def TakeF (w : World) (M W : Nat → Prop) (lb : Nat) (ln pl : Int) (S : List Msg) (e : Ending) (w' : World) : Prop :=
  HandAny W S e w' ∧ ∃ M', LanesF w' M' W lb ln pl S.tail ∧ (∀ b, M' b → M b ∨ w.heap.size ≤ b) ∧ (∀ b, M b → M' b) ∧ Chg M w w'
theorem takeEndF {o1 o2 : Obj} {w1 : World} {lv vr : Value} {ps rs : List (Value × Msg)} {S : List Msg} (hl : LanesAt w (fun b => M b ∨ W b) lb ln pl lv ps) (hm : M lb) (hw : WordsIn W w ps) (hd : ∀ b, M b → ¬ W b)
    (hr1 : rs.map Prod.snd = S) (hsub : List.Sublist S (sortM (ps.map Prod.snd))) (hsr : ∀ p ∈ rs, p ∈ ps) (hr : w1.ownsRow ((w.alloc o1).alloc o2).heap.size 37 5 vr rs.length (flat encM rs)) (hp : pts w1 lb [.int .i64 ln, .int .i64 pl, vr] 90) (hC : Chg (fun b => b = lb ∨ b = w.heap.size + 1) ((w.alloc o1).alloc o2) w1) (p : Value × Msg) :
    (∃ M', LanesF (put5 w1 w.heap.size 0 p) M' W lb ln pl S ∧ (∀ b, M' b → M b ∨ w.heap.size ≤ b) ∧ (∀ b, M b → M' b) ∧ Chg M w (put5 w1 w.heap.size 0 p)) ∧ ∀ qs : List (Value × Msg), (∀ p ∈ qs, p ∈ ps) → WordsIn W w1 qs := by
  have hb : Below w.heap.size w ((w.alloc o1).alloc o2) := ((Below.refl w.heap.size w).alloc (Nat.le_refl _) o1).alloc (by simp) o2
  have hz : ((w.alloc o1).alloc o2).heap.size = w.heap.size + 2 := by simp
  have hC0 : Chg (fun b => b = lb ∨ b = w.heap.size + 1) w w1 := (Chg.of_below hb).trans hC (fun i hi => .inl hi)
  have hN : ∀ b, (fun b => b = w.heap.size + 1) b → w.heap.size ≤ b := fun b e => by have e : b = w.heap.size + 1 := e; omega
  obtain ⟨h1, h2⟩ := LanesF.split hl hm hw hd hN hC0 hp hb.size hr hsr (by rw [hr1]; exact hsub)
  rw [hr1] at h1
  have hlt := hl.lt
  have hge : ∀ b, vr.ownBlock = some b → w.heap.size + 2 ≤ b := fun b e => by have := own_block_ge hr b e; omega
  refine ⟨⟨_, h1.kept (w' := put5 w1 w.heap.size 0 p) (by rw [put5_size]; exact Nat.le_refl _) (fun b hb' hlt' => put5_other _ _ (fun e => ?_)), fun b hb' => hb'.imp id (fun e => by have := hge b e; omega), fun b hb' => .inl hb', ?_⟩, h2⟩
  · subst e
    rcases hb' with (hb' | hb') | hb'
    · have := hlt _ (.inl hb'); omega
    · have := hge _ hb'; omega
    · have := hlt _ (.inr hb'); omega
  · have h3 : Chg M w w1 := ⟨hC0.os, hC0.tape, hC0.output, hC0.size, fun b hlt hn => hC0.block b hlt (fun h => h.elim (fun e => hn (e ▸ hm)) (fun h => by omega))⟩
    exact ((((h3.setN (Nat.le_refl _)).setN (Nat.le_refl _)).setN (Nat.le_refl _)).setN (Nat.le_refl _)).setN (Nat.le_refl _)
theorem takeSplitF {lv : Value} {ps : List (Value × Msg)} (h : LanesAt w M lb ln pl lv ps) {o1 : Obj} : ∀ X, X = (w.alloc o1).alloc (.cells #[.int .i64 0] 3) → Calls Try.prog 70 #[.pointer (some ⟨lb, 0, none⟩), .func (.func 72) #[] #[.pointer (some ⟨w.heap.size + 1, 0, none⟩)]] X (SplitPostA X (fun b => b = w.heap.size + 1) lb ln pl ps takeF) := by
  rintro X rfl
  have hMlt := h.lt
  have hbA := ((Below.refl w.heap.size w).alloc (Nat.le_refl _) o1).alloc (by simp) (.cells #[.int .i64 0] 3)
  have hkA := pts.newA (w.alloc o1) #[.int .i64 0] 3
  have hz : (w.alloc o1).heap.size = w.heap.size + 1 := by simp
  rw [hz] at hkA
  exact splitTake_cA (nb := w.heap.size + 1) (h.below hbA) (fun b hb hm => by have := hMlt b hm; omega) (fun b hb => by simp; omega) (by simpa [TakeCl] using hkA) (fun {w1 w2 k} h1 h2 h3 => clKeepT (B := w.heap.size + 2) (by omega) h1 (fun b hb => h2 b (by simp; omega)) h3)
    (fun w1 k a n c m h1 hk => take1_c h1 hk a n c m) (fun b hm => by have := hMlt b hm; simp; omega)
set_option maxHeartbeats 1000000 in
theorem takeNone_f (h : LanesF w M W lb ln pl []) : Calls Try.prog 58 #[.pointer (some ⟨lb, 0, none⟩)] w (TakeF w M W lb ln pl []) := by
  obtain ⟨lv, ps, hps, hl, hm, how, hws, hd⟩ := h
  have hps : ps = [] := List.map_eq_nil_iff.1 hps
  subst hps
  have hsp := takeSplitF hl (o1 := .cells #[.slice none 0 0, .int .i64 0, .int .i64 0, .int .i64 0, .int .i64 0] 37) _ rfl
  have hz1 := (pts.newA w #[.slice none 0 0, .int .i64 0, .int .i64 0, .int .i64 0, .int .i64 0] 37).alloc (.cells #[.int .i64 0] 3)
  have hEnd := hid (fun (w1 : World) (vr : Value) (rs : List (Value × Msg)) hr1 hsub hsr hr hp hC => takeEndF (o1 := .cells #[.slice none 0 0, .int .i64 0, .int .i64 0, .int .i64 0, .int .i64 0] 37) (o2 := .cells #[.int .i64 0] 3) (w1 := w1) (vr := vr) (rs := rs) (S := []) hl hm hws hd hr1 hsub hsr hr hp hC (.slice none 0 0, ⟨[], 0, 0, 0, 0⟩))
  have hlb := hid hl.at_.lt
  replace hsp := hid hsp
  replace hz1 := hid hz1
  replace hl := hid hl
  clear hm how hws hd
  go_enter Try.func58, Try.ntmps58
  go_wp2_with (first | (go_at_call 70; (with_reducible refine (hsp.out).mono ?_); rintro e w1 ⟨v, qs, vr, rs, rfl, hq, hr1, hsq, hsr, ho, hr, hne, hp, hC⟩; have hqs : qs = [] := (List.eq_nil_iff_forall_not_mem.2 (fun p hp => by cases hsq p hp)); have hrs : rs = [] := (List.eq_nil_iff_forall_not_mem.2 (fun p hp => by cases hsr p hp)); subst hqs; subst hrs; obtain ⟨a1, c1, rfl⟩ := own_shape ho; have hE := hid (hEnd.out w1 vr [] rfl (List.nil_sublist _) hsr hr hp hC).1; have hz2 := hz1.out.chg hC (fun hm => by rcases hm with hm | hm; exact (by have := hlb.out; omega); exact (by omega)); have y0 := hz2.cell 0; have y1 := hz2.cell 1; have y2 := hz2.cell 2; have y3 := hz2.cell 3; have y4 := hz2.cell 4; have yl := hz2.lt; have fz := fun o => hz2.frozen o; simp only [List.getElem?_cons_zero, List.getElem?_cons_succ] at y0 y1 y2 y3 y4; clear hq hr1 hsq hsr hne hp hr hz2 hC ho))
  refine bodyPost_ret (v := .tuple #[.agg #[.slice none 0 0, .int .i64 0, .int .i64 0, .int .i64 0, .int .i64 0], .bool false]) (by simp [results, Try.results58, go_sem, y0, y1, y2, y3, y4, yl]) rfl ⟨⟨none, 0, rfl, IntsAt.nil _ _⟩, hE.out⟩
set_option maxHeartbeats 1000000 in
theorem takeSome_f (h : LanesF w M W lb ln pl ms) {m : Msg} {r : List Msg} (he : sortM ms = m :: r) : Calls Try.prog 58 #[.pointer (some ⟨lb, 0, none⟩)] w (TakeF w M W lb ln pl (m :: r)) := by
  obtain ⟨lv, ps, rfl, hl, hm, how, hws, hd⟩ := h
  have hsp := takeSplitF hl (o1 := .cells #[.slice none 0 0, .int .i64 0, .int .i64 0, .int .i64 0, .int .i64 0] 37) _ rfl
  have hz1 := (pts.newA w #[.slice none 0 0, .int .i64 0, .int .i64 0, .int .i64 0, .int .i64 0] 37).alloc (.cells #[.int .i64 0] 3)
  have hlb := hid hl.at_.lt
  have hWlt := hid (fun b (hb : W b) => hl.lt b (.inr hb))
  have e1 := hid (show selF takeF 0 (sortM (ps.map Prod.snd)) = [m] by rw [he]; exact (show m :: selF takeF 1 r = [m] from by rw [selF_none (fun i hi p => by simp [takeF]; omega)]))
  have e2 := hid (show selF (fun k m => !takeF k m) 0 (sortM (ps.map Prod.snd)) = r by rw [he]; exact (show selF (fun k m => !takeF k m) 1 r = r from selF_all (fun i hi p => by simp [takeF]; omega)))
  have hsub : List.Sublist r (sortM (ps.map Prod.snd)) := by rw [he]; exact List.sublist_cons_self _ _
  have hEnd := hid (fun (w1 : World) (vr : Value) (rs : List (Value × Msg)) hr1 hsr hr hp hC p => takeEndF (o1 := .cells #[.slice none 0 0, .int .i64 0, .int .i64 0, .int .i64 0, .int .i64 0] 37) (o2 := .cells #[.int .i64 0] 3) (w1 := w1) (vr := vr) (rs := rs) (S := r) hl hm hws hd hr1 hsub hsr hr hp hC p)
  replace hsp := hid hsp
  replace hz1 := hid hz1
  replace hl := hid hl
  replace he := hid he
  clear hm how hws hd hsub
  go_enter Try.func58, Try.ntmps58
  go_wp2_with (first | (go_at_call 70; (with_reducible refine (hsp.out).mono ?_); rintro e w1 ⟨v, qs, vr, rs, rfl, hq, hr1, hsq, hsr, ho, hr, hne, hp, hC⟩; rw [e1.out] at hq; rw [e2.out] at hr1; obtain ⟨p, rfl, hpm⟩ : ∃ p, qs = [p] ∧ p.2 = m := (by rcases qs with _ | ⟨p, _ | ⟨q, t⟩⟩; cases hq; exact ⟨p, rfl, by simpa using hq⟩; simp at hq); have hE0 := hEnd.out w1 vr rs hr1 hsr hr hp hC; have hw := (hE0 p).2 [p] hsq; have hms := MsgsAt.of_own ho hw; obtain ⟨a1, c1, rfl⟩ := own_shape ho; obtain ⟨g, o, a, c, rfl, hgm, hpe, hat, hiw⟩ := hms.at5 (i := 0) (by simp); simp only [List.getElem_cons_zero, Nat.zero_mul, Nat.add_zero] at hat hiw hpe; rw [hpm] at hat hiw; obtain ⟨x0, x1, x2, x3, x4, hxl⟩ := hat; have hgne : g ≠ w.heap.size := (by simp at hgm; omega); have hgne2 := Ne.symm hgne; have hE := hid (hE0 (.slice a m.words.length c, m)).1; have hz2 := hz1.out.chg hC (fun hm => by rcases hm with hm | hm; exact (by have := hlb.out; omega); exact (by omega)); have y0 := hz2.cell 0; have y1 := hz2.cell 1; have y2 := hz2.cell 2; have y3 := hz2.cell 3; have y4 := hz2.cell 4; have yl := hz2.lt; have fz := fun o => hz2.frozen o; simp only [List.getElem?_cons_zero, List.getElem?_cons_succ] at y0 y1 y2 y3 y4; obtain ⟨-, hlc, -, -⟩ := hms.get; simp only [List.length_singleton] at hlc ⊢; replace hpe := hid hpe; replace hpm := hid hpm; replace hiw := hid hiw; clear hE0 hw hq hr1 hsq hsr hne hp hr hz2 hC ho hms))
  refine bodyPost_ret (v := .tuple #[.agg #[.slice a m.words.length c, .int .i64 m.lane, .int .i64 m.stamp, .int .i64 m.late, .int .i64 m.seq], .bool true]) (by simp [results, Try.results58, go_sem, y0, y1, y2, y3, y4, yl]) rfl ⟨⟨a, c, rfl, ?_⟩, hE.out⟩
  exact put5_ints (o := 0) (p := (.slice a m.words.length c, m)) hiw.out (fun b h1 h2 e => by have := hWlt.out b h1; omega)
theorem take_f (h : LanesF w M W lb ln pl ms) : Calls Try.prog 58 #[.pointer (some ⟨lb, 0, none⟩)] w (TakeF w M W lb ln pl (sortM ms)) := by
  cases hs : sortM ms with
  | nil =>
    have : ms = [] := List.eq_nil_of_length_eq_zero (by have := sortL_len (key := lane1) ms; unfold sortM at hs; rw [hs] at this; exact this.symm)
    subst this
    exact takeNone_f h
  | cons m r => exact takeSome_f h hs
/-- Behind append, and the row stored. -/
theorem putStepF {lv : Value} {ps : List (Value × Msg)} {w3 w5 : World} (h : LanesAt w (fun b => M b ∨ W b) lb ln pl lv ps) (hm : M lb) (how : ∀ b, lv.ownBlock = some b → M b) (hws : WordsIn W w ps) (hd : ∀ b, M b → ¬ W b) (hb : Below w.heap.size w w3) {q : Value × Msg} (hq : IntsAt (fun b => w.heap.size ≤ b) w3 q.1 q.2.words) {lv' : Value} (hr : w5.ownsRow 0 37 5 lv' (ps.length + 1) (flat encM ps ++ encM q)) (hg : w3.grownBy w5 lv.ownBlock) (hv : ∀ c, lv'.ownBlock = some c → (lv.ownBlock = some c ∨ c = w3.heap.size) ∧ c < w5.heap.size) (hinv : LInv ln pl (ps.map Prod.snd ++ [q.2])) :
    LanesF (w5.setCell ⟨lb, 2, none⟩ lv') (fun b => M b ∨ lv'.ownBlock = some b) (fun b => W b ∨ (w.heap.size ≤ b ∧ b < w3.heap.size)) lb ln pl (ps.map Prod.snd ++ [q.2]) ∧ Chg M w (w5.setCell ⟨lb, 2, none⟩ lv') := by
  have e5 : ∀ b, b < w.heap.size → lv.ownBlock ≠ some b → w5.heap[b]? = w.heap[b]? := fun b hlt hne => (hg.block b (Nat.lt_of_lt_of_le hlt hb.size) (fun e => hne e.symm)).trans (hb.block b hlt)
  have hll := h.at_.lt
  have hp5 : pts w5 lb [.int .i64 ln, .int .i64 pl, lv] 90 := h.at_.of (e5 lb hll (fun e => h.ne lb e rfl))
  have hC0 : Chg M w w5 := ⟨hg.os.trans hb.os, hg.tape.trans hb.tape, hg.output.trans hb.output, Nat.le_trans hb.size hg.size, fun b hlt hn => e5 b hlt (fun e => hn (how b e))⟩
  have hC : Chg M w (w5.setCell ⟨lb, 2, none⟩ lv') := hC0.setB hm
  have hsz : (w5.setCell ⟨lb, 2, none⟩ lv').heap.size = w5.heap.size := by simp
  have s1 := hb.size
  have s2 := hg.size
  have hlt := h.lt
  have hlv : ∀ c, lv'.ownBlock = some c → c ≠ lb := fun c hc => by
    rcases (hv c hc).1 with h1 | h1
    · exact h.ne c h1
    · omega
  have hWs : WordsIn (fun b => W b ∨ (w.heap.size ≤ b ∧ b < w3.heap.size)) (w5.setCell ⟨lb, 2, none⟩ lv') (ps ++ [q]) := by
    refine WordsIn.snoc ?_ ?_
    · exact (hws.kept (w' := w5.setCell ⟨lb, 2, none⟩ lv') hC.size (fun b hb' hlt' => hC.block b hlt' (fun hm' => hd b hm' hb'))).mono (fun b hb' _ => .inl hb')
    · have h5 : IntsAt (fun b => w.heap.size ≤ b ∧ b < w3.heap.size) w3 q.1 q.2.words := hq.mono (fun b h1 h2 => ⟨h1, h2⟩)
      refine (h5.kept (w' := w5.setCell ⟨lb, 2, none⟩ lv') (by rw [hsz]; exact hg.size) (fun b h1 h2 => ?_)).mono (fun b h1 h2 => .inr h1)
      rw [Below.heap_setCell _ _ _ _ (fun e => by have e : b = lb := e; omega)]
      exact hg.block b h2 (fun e => by have := hlt b (h.mown b e.symm); omega)
  refine ⟨⟨lv', ps ++ [q], by simp, ⟨by simpa using hp5.set 2 lv', ?_, ?_, .inl (.inl hm), fun b e => .inl (.inr e), fun b hb' => ?_, by rw [List.map_append]; exact hinv⟩, .inl hm, fun b e => .inr e, hWs, ?_⟩, hC⟩
  · have h1 : w5.ownsRow 0 37 5 lv' (ps ++ [q]).length (flat encM (ps ++ [q])) := by rw [flat_append, flat_single, List.length_append]; exact hr
    exact own_of h1 (fun b e => Below.heap_setCell _ _ _ _ (hlv b e))
  · refine hWs.mono (fun b hb' _ => ⟨.inr hb', fun e => ?_, fun e => ?_⟩)
    · subst e
      rcases hb' with hb' | hb'
      · exact hd _ hm hb'
      · omega
    · rcases (hv b e).1 with h1 | h1
      · rcases hb' with hb' | hb'
        · exact hd b (how b h1) hb'
        · have := hlt b (h.mown b h1); omega
      · rcases hb' with hb' | hb'
        · have := hlt b (.inr hb'); omega
        · omega
  · rcases hb' with (hb' | hb') | hb' | hb'
    · exact Nat.lt_of_lt_of_le (hlt b (.inl hb')) hC.size
    · rw [hsz]; exact (hv b hb').2
    · exact Nat.lt_of_lt_of_le (hlt b (.inr hb')) hC.size
    · rw [hsz]; omega
  · intro b hb' hWb
    rcases hb' with hb' | hb' <;> rcases hWb with hWb | hWb
    · exact hd b hb' hWb
    · have := hlt b (.inl hb'); omega
    · rcases (hv b hb').1 with h1 | h1
      · exact hd b (how b h1) hWb
      · have := hlt b (.inr hWb); omega
    · rcases (hv b hb').1 with h1 | h1
      · have := hlt b (h.mown b h1); omega
      · omega
/-- What Put leaves. -/
def PutF (w : World) (M W : Nat → Prop) (lb : Nat) (ln pl : Int) (ms : List Msg) (e : Ending) (E : Int) (w' : World) : Prop :=
  e = .returned (.int .i64 E) ∧ ∃ M' W', LanesF w' M' W' lb ln pl ms ∧ (∀ b, M' b → M b ∨ w.heap.size ≤ b) ∧ (∀ b, M b → M' b) ∧ (∀ b, W b → W' b) ∧ (∀ b, W' b → W b ∨ w.heap.size ≤ b) ∧ Chg M w w'
set_option maxHeartbeats 2000000 in
set_option maxRecDepth 100000 in
theorem putOk_f (h : LanesF w M W lb ln pl ms) {okp : Nat → Prop} {a : Option Addr} {c : Nat} {m : Msg} (hw : IntsAt okp w (.slice a m.words.length c) m.words) (hsh : m.words.length ≤ 17592186044416) (hi : isT ln m.lane = true) (hr : roomT ln pl ms m.lane ≠ 0) :
    Calls Try.prog 33 #[.pointer (some ⟨lb, 0, none⟩), .agg #[.slice a m.words.length c, .int .i64 m.lane, .int .i64 m.stamp, .int .i64 m.late, .int .i64 m.seq]] w fun e w' => PutF w M W lb ln pl (ms ++ [m]) e 0 w' := by
  have hbA := (Below.refl w.heap.size w).alloc (Nat.le_refl _) (.cells #[.slice a m.words.length c, .int .i64 m.lane, .int .i64 m.stamp, .int .i64 m.late, .int .i64 m.seq] 37)
  have hqA := pts.newA w #[.slice a m.words.length c, .int .i64 m.lane, .int .i64 m.stamp, .int .i64 m.late, .int .i64 m.seq] 37
  have his := is_c (h.toM.below hbA) m.lane
  have hrm := room_c (h.toM.below hbA) m.lane
  have hinv : LInv ln pl (ms ++ [m]) := h.inv.add (by unfold isT at hi; simpa using hi) (by
    unfold roomT at hr
    rw [hi] at hr
    have := h.inv.few m.lane
    simp only [if_true] at hr
    unfold ofM at hr
    omega) hsh
  rw [hi] at his
  have hr0 : (roomT ln pl ms m.lane == 0) = false := by simpa using hr
  generalize roomT ln pl ms m.lane = r at hrm hr0 hr
  replace hr := hid hr
  replace hi := hid hi
  replace his := hid his
  replace hrm := hid hrm
  replace hbA := hid hbA
  replace hqA := hid hqA
  replace hinv := hid hinv
  replace h := hid h
  replace hw := hid hw
  go_enter Try.func33, Try.ntmps33
  go_upto_region 5 with (first | (go_at_call 50; (with_reducible refine (his.out).mono ?_); rintro e w1 ⟨rfl, rfl⟩) | (go_at_call 28; (with_reducible refine (hrm.out).mono ?_); rintro e w2 ⟨rfl, hb2⟩; replace hb2 := hid hb2))
  have hBW := Below.next hbA.out hb2.out (by simp)
  have hqW := hqA.out.below hb2.out
  have hiW := hw.out.below hBW
  obtain ⟨lv, ps, hps, hl, hm, how, hws, hd⟩ := h.out.below hBW
  have hbW := hid hBW
  clear hBW hqA hbA hb2 hrm his
  generalize hB1 : w.heap.size = qb at hqW hbW ⊢
  replace hB1 := hid hB1
  obtain ⟨al, cl, rfl⟩ := own_shape hl.own
  obtain ⟨c0, c1, c2, f2, hlt⟩ := hl.cells
  have m0 := hqW.cell 0
  have m1 := hqW.cell 1
  have m2 := hqW.cell 2
  have m3 := hqW.cell 3
  have m4 := hqW.cell 4
  have hql := hqW.lt
  simp only [List.getElem?_cons_zero, List.getElem?_cons_succ] at m0 m1 m2 m3 m4
  have hld : LanesAt w2.drew (fun b => M b ∨ W b) lb ln pl (.slice al ps.length cl) ps := hl.below (Below.refl _ _).drew
  have hcl : Calls Try.prog 53 #[.agg #[.slice a m.words.length c, .int .i64 m.lane, .int .i64 m.stamp, .int .i64 m.late, .int .i64 m.seq]] w2.drew fun e w' => ∃ v', e = .returned (.agg #[v', .int .i64 m.lane, .int .i64 m.stamp, .int .i64 m.late, .int .i64 m.seq]) ∧ IntsAt (fun b => w2.drew.heap.size ≤ b) w' v' m.words ∧ Below w2.drew.heap.size w2.drew w' := mclone_c (p := (.slice a m.words.length c, m)) (hiW.below (Below.refl _ _).drew) hsh
  have hpl := hid hl.len
  subst hps
  have hpf := hid (show M lb ∧ (∀ b, (Value.slice al ps.length cl).ownBlock = some b → M b) ∧ WordsIn W w2.drew ps ∧ (∀ b, M b → ¬ W b) from ⟨hm, how, hws.below (Below.refl _ _).drew, hd⟩)
  clear hm how hws hd
  replace hl := hid hl
  replace hld := hid hld
  replace hcl := hid hcl
  clear hqW hiW
  go_region_law (first | (refine step_push rfl (.tmp 21) (.tmp 24) 41 rfl elMsg (v := .slice al ps.length cl) (by simp [Act.eval, Act.put]) (hl3.out.own) (Nat.zero_le _) (by simp [Act.eval, Act.put]) (g := w3.heap.size) (m := 1) (c := 1) (news := encM (.slice av m.words.length cv, m)) rfl (heap_at _ _ _ rfl) (by simp [encM, Value.oneCell']) (by omega) (by have := hpl.out; unfold maxLen; omega) (by have := hpl.out; omega) ?_; intro g' cap' w5 hown5 hg5 hor5 hlt5; have hS := hid (putStepF (q := (.slice av m.words.length cv, m)) hld.out hpf.out.1 hpf.out.2.1 hpf.out.2.2.1 hpf.out.2.2.2 (hb3.out.alloc hz3.out (.cells #[.slice av m.words.length cv, .int .i64 m.lane, .int .i64 m.stamp, .int .i64 m.late, .int .i64 m.seq] 37)) (hi3.out.below ((Below.refl _ _).alloc (Nat.le_refl _) _)) hown5 hg5 (fun c hc => by simp only [Value.ownBlock, Option.some.injEq] at hc; subst hc; exact ⟨hor5, hlt5⟩) hinv.out); have hp5 := pts.of hl3.out.at_ (hg5.block lb hl3.out.at_.lt (fun e => hl3.out.ne lb e.symm rfl)); have s2 := hp5.cell 2; have sf := hp5.frozen 2; have sl := hp5.lt; simp only [List.getElem?_cons_zero, List.getElem?_cons_succ] at s2; have hor6 := hid hor5; clear hown5 hg5 hp5) | (go_simp; go_at_call 53; (with_reducible refine hcl.out.mono ?_); rintro e w3 ⟨v', rfl, hi3, hb3⟩; obtain ⟨av, cv, rfl⟩ := hi3.shape; have hl3 := hid (((hld.out.below hb3).below ((Below.refl _ _).alloc (Nat.le_refl _) (.cells #[.slice av m.words.length cv, .int .i64 m.lane, .int .i64 m.stamp, .int .i64 m.late, .int .i64 m.seq] 37)))); have hl3' := hid (hld.out.below hb3); obtain ⟨-, -, c2', -, cl'⟩ := hl3'.out.cells; have hz3 := hid hb3.size; have hi3 := hid hi3; have hb3 := hid hb3))
  all_goals go_wp2
  all_goals go_ret
  all_goals have hbs : w.heap.size ≤ w2.drew.heap.size := by have := hbW.out.size; rw [hB1.out] at *; exact this
  all_goals have hc1 : Chg M w w2.drew := (Chg.of_below (M := M) (by have := hbW.out; rw [← hB1.out] at this; exact this)).drew
  all_goals exact ⟨rfl, _, _, hS.out.1, fun b hb => hb.elim .inl (fun e => by have e : g' = b := (by simpa [Value.ownBlock] using e); subst e; rcases hor6.out with h | h; exact .inl (hpf.out.2.1 _ h); exact .inr (by have := hb3.out.size; have hbs2 := hbs; simp at h this hbs2; omega)), fun b hb => .inl hb, fun b hb => .inl hb, fun b hb => hb.imp id (fun e => Nat.le_trans hbs e.1), hc1.trans hS.out.2 (fun i hi => .inl hi)⟩
end
end Go.Proofs.Ytggfallodkbgcaa.La
