/- DERIVED. The reference's port beside a port in plain words: what each of its functions makes of both. No statement is proved here. -/
import Derived.Test.YtnlmkllhmldgiaaRefQ
namespace Go.Proofs.Ytnlmkllhmldgiaa.Rq
set_option linter.unusedVariables false
set_option linter.unusedSimpArgs false
open Go.RowKit Go.Maps Go.Proofs.Ytnlmkllhmldgiaa.K Go.Proofs.Ytnlmkllhmldgiaa.Lb Go.Proofs.Ytnlmkllhmldgiaa.Wh Go.Proofs.Ytnlmkllhmldgiaa.Qu Go.Proofs.Ytnlmkllhmldgiaa.Gt
/-- The reference's port reads as p: its rows' blocks meet okr, its words' okb. -/
structure RefP (okr okb : Nat → Prop) (w : World) (al : Option Addr) (nl cl : Nat) (aw : Option Addr) (nw cw : Nat) (p : Prt) : Prop where
  at_ : ∃ ps ws, MsgsAt okr okb w (.slice al nl cl) ps ∧ QAt okr w (.slice aw nw cw) ws ∧ ps.map Prod.snd = p.ms ∧ RRel p ws ∧ ∀ e ∈ ws, cutT e.2 = e.2
section
variable {okr okb okr' okb' : Nat → Prop} {w w' : World} {al aw : Option Addr} {nl cl nw cw : Nat} {p : Prt}
theorem RefP.below (h : RefP okr okb w al nl cl aw nw cw p) (hb : Below w.heap.size w w') : RefP okr okb w' al nl cl aw nw cw p := by
  obtain ⟨ps, ws, h1, h2, h3⟩ := h.at_
  exact ⟨ps, ws, h1.below hb, RowAt.below h2 hb, h3⟩
theorem RefP.kept (h : RefP okr okb w al nl cl aw nw cw p) (hs : w.heap.size ≤ w'.heap.size) (hk : ∀ b, okr b ∨ okb b → b < w.heap.size → w'.heap[b]? = w.heap[b]?) : RefP okr okb w' al nl cl aw nw cw p := by
  obtain ⟨ps, ws, h1, h2, h3⟩ := h.at_
  exact ⟨ps, ws, h1.kept hs hk, RowAt.kept h2 hs (fun b hb => hk b (.inl hb)), h3⟩
theorem RefP.mono (h : RefP okr okb w al nl cl aw nw cw p) (hr : ∀ b, okr b → b < w.heap.size → okr' b) (hb : ∀ b, okb b → b < w.heap.size → okb' b) : RefP okr' okb' w al nl cl aw nw cw p := by
  obtain ⟨ps, ws, h1, h2, h3⟩ := h.at_
  exact ⟨ps, ws, h1.mono hr hb, RowAt.mono h2 hr, h3⟩
theorem RefP.lens (h : RefP okr okb w al nl cl aw nw cw p) : nl = p.ms.length ∧ nw = p.row.length := by
  obtain ⟨ps, ws, h1, h2, h3, h4, _⟩ := h.at_
  refine ⟨?_, ?_⟩
  · rw [← h3, List.length_map]; exact h1.get.1
  · rw [h4.row, List.length_map]; exact (RowAt.get h2).1
theorem RefP.msgs (h : RefP okr okb w al nl cl aw nw cw p) : ∃ ps, MsgsAt okr okb w (.slice al nl cl) ps ∧ ps.map Prod.snd = p.ms := by
  obtain ⟨ps, ws, h1, h2, h3, _⟩ := h.at_
  exact ⟨ps, h1, h3⟩
theorem RefP.new (w : World) (n : Int) : RefP okr okb w none 0 0 none 0 0 (newP n) := ⟨[], [], MsgsAt.nil _ _ _, RowAt.nil _ _ _ _, rfl, RRel.new n, fun _ h => by cases h⟩
theorem RefP.flush (h : RefP okr okb w al nl cl aw nw cw p) : RefP okr okb w none 0 0 none 0 0 (flushP p) := ⟨[], [], MsgsAt.nil _ _ _, RowAt.nil _ _ _ _, rfl, ⟨rfl, Sp.Stab.refl _, Sp.Srt.nil, List.nodup_nil⟩, fun _ h => by cases h⟩
theorem cut_cut (u : Int) : cutT (cutT u) = cutT u := by unfold cutT; omega
def okN (ok : Nat → Prop) (w : World) : Nat → Prop := fun b => ok b ∨ w.heap.size ≤ b
theorem qnew_c (w : World) (n : Int) : Calls Try.prog 25 #[.int .i64 n] w fun e w' => e = .returned (.agg #[.int .i64 (newP n).hold, .slice none 0 0, .slice none 0 0]) ∧ Below w.heap.size w w' := by
  have hmin := @minTwo
  have hmax := @maxTwo
  go_enter Try.func25, Try.ntmps25
  go_wp2
  refine bodyPost_ret (v := .agg #[.int .i64 (holdT n), .slice none 0 0, .slice none 0 0]) (by unfold holdT; simp [results, Try.results25, go_sem]) rfl ⟨rfl, (Below.refl _ _).alloc (Nat.le_refl _) _⟩
theorem waits_p (h : RefP okr okb w al nl cl aw nw cw p) (hold x : Int) : Calls Try.prog 31 #[.agg #[.int .i64 hold, .slice al nl cl, .slice aw nw cw], .int .i64 x] w fun e w' => e = .returned (.bool (decide (x ∈ p.row))) ∧ Below w.heap.size w w' := by
  obtain ⟨ps, ws, h1, h2, h3, h4, _⟩ := h.at_
  obtain rfl := h1.get.1
  obtain rfl := (RowAt.get h2).1
  rw [h4.row]
  exact qwaits_c h2 hold x
theorem waiting_p (h : RefP okr okb w al nl cl aw nw cw p) (hold : Int) (hsm : p.row.length < 100000) : Calls Try.prog 30 #[.agg #[.int .i64 hold, .slice al nl cl, .slice aw nw cw]] w fun e w' => ∃ v', e = .returned v' ∧ IntsAt (fun b => w.heap.size ≤ b) w' v' p.row ∧ Below w.heap.size w w' := by
  obtain ⟨ps, ws, h1, h2, h3, h4, _⟩ := h.at_
  obtain rfl := h1.get.1
  obtain rfl := (RowAt.get h2).1
  rw [h4.row, List.length_map] at hsm
  rw [h4.row]
  exact qwaiting_c h2 hsm hold
/-- What a call leaves of the reference's port. -/
def RefN (okr okb : Nat → Prop) (w : World) (v : Value) (p : Prt) (w' : World) : Prop := ∃ al nl cl aw nw cw, v = .agg #[.int .i64 p.hold, .slice al nl cl, .slice aw nw cw] ∧ RefP (okN okr w) okb w' al nl cl aw nw cw p
def PutN (okr okb : Nat → Prop) (w : World) (p : Prt) (m : Msg) (e : Ending) (w' : World) : Prop :=
  ∃ v, e = .returned (.tuple #[v, .int .i64 (putP p m).2.1, .bool (putP p m).2.2.1, .int .i64 (putP p m).2.2.2]) ∧ RefN okr okb w v (putP p m).1 w' ∧ Below w.heap.size w w'
theorem put_p (h : RefP okr okb w al nl cl aw nw cw p) (hroom : (p.ms.length : Int) ≤ p.hold) (hh : p.hold ≤ 8) {am : Option Addr} {cm : Nat} {m : Msg} (hm0 : IntsAt okb w (.slice am m.words.length cm) m.words) : Calls Try.prog 26 #[.agg #[.int .i64 p.hold, .slice al nl cl, .slice aw nw cw], .agg #[.slice am m.words.length cm, .int .i64 m.lane, .int .i64 m.stamp, .int .i64 m.late, .int .i64 m.seq]] w (PutN okr okb w p m) := by
  obtain ⟨ps, ws, h1, h2, h3, h4, h5⟩ := h.at_
  obtain rfl := h1.get.1
  obtain rfl := (RowAt.get h2).1
  have hl : ps.length = p.ms.length := by rw [← h3, List.length_map]
  cases ws with
  | cons e r =>
    obtain ⟨k1, k2, k3, k4⟩ := h4.putCons m
    refine (qput_row h2 h1 (by simp) p.hold am cm m).mono ?_
    rintro e' w' ⟨wv, rfl, hq, hb⟩
    obtain ⟨a', c', rfl⟩ := RowAt.shape hq
    refine ⟨_, by rw [k2]; rfl, ⟨_, _, _, _, _, _, by rw [k4], ps, r, (h1.below hb).mono (fun _ h _ => .inl h) (fun _ h _ => h), RowAt.mono hq (fun _ h _ => .inl h), h3.trans k3.symm, k1, fun x hx => h5 x (List.mem_cons_of_mem _ hx)⟩, hb⟩
  | nil =>
    obtain ⟨k1, k2, k3, k4⟩ := h4.putNil m
    by_cases hf : (p.ms.length : Int) = p.hold
    · rw [if_pos hf] at k2 k3
      refine (qput_full h1 p.hold (by rw [hl]; exact hf) am cm m).mono ?_
      rintro e' w' ⟨rfl, hb⟩
      exact ⟨_, by rw [k2], ⟨_, _, _, _, _, _, by rw [k4], ps, [], (h1.below hb).mono (fun _ h _ => .inl h) (fun _ h _ => h), RowAt.mono (RowAt.below h2 hb) (fun _ h _ => .inl h), h3.trans k3.symm, k1, h5⟩, hb⟩
    · rw [if_neg hf] at k2 k3
      refine (qput_add h1 p.hold (by rw [hl]; omega) (by rw [hl]; omega) hm0).mono ?_
      rintro e' w' ⟨lv, rfl, hq, hb⟩
      obtain ⟨a', c', rfl⟩ := hq.shape
      exact ⟨_, by rw [k2], ⟨_, _, _, _, _, _, by rw [k4], _, [], hq.mono (fun _ h _ => .inr h) (fun _ h _ => h), RowAt.mono (RowAt.below h2 hb) (fun _ h _ => .inl h), by rw [k3, ← h3]; simp, k1, h5⟩, hb⟩
def AskN (okr okb : Nat → Prop) (w : World) (r : Prt × Msg × Int) (e : Ending) (w' : World) : Prop :=
  ∃ v a c, e = .returned (.tuple #[v, .agg #[.slice a r.2.1.words.length c, .int .i64 r.2.1.lane, .int .i64 r.2.1.stamp, .int .i64 r.2.1.late, .int .i64 r.2.1.seq], .int .i64 r.2.2]) ∧ RefN okr okb w v r.1 w' ∧ IntsAt okb w' (.slice a r.2.1.words.length c) r.2.1.words ∧ Below w.heap.size w w'
theorem ask_p (h : RefP okr okb w al nl cl aw nw cw p) (hsm : p.row.length < 100000) (x u now : Int) : Calls Try.prog 27 #[.agg #[.int .i64 p.hold, .slice al nl cl, .slice aw nw cw], .int .i64 x, .int .i64 u, .int .i64 now] w (AskN okr okb w (askP p x u now)) := by
  obtain ⟨ps, ws, h1, h2, h3, h4, h5⟩ := h.at_
  obtain rfl := h1.get.1
  obtain rfl := (RowAt.get h2).1
  have hw : ws.length < 100000 := by rw [h4.row, List.length_map] at hsm; exact hsm
  refine (qask_c h2 h1 hw p.hold x u now).mono ?_
  rintro e w' ⟨lv, wv, a, c, rfl, g1, g2, g3, hb⟩
  obtain ⟨a1, c1, rfl⟩ := g1.shape
  obtain ⟨a2, c2, rfl⟩ := RowAt.shape g2
  obtain ⟨hold, ms, row, es, s⟩ := p
  obtain rfl : row = ws.map Prod.fst := h4.row
  have g1' := g1.mono (ok' := okN okr w) (okw' := okb) (fun _ h _ => .inl h) (fun _ h _ => h)
  simp only at h3 h4 g1' g2 g3 ⊢
  unfold askP askQ at *
  by_cases hx : x ∈ ws.map Prod.fst
  · simp only [if_pos hx] at *
    exact ⟨_, a, c, rfl, ⟨_, _, _, _, _, _, rfl, ps, ws, g1', g2, h3, h4, h5⟩, g3, hb⟩
  · simp only [if_neg hx] at *
    cases ps with
    | cons q r =>
      simp only [List.map_cons] at h3
      subst h3
      refine ⟨_, a, c, rfl, ⟨_, _, _, _, _, _, rfl, r, ws, g1', g2, rfl, ⟨h4.row, h4.st, h4.srt, h4.nd⟩, h5⟩, g3, hb⟩
    | nil =>
      simp only [List.map_nil] at h3
      subst h3
      by_cases hl : cutT u ≤ cutT now
      · have e2 : lateT now u = true := decide_eq_true hl
        simp only [if_pos hl, e2, if_true] at *
        exact ⟨_, a, c, rfl, ⟨_, _, _, _, _, _, rfl, [], ws, g1', g2, rfl, h4, h5⟩, g3, hb⟩
      · have e2 : lateT now u = false := decide_eq_false hl
        simp only [if_neg hl, e2, Bool.false_eq_true, if_false] at *
        refine ⟨_, a, c, rfl, ⟨_, _, _, _, _, _, rfl, [], _, g1', g2, rfl, h4.askAdd hx (cutT u) (s + 1), fun e he => ?_⟩, g3, hb⟩
        rcases List.mem_append.1 he with h | h
        · exact h5 e h
        · simp at h; subst h; exact cut_cut u
def ExpN (okr okb : Nat → Prop) (w : World) (p : Prt) (now : Int) (e : Ending) (w' : World) : Prop :=
  ∃ v v2, e = .returned (.tuple #[v, v2]) ∧ RefN okr okb w v (expP p now) w' ∧ IntsAt (fun b => w.heap.size ≤ b) w' v2 (keysE (p.es.filter (lateE now))) ∧ Below w.heap.size w w'
theorem expire_p (h : RefP okr okb w al nl cl aw nw cw p) (hsm : p.row.length < 100000) (now : Int) : Calls Try.prog 28 #[.agg #[.int .i64 p.hold, .slice al nl cl, .slice aw nw cw], .int .i64 now] w (ExpN okr okb w p now) := by
  obtain ⟨ps, ws, h1, h2, h3, h4, h5⟩ := h.at_
  obtain rfl := h1.get.1
  obtain rfl := (RowAt.get h2).1
  have hw : ws.length < 100000 := by rw [h4.row, List.length_map] at hsm; exact hsm
  obtain ⟨k1, k2⟩ := h4.exp now
  refine (qexpire_c h2 hw h5 p.hold now ps.length).mono ?_
  rintro e w' ⟨v1, v2, rfl, g1, g2, hb⟩
  obtain ⟨a1, c1, rfl⟩ := RowAt.shape g1
  exact ⟨_, _, rfl, ⟨_, _, _, _, _, _, rfl, ps, _, (h1.below hb).mono (fun _ h _ => .inl h) (fun _ h _ => h), g1, h3, k1, fun e he => h5 e (List.mem_filter.1 he).1⟩, by rw [k2]; exact g2, hb⟩
def SweepN (okr okb : Nat → Prop) (w : World) (p : Prt) (now : Int) (e : Ending) (w' : World) : Prop :=
  ∃ v v2 qs, e = .returned (.tuple #[v, v2]) ∧ RefN okr okb w v { p with ms := p.ms.filter (fun m => !lateM now m) } w' ∧ MsgsAt (fun b => w.heap.size ≤ b) okb w' v2 qs ∧ qs.map Prod.snd = p.ms.filter (lateM now) ∧ Below w.heap.size w w'
theorem sweep_p (h : RefP okr okb w al nl cl aw nw cw p) (hsm : p.ms.length < 1000) (now : Int) : Calls Try.prog 29 #[.agg #[.int .i64 p.hold, .slice al nl cl, .slice aw nw cw], .int .i64 now] w (SweepN okr okb w p now) := by
  obtain ⟨ps, ws, h1, h2, h3, h4, h5⟩ := h.at_
  obtain rfl := h1.get.1
  obtain rfl := (RowAt.get h2).1
  have hl : ps.length = p.ms.length := by rw [← h3, List.length_map]
  refine (qsweep_c h1 (by omega) p.hold now ws.length).mono ?_
  rintro e w' ⟨v1, v2, rfl, g1, g2, hb⟩
  obtain ⟨a1, c1, rfl⟩ := g1.shape
  have e1 : (ps.filter (fun p => !lateV now p)).map Prod.snd = (ps.map Prod.snd).filter (fun m => !lateM now m) := by rw [List.filter_map]; rfl
  have e2 : (ps.filter (lateV now)).map Prod.snd = (ps.map Prod.snd).filter (lateM now) := by rw [List.filter_map]; rfl
  exact ⟨_, _, _, rfl, ⟨_, _, _, _, _, _, rfl, _, ws, g1.mono (fun _ h _ => .inr h) (fun _ h _ => h), RowAt.mono (RowAt.below h2 hb) (fun _ h _ => .inl h), by rw [e1, h3], ⟨h4.row, h4.st, h4.srt, h4.nd⟩, h5⟩, g2, by rw [e2, h3], hb⟩
theorem RefP.st {ok : Nat → Prop} {g g' : List Nat} (h : RefP (fun x => ok x ∧ x ∉ g) okb w al nl cl aw nw cw p) (hs : StepG g w g' w') : RefP (fun x => ok x ∧ x ∉ g') okb w' al nl cl aw nw cw p :=
  (h.mono (okr' := fun x => ok x ∧ x ∉ g') (okb' := okb) (fun x hx hl => ⟨hx.1, fun hm => (hs.n x hm).elim hx.2 (fun h => by omega)⟩) (fun _ h _ => h)).below hs.b
/-- What a call in a region that draws its order leaves of the reference's port. -/
theorem RefN.reg {ok : Nat → Prop} {u u' : World} {v : Value} {g : List Nat} (h : RefN (fun x => ok x ∧ x < w.heap.size) okb u v p u') (hb : Below w.heap.size w u) (hg : Boxes w g u) : ∃ al nl cl aw nw cw, v = .agg #[.int .i64 p.hold, .slice al nl cl, .slice aw nw cw] ∧ RefP (fun x => (ok x ∨ w.heap.size ≤ x) ∧ x ∉ g) okb u' al nl cl aw nw cw p := by
  obtain ⟨al, nl, cl, aw, nw, cw, rfl, hR⟩ := h
  have hs := hb.size
  refine ⟨al, nl, cl, aw, nw, cw, rfl, hR.mono (fun x hx _ => ?_) (fun _ h _ => h)⟩
  rcases hx with hx | hx
  · exact ⟨.inl hx.1, fun hm => by have := (hg x hm).1; have := hx.2; omega⟩
  · exact ⟨.inr (Nat.le_trans hs hx), fun hm => by have := (hg x hm).2; omega⟩
theorem same_ref {ok1 ok2 : Nat → Prop} {v : Value} {qs : List (Value × Msg)} (h : MsgsAt ok1 ok2 w v qs) (hq : qs.map Prod.snd = p.ms) (hR : RefP okr okb w al nl cl aw nw cw p) : Calls Try.prog 22 #[v, .slice al nl cl] w fun e w' => e = .returned (.bool true) ∧ Below w.heap.size w w' := by
  obtain ⟨ps, h1, h2⟩ := hR.msgs
  exact R2.same_eq h h1 (hq.trans h2.symm)
theorem ints_same {ok1 ok2 : Nat → Prop} {v1 v2 : Value} {xs : List Int} (h1 : IntsAt ok1 w v1 xs) (h2 : IntsAt ok2 w v2 xs) : Calls Try.prog 23 #[v1, v2] w fun e w' => e = .returned (.bool true) ∧ Below w.heap.size w w' :=
  (R1.same_c h1 h2).mono fun e w' ⟨he, hb⟩ => ⟨by rw [he]; simp, hb.below _⟩
end
end Go.Proofs.Ytnlmkllhmldgiaa.Rq
