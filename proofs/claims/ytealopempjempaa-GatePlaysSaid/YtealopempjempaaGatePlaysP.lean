/- DERIVED. Words for the statement GatePlays: the reference's gate in its box, beside the program's gate; what its Offer tells in a region. No statement is proved here. -/
import Derived.Test.YtealopempjempaaRefGateN
import Derived.Test.YtealopempjempaaGateT
namespace Go.Proofs.Ytealopempjempaa.Gt
set_option linter.unusedVariables false
set_option linter.unusedSimpArgs false
open Go.RowKit Go.Proofs.Ytealopempjempaa.K Go.Proofs.Ytealopempjempaa.Lb Go.Proofs.Ytealopempjempaa.La Go.Proofs.Ytealopempjempaa.Cf Go.Proofs.Ytealopempjempaa.Rl
/-- The reference's gate: its box is rb, its list lies apart from M and from the box. -/
structure RAt (w : World) (M : Nat → Prop) (rb : Nat) (g : Gte) (rv : Value) : Prop where
  r : pts w rb (encGt g.k rv g.b g.seq) 60
  nr : ¬ M rb
  q : MsgsR (fun b => ¬ M b ∧ b ≠ rb) w rv (sortM g.ms)
  pv : Plain rv
section
variable {w w' : World} {M : Nat → Prop} {rb gb n0 : Nat} {g : Gte} {rv : Value}
theorem RAt.below (h : RAt w M rb g rv) (hb : Below w.heap.size w w') : RAt w' M rb g rv := ⟨h.r.below hb, h.nr, h.q.below hb, h.pv⟩
theorem RAt.chg (h : RAt w M rb g rv) (hc : Chg M w w') : RAt w' (grow M w w') rb g rv :=
  ⟨h.r.chg hc h.nr, fun hx => by rcases hx with hx | hx; exact h.nr hx; exact (by have := h.r.lt; omega),
    ((h.q.mono (ok' := fun b => (¬ M b ∧ b ≠ rb) ∧ b < w.heap.size) (fun b hb hlt => ⟨hb, hlt⟩)).kept hc.size (fun b hb hlt => hc.block b hlt hb.1.1)).mono (fun b hb _ => ⟨fun hx => by rcases hx with hx | hx; exact hb.1.1 hx; exact (by have := hb.2; have := hx.1; omega), hb.1.2⟩), h.pv⟩
/-- The reference's gate as it is now, still in parts: what it answered. -/
def ROut (ok : Nat → Prop) (r : Gte × Msg × Int) (gs : List Nat) (u : World) (v : Value) : Prop :=
  ∃ rv' a c, v = .tuple #[aggG r.1.k rv' r.1.b r.1.seq, .agg #[.slice a r.2.1.words.length c, .int .i64 r.2.1.lane, .int .i64 r.2.1.stamp, .int .i64 r.2.1.late, .int .i64 r.2.1.seq], .int .i64 r.2.2] ∧
    MsgsR (fun b => ok b ∧ b ∉ gs) u rv' (sortM r.1.ms) ∧ Plain rv' ∧ IntsAt (fun b => ok b ∧ b ∉ gs) u (.slice a r.2.1.words.length c) r.2.1.words
theorem ROut.st {ok : Nat → Prop} {r : Gte × Msg × Int} {gs gs' : List Nat} {u u' : World} {v : Value} (h : ROut ok r gs u v) (hs : StepG gs u gs' u') : ROut ok r gs' u' v := by
  obtain ⟨rv', a, c, h1, h2, h3, h4⟩ := h
  have hm : ∀ b, ok b ∧ b ∉ gs → b < u.heap.size → ok b ∧ b ∉ gs' := fun b hb hlt => ⟨hb.1, fun hm => (hs.n b hm).elim hb.2 (by omega)⟩
  exact ⟨rv', a, c, h1, (h2.mono hm).below hs.b, h3, (h4.mono hm).below hs.b⟩
theorem roffer_o {w0 u : World} {gs : List Nat} (hr : RAt w0 M rb g rv) (hb : Below w0.heap.size w0 u) (hg : Boxes w0 gs u) (hM : ∀ b, M b → b < w0.heap.size) (hsm : g.ms.length < 1000) (hbk : g.b.Ok) (hseq : 0 ≤ g.seq ∧ g.seq < 1000000) {okI : Nat → Prop} {wa : Option Addr} {wc : Nat} {ws : List Int} (hws : IntsAt okI u (.slice wa ws.length wc) ws) (hl : ws.length ≤ 17592186044416) (mode lane now round : Int) :
    Calls Try.prog 29 #[aggG g.k rv g.b g.seq, .int .i64 mode, .int .i64 lane, .slice wa ws.length wc, .int .i64 now, .int .i64 round] u fun e w' => ∃ v, e = .returned v ∧ ROut (fun b => ¬ M b ∧ b ≠ rb) (offerT g mode lane ws now round) gs w' v ∧ Below u.heap.size u w' := by
  obtain ⟨qs, hqs, hq⟩ := hr.q
  have hrl := hr.r.lt
  have hq1 := ((hq.mono (ok' := fun b => (¬ M b ∧ b ≠ rb) ∧ b < w0.heap.size) (okw' := fun b => (¬ M b ∧ b ≠ rb) ∧ b < w0.heap.size) (fun b h hlt => ⟨h, hlt⟩) (fun b h hlt => ⟨h, hlt⟩)).below hb).mono (ok' := fun b => (¬ M b ∧ b ≠ rb) ∧ b ∉ gs) (okw' := fun b => (¬ M b ∧ b ≠ rb) ∧ b ∉ gs) (fun b h _ => ⟨h.1, fun hm => by have := (hg b hm).1; omega⟩) (fun b h _ => ⟨h.1, fun hm => by have := (hg b hm).1; omega⟩)
  have hlen : qs.length < 1000 := by have := congrArg List.length hqs; rw [List.length_map, sortM_len] at this; omega
  have hnew : ∀ b, u.heap.size ≤ b → (¬ M b ∧ b ≠ rb) ∧ b ∉ gs := fun b h => ⟨⟨fun hm => by have := hM b hm; have := hb.size; omega, fun e => by have := hb.size; omega⟩, fun hm => by have := (hg b hm).2; omega⟩
  obtain ⟨gk, gm, gbk, gsq⟩ := g
  refine (roffer_c hq1 hr.pv hqs hlen hbk hseq hws hl mode lane now round).mono ?_
  rintro e w' ⟨rv', ps', a, c, rfl, h1, h2, h3, h4, h5⟩
  exact ⟨_, rfl, ⟨rv', a, c, rfl, ⟨ps', h1, h2.mono (fun b h _ => h.elim id (hnew b)) (fun b h _ => h.elim id (hnew b))⟩, h3, h4.mono (fun b h _ => hnew b h)⟩, h5⟩
theorem RAt.set (h : RAt w M rb g rv) {g' : Gte} {rv' : Value} (hq : MsgsR (fun b => ¬ M b ∧ b ≠ rb) w rv' (sortM g'.ms)) (hp : Plain rv') : RAt (setN w rb 0 (encGt g'.k rv' g'.b g'.seq)) M rb g' rv' :=
  ⟨setN_pts0 h.r _ rfl, h.nr, hq.kept (setN_own rb _ 0 w).size (fun b hb hlt => (setN_own rb _ 0 w).block b hlt hb.2), hp⟩
theorem encGt_one {k : Chan} {rv : Value} {b : Bk} {seq : Int} (h : Plain rv) : (encGt k rv b seq).all (·.oneCell') = true := by obtain ⟨_, _, _, rfl, _⟩ := h; rfl
def GAgg (ok : Nat → Prop) (g : Gte) (gs : List Nat) (u : World) (v : Value) : Prop := ∃ rv, v = .agg (encGt g.k rv g.b g.seq).toArray ∧ MsgsR (fun b => ok b ∧ b ∉ gs) u rv (sortM g.ms) ∧ Plain rv
def encV (a : Option Addr) (c : Nat) (m : Msg) : List Value := [.slice a m.words.length c, .int .i64 m.lane, .int .i64 m.stamp, .int .i64 m.late, .int .i64 m.seq]
def MAgg (ok : Nat → Prop) (m : Msg) (gs : List Nat) (u : World) (v : Value) : Prop := ∃ a c, v = .agg (encV a c m).toArray ∧ IntsAt (fun b => ok b ∧ b ∉ gs) u (.slice a m.words.length c) m.words
theorem apartSt {ok : Nat → Prop} {gs gs' : List Nat} {u u' : World} (hs : StepG gs u gs' u') : ∀ b, ok b ∧ b ∉ gs → b < u.heap.size → ok b ∧ b ∉ gs' := fun b hb hlt => ⟨hb.1, fun hm => (hs.n b hm).elim hb.2 (by omega)⟩
theorem GAgg.st {ok : Nat → Prop} {gs gs' : List Nat} {u u' : World} {v : Value} (h : GAgg ok g gs u v) (hs : StepG gs u gs' u') : GAgg ok g gs' u' v := let ⟨rv, h1, h2, h3⟩ := h; ⟨rv, h1, (h2.mono (apartSt hs)).below hs.b, h3⟩
theorem MAgg.st {ok : Nat → Prop} {m : Msg} {gs gs' : List Nat} {u u' : World} {v : Value} (h : MAgg ok m gs u v) (hs : StepG gs u gs' u') : MAgg ok m gs' u' v := let ⟨a, c, h1, h2⟩ := h; ⟨a, c, h1, (h2.mono (apartSt hs)).below hs.b⟩
theorem ROut.parts {ok : Nat → Prop} {r : Gte × Msg × Int} {gs : List Nat} {u : World} {v : Value} (h : ROut ok r gs u v) : ∃ x y, v = .tuple #[x, y, .int .i64 r.2.2] ∧ GAgg ok r.1 gs u x ∧ MAgg ok r.2.1 gs u y :=
  let ⟨rv', a, c, h1, h2, h3, h4⟩ := h; ⟨_, _, h1, ⟨rv', rfl, h2, h3⟩, ⟨a, c, rfl, h4⟩⟩
def GNewO (n0 : Nat) (k : Chan) (gs : List Nat) (u : World) (v : Value) : Prop := ∃ gb, ∃ M : Nat → Prop, v = .pointer (some ⟨gb, 0, none⟩) ∧ GateM u M gb ⟨k, [], newB k.rate k.cap, 0⟩ ∧ ∀ b, M b → n0 ≤ b ∧ b ∉ gs
theorem GNewO.st {k : Chan} {gs gs' : List Nat} {u u' : World} {v : Value} (h : GNewO n0 k gs u v) (hs : StepG gs u gs' u') : GNewO n0 k gs' u' v := by
  obtain ⟨gb, M, h1, h2, h3⟩ := h
  exact ⟨gb, M, h1, h2.below hs.b, fun b hb => ⟨(h3 b hb).1, fun hm => (hs.n b hm).elim (h3 b hb).2 (fun hle => by have := h2.lt b hb; omega)⟩⟩
theorem gnew_o (k : Chan) {w0 u : World} {gs : List Nat} (hb : Below w0.heap.size w0 u) (hg : Boxes w0 gs u) : Calls Try.prog 15 #[aggC k] u fun e w' => ∃ v, e = .returned v ∧ GNewO w0.heap.size k gs w' v ∧ Below u.heap.size u w' := by
  refine (gnew_c u k).mono ?_
  rintro e w' ⟨gb, rfl, h1, h2⟩
  exact ⟨_, rfl, ⟨gb, _, rfl, h1, fun b hb' => ⟨Nat.le_trans hb.size hb'.1, fun hm => by have := (hg b hm).2; have := hb'.1; omega⟩⟩, h2⟩
theorem Wd.setN {base : Nat} {w0 : World} (h : Wd base w0 w M) {b : Nat} (hb : base ≤ b) (vs : List Value) (o : Nat) : Wd base w0 (setN w b o vs) M :=
  ⟨setN_below b hb vs o w h.below, h.ge, fun c hc => Nat.lt_of_lt_of_le (h.lt c hc) (setN_own b vs o w).size, Nat.le_trans h.le (setN_own b vs o w).size⟩
theorem GateM.setNb (h : GateM w M gb g) {b : Nat} (hb : ¬ M b) (vs : List Value) (o : Nat) : GateM (setN w b o vs) M gb g :=
  h.kept (setN_own b vs o w).size (fun c hc hlt => (setN_own b vs o w).block c hlt (fun e => hb (e ▸ hc)))
theorem RAt.setNb (h : RAt w M rb g rv) {b : Nat} (hb : b ≠ rb) (ho : ∀ c, ¬ M c ∧ c ≠ rb → c < w.heap.size → c ≠ b) (vs : List Value) (o : Nat) : RAt (Gt.setN w b o vs) M rb g rv := ⟨setN_other (fun e => hb e.symm) vs o w h.r, h.nr, h.q.kept (setN_own b vs o w).size (fun c hc hlt => (setN_own b vs o w).block c hlt (ho c hc hlt)), h.pv⟩
theorem offer_le (g : Gte) (mode lane now round : Int) (ws : List Int) : (offerT g mode lane ws now round).1.seq ≤ g.seq + 1 ∧ (offerT g mode lane ws now round).1.ms.length ≤ g.ms.length + 1 := by
  unfold offerT
  split
  · simp only; omega
  · split
    · simp only; omega
    · split
      · simp only; omega
      · simp
theorem RAt.step {M8 : Nat → Prop} (h : RAt w M rb g rv) (hc : Chg M w w') (hM : ∀ b, M8 b → M b ∨ w.heap.size ≤ b) : RAt w' M8 rb g rv :=
  ⟨h.r.chg hc h.nr, fun hx => by rcases hM rb hx with hx | hx; exact h.nr hx; exact (by have := h.r.lt; omega),
    ((h.q.mono (ok' := fun b => (¬ M b ∧ b ≠ rb) ∧ b < w.heap.size) (fun b hb hlt => ⟨hb, hlt⟩)).kept hc.size (fun b hb hlt => hc.block b hlt hb.1.1)).mono (fun b hb _ => ⟨fun hx => by rcases hM b hx with hx | hx; exact hb.1.1 hx; exact (by have := hb.2; omega), hb.1.2⟩), h.pv⟩
theorem Wd.step {base : Nat} {w0 : World} {M8 : Nat → Prop} (h : Wd base w0 w M) (hc : Chg M w w') (hM : ∀ b, M8 b → M b ∨ w.heap.size ≤ b) (hl : ∀ b, M8 b → b < w'.heap.size) : Wd base w0 w' M8 :=
  ⟨(h.chg hc).below, fun b hb => by rcases hM b hb with hx | hx; exact h.ge b hx; exact Nat.le_trans h.le hx, hl, Nat.le_trans h.le hc.size⟩
theorem comeB_self {b : Bk} (h : b.Ok) : comeB b b.round = b := by
  obtain ⟨br, bc, bt, bd⟩ := b
  obtain ⟨h1, h2, h3, h4⟩ := h
  simp only at h1 h2 h3 h4
  have hs : subT bd bd = 0 := by unfold subT; rw [cutT_id h4.1 h4.2]; unfold cutT; omega
  have hm : mulT br 0 = 0 := by unfold mulT; rw [show cutT 0 = 0 by decide, Int.mul_zero]; decide
  unfold comeB
  simp only [hs, hm]
  congr 1
  · unfold addT cutT; omega
  · unfold addT cutT; omega
/-- Another list in the reference's gate. -/
theorem RAt.setL (h : RAt w M rb g rv) {ms' : List Msg} {rv' : Value} (hq : MsgsR (fun b => ¬ M b ∧ b ≠ rb) w rv' (sortM ms')) (hp : Plain rv') : RAt (Gt.setN w rb 11 [.int .i64 (lnT g.k.lanes), .int .i64 (plT g.k.depth), rv']) M rb { g with ms := ms' } rv' :=
  ⟨by have := ((h.r.set 11 (.int .i64 (lnT g.k.lanes))).set 12 (.int .i64 (plT g.k.depth))).set 13 rv'; simpa [Gt.setN, encGt] using this, h.nr, hq.kept (setN_own rb _ 11 w).size (fun b hb hlt => (setN_own rb _ 11 w).block b hlt hb.2), hp⟩
theorem RAt.set0 (h : RAt w M rb g rv) : RAt (w.setCell ⟨rb, 13, none⟩ (.slice none 0 0)) M rb { g with ms := [] } (.slice none 0 0) :=
  ⟨by have := h.r.set 13 (.slice none 0 0); simpa [encGt] using this, h.nr, MsgsR.nil _ _, Plain.nil⟩
theorem filt_snd (f : Msg → Bool) (ps : List (Value × Msg)) : (ps.filter (fun p => f p.2)).map Prod.snd = (ps.map Prod.snd).filter f := by
  rw [List.filter_map]; rfl
end
end Go.Proofs.Ytealopempjempaa.Gt
