/- DERIVED. The reference's Put in short words; the state of a play: lanes and the reference's list side by side. -/
import Derived.Test.YtealopempjempaaRefLaneC
import Derived.Test.YtealopempjempaaLaneI
namespace Go.Proofs.Ytealopempjempaa.Rl
set_option linter.unusedVariables false
set_option linter.unusedSimpArgs false
open Go.RowKit Go.Proofs.Ytealopempjempaa.K Go.Proofs.Ytealopempjempaa.Sp Go.Proofs.Ytealopempjempaa.Lb Go.Proofs.Ytealopempjempaa.So Go.Proofs.Ytealopempjempaa.La
theorem ofM_sort (k : Int) (ms : List Msg) : ofM k (sortM ms) = ofM k ms := sortL_row ms k
theorem room_sort (ln pl k : Int) (ms : List Msg) : roomT ln pl (sortM ms) k = roomT ln pl ms k := by unfold roomT; rw [ofM_sort]
section
variable {w w' : World} {ok okw : Nat → Prop} {ln pl : Int} {v : Value} {ps : List (Value × Msg)} {ms : List Msg} {ma : Option Addr} {mc : Nat} {m : Msg}
def PutAny (w : World) (ok okw : Nat → Prop) (ln pl : Int) (E : Int) (ms' : List Msg) (e : Ending) (w' : World) : Prop :=
  ∃ v' ps', e = .returned (.tuple #[.agg #[.int .i64 ln, .int .i64 pl, v'], .int .i64 E]) ∧ ps'.map Prod.snd = ms' ∧ MsgsAt (orNew ok w) okw w' v' ps' ∧ Plain v' ∧ Below w.heap.size w w'
theorem put_any (h : MsgsAt ok okw w v ps) (hpv : Plain v) (hm : IntsAt okw w (.slice ma m.words.length mc) m.words) (he : ps.map Prod.snd = sortM ms) (hsm : ps.length < 1000) (hl : 1 ≤ ln ∧ ln ≤ 3) (hp : 1 ≤ pl ∧ pl ≤ 8) : Calls Try.prog 59 #[.agg #[.int .i64 ln, .int .i64 pl, v], .agg #[.slice ma m.words.length mc, .int .i64 m.lane, .int .i64 m.stamp, .int .i64 m.late, .int .i64 m.seq]] w (PutAny w ok okw ln pl (putE ln pl ms m) (sortM (putL ln pl ms m))) := by
  have hno : ∀ E e w', PutNo w ln pl v E e w' → PutAny w ok okw ln pl E (sortM ms) e w' := fun E e w' ⟨h1, h2⟩ => ⟨v, ps, h1, he, (h.below h2).mono (fun b h _ => .inl h) (fun b h _ => h), hpv, h2⟩
  by_cases hi : isT ln m.lane = true
  · by_cases hr : roomT ln pl ms m.lane = 0
    · have e1 : putE ln pl ms m = 10 := by unfold putE; rw [if_pos hi, if_pos hr]
      have e2 : putL ln pl ms m = ms := by unfold putL; rw [if_pos hi, if_pos hr]
      rw [e1, e2]
      exact (put_full h hsm hl hp hi (by rw [he, room_sort]; exact hr)).mono (hno 10)
    · have e1 : putE ln pl ms m = 0 := by unfold putE; rw [if_pos hi, if_neg hr]
      have e2 : putL ln pl ms m = ms ++ [m] := by unfold putL; rw [if_pos hi, if_neg hr]
      have e3 : sortM (ms ++ [m]) = insL lane1 m (sortM ms) := sortL_snoc ms m
      rw [e1, e2, e3]
      refine (put_ok h hpv hm (by rw [he]; exact sortL_srt ms) hsm hl hp hi (by rw [he, room_sort]; exact hr)).mono fun e w' ⟨v', ps', h1, h2, h3, h4, h5⟩ => ⟨v', ps', h1, by rw [h2, he], h3.mono (fun b h _ => .inr h) (fun b h _ => h), h4, h5⟩
  · have e1 : putE ln pl ms m = 3 := by unfold putE; rw [if_neg hi]
    have e2 : putL ln pl ms m = ms := by unfold putL; rw [if_neg hi]
    rw [e1, e2]
    exact (put_bad h (by simpa using hi)).mono (hno 3)
end
/-- Lanes and the reference's list: the lanes' blocks are M, the box of the list is rb, its row lies in new blocks, the words in old ones. -/
structure PS (base : Nat) (w0 w : World) (M : Nat → Prop) (lb rb : Nat) (ln pl : Int) (ms : List Msg) (rv : Value) (ps : List (Value × Msg)) : Prop where
  L : LanesM w M lb ln pl ms
  W : Wd base w0 w M
  r : pts w rb [.int .i64 ln, .int .i64 pl, rv] 56
  nr : ¬ M rb
  hr : base ≤ rb
  q : MsgsAt (fun b => base ≤ b ∧ ¬ M b ∧ b ≠ rb) (fun b => b < base) w rv ps
  pv : Plain rv
section
variable {base : Nat} {w0 w w' : World} {M : Nat → Prop} {lb rb : Nat} {ln pl : Int} {ms ms' : List Msg} {rv rv' : Value} {ps ps' : List (Value × Msg)}
theorem PS.next (h : PS base w0 w M lb rb ln pl ms rv ps) (hb : Below w.heap.size w w') : PS base w0 w' M lb rb ln pl ms rv ps :=
  ⟨h.L.below hb, h.W.next hb, h.r.below hb, h.nr, h.hr, h.q.below hb, h.pv⟩
theorem PS.stepL (h : PS base w0 w M lb rb ln pl ms rv ps) (hc : Chg M w w') (hL : LanesM w' (grow M w w') lb ln pl ms') : PS base w0 w' (grow M w w') lb rb ln pl ms' rv ps :=
  ⟨hL, h.W.chg hc, h.r.chg hc h.nr, fun hx => by rcases hx with hx | hx; exact h.nr hx; exact (by have := h.r.lt; omega), h.hr,
    ((h.q.mono (ok' := fun b => (base ≤ b ∧ ¬ M b ∧ b ≠ rb) ∧ b < w.heap.size) (okw' := fun b => b < base) (fun b hb hlt => ⟨hb, hlt⟩) (fun b hb _ => hb)).kept hc.size (fun b hb hlt => hc.block b hlt (fun hm => by rcases hb with hb | hb; exact hb.1.2.1 hm; exact (by have := h.W.ge b hm; omega)))).mono
      (fun b hb _ => ⟨hb.1.1, fun hx => by rcases hx with hx | hx; exact hb.1.2.1 hx; exact (by have := hb.2; have := hx.1; omega), hb.1.2.2⟩) (fun b hb _ => hb), h.pv⟩
theorem PS.fresh {w1 : World} (h : PS base w0 w M lb rb ln pl ms rv ps) (hq : MsgsAt (orNew (fun b => base ≤ b ∧ ¬ M b ∧ b ≠ rb) w) (fun b => b < base) w1 rv' ps') : MsgsAt (fun b => base ≤ b ∧ ¬ M b ∧ b ≠ rb) (fun b => b < base) w1 rv' ps' :=
  hq.mono (fun b hb _ => by
    rcases hb with hb | hb
    · exact hb
    · exact ⟨Nat.le_trans h.W.le hb, fun hm => by have := h.W.lt b hm; omega, fun e => by have := h.r.lt; omega⟩) (fun b hb _ => hb)
def set3 (w : World) (rb : Nat) (ln pl : Int) (rv : Value) : World := ((w.setCell ⟨rb, 0, none⟩ (.int .i64 ln)).setCell ⟨rb, 1, none⟩ (.int .i64 pl)).setCell ⟨rb, 2, none⟩ rv
theorem set3_size (w : World) (rb : Nat) (ln pl : Int) (rv : Value) : (set3 w rb ln pl rv).heap.size = w.heap.size := by simp [set3]
theorem set3_other (w : World) (rb : Nat) (ln pl : Int) (rv : Value) {b : Nat} (hb : b ≠ rb) : (set3 w rb ln pl rv).heap[b]? = w.heap[b]? := by
  unfold set3; rw [Below.heap_setCell _ _ _ _ hb, Below.heap_setCell _ _ _ _ hb, Below.heap_setCell _ _ _ _ hb]
/-- The list is stored into its box. -/
theorem PS.setR (h : PS base w0 w M lb rb ln pl ms rv ps) (hq : MsgsAt (fun b => base ≤ b ∧ ¬ M b ∧ b ≠ rb) (fun b => b < base) w rv' ps') (hp : Plain rv') : PS base w0 (set3 w rb ln pl rv') M lb rb ln pl ms rv' ps' := by
  have hs := set3_size w rb ln pl rv'
  refine ⟨h.L.kept (by rw [hs]; exact Nat.le_refl _) (fun b hb _ => set3_other _ _ _ _ _ (fun e => h.nr (e ▸ hb))), ?_, ?_, h.nr, h.hr, hq.kept (by rw [hs]; exact Nat.le_refl _) (fun b hb _ => set3_other _ _ _ _ _ (fun e => by rcases hb with hb | hb; exact hb.2.2 e; exact (by have := h.hr; omega))), hp⟩
  · exact ⟨((h.W.below.setCell (p := ⟨rb, 0, none⟩) h.hr _).setCell (p := ⟨rb, 1, none⟩) h.hr _).setCell (p := ⟨rb, 2, none⟩) h.hr _, h.W.ge, fun b hb => by rw [hs]; exact h.W.lt b hb, by rw [hs]; exact h.W.le⟩
  · have := ((h.r.set 0 (.int .i64 ln)).set 1 (.int .i64 pl)).set 2 rv'
    simpa [set3] using this
/-- A box made ahead of the call that answers what is stored into it. -/
theorem box_fin {W3 u w5 : World} {nb : Nat} {T : TypeId} {cs : List Value} (hl : cs.length = 3) (hn : pts w5 nb cs T) (hq : MsgsAt (orNew (fun b => (base ≤ b ∧ ¬ M b ∧ b ≠ rb) ∧ b < W3.heap.size) u) (fun b => b < base) w5 rv' ps')
    (hX : W3.heap.size ≤ nb ∧ ∀ b, orNew (fun b => (base ≤ b ∧ ¬ M b ∧ b ≠ rb) ∧ b < W3.heap.size) u b → b ≠ nb ∧ orNew (fun b => base ≤ b ∧ ¬ M b ∧ b ≠ rb) W3 b) (hbs : base ≤ W3.heap.size) (hb : Below W3.heap.size W3 w5) :
    pts (set3 w5 nb ln pl rv') nb [.int .i64 ln, .int .i64 pl, rv'] T ∧ MsgsAt (orNew (fun b => base ≤ b ∧ ¬ M b ∧ b ≠ rb) W3) (fun b => b < base) (set3 w5 nb ln pl rv') rv' ps' ∧ Below W3.heap.size W3 (set3 w5 nb ln pl rv') := by
  refine ⟨?_, ?_, ?_⟩
  · obtain ⟨x, y, z, rfl⟩ : ∃ x y z, cs = [x, y, z] := by
      rcases cs with _ | ⟨x, _ | ⟨y, _ | ⟨z, _ | ⟨t, r⟩⟩⟩⟩ <;> simp at hl
      exact ⟨x, y, z, rfl⟩
    have := ((hn.set 0 (.int .i64 ln)).set 1 (.int .i64 pl)).set 2 rv'
    simpa [set3] using this
  · have h1 := hq.mono (ok' := fun b => b ≠ nb ∧ orNew (fun b => base ≤ b ∧ ¬ M b ∧ b ≠ rb) W3 b) (okw' := fun b => b < base) (fun b h _ => hX.2 b h) (fun b h _ => h)
    have h2 := h1.kept (w' := set3 w5 nb ln pl rv') (by rw [set3_size]; exact Nat.le_refl _) (fun b hb _ => set3_other _ _ _ _ _ (by rcases hb with hb | hb; exact hb.1; exact (by have := hX.1; omega)))
    exact h2.mono (fun b h _ => h.2) (fun b h _ => h)
  · exact ((hb.setCell (p := ⟨nb, 0, none⟩) hX.1 _).setCell (p := ⟨nb, 1, none⟩) hX.1 _).setCell (p := ⟨nb, 2, none⟩) hX.1 _
end
end Go.Proofs.Ytealopempjempaa.Rl
