/- DERIVED. The walks over the router: put, Step. No statement is proved here. -/
import Derived.Test.YtggfallodkbgcaaGateF
import Derived.Test.YtggfallodkbgcaaQueueX
import Derived.Test.YtggfallodkbgcaaSetN
namespace Go.Proofs.Ytggfallodkbgcaa.Ro
set_option linter.unusedVariables false
set_option linter.unusedSimpArgs false
open Go.RowKit Go.Proofs.Ytggfallodkbgcaa.K Go.Proofs.Ytggfallodkbgcaa.Lb Go.Proofs.Ytggfallodkbgcaa.La Go.Proofs.Ytggfallodkbgcaa.Cf Go.Proofs.Ytggfallodkbgcaa.Gt Go.Proofs.Ytggfallodkbgcaa.Qu
/-- A gate and a port, apart: M bounds what may be written, words lie in W. -/
def RS (w : World) (M W : Nat → Prop) (gb pb : Nat) (g : Gte) (p : Prt) : Prop :=
  ∃ Mg Mp, GateF w Mg W gb g ∧ PortF w Mp W pb p ∧ (∀ b, Mg b → ¬ Mp b) ∧ (∀ b, Mg b → M b) ∧ (∀ b, Mp b → M b) ∧ (∀ b, M b → b < w.heap.size) ∧ ∀ b, M b → ¬ W b
section
variable {w w' w1 : World} {M W Mg Mp : Nat → Prop} {gb pb : Nat} {g g' : Gte} {p p' : Prt}
theorem RS.lt (h : RS w M W gb pb g p) : ∀ b, M b ∨ W b → b < w.heap.size := let ⟨_, _, h1, _, _, _, _, h2, _⟩ := h; fun b hb => hb.elim (h2 b) (fun h => h1.lt b (.inr h))
theorem RS.ne (h : RS w M W gb pb g p) : ∀ b, M b → ¬ W b := let ⟨_, _, _, _, _, _, _, _, h⟩ := h; h
theorem RS.kept (h : RS w M W gb pb g p) (hs : w.heap.size ≤ w'.heap.size) (hk : ∀ b, M b ∨ W b → b < w.heap.size → w'.heap[b]? = w.heap[b]?) : RS w' M W gb pb g p := by
  obtain ⟨Mg, Mp, hG, hP, hd, h1, h2, h3, h4⟩ := h
  exact ⟨Mg, Mp, hG.kept hs (fun b hb hlt => hk b (hb.imp (h1 b) id) hlt), hP.kept hs (fun b hb hlt => hk b (hb.imp (h2 b) id) hlt), hd, h1, h2, fun b hb => Nat.lt_of_lt_of_le (h3 b hb) hs, h4⟩
theorem RS.below (h : RS w M W gb pb g p) (hb : Below w.heap.size w w') : RS w' M W gb pb g p := h.kept hb.size (fun b _ hlt => hb.block b hlt)
theorem RS.chg {N : Nat → Prop} (h : RS w M W gb pb g p) (hc : Chg N w w') (hN : ∀ b, N b → ¬ M b ∧ ¬ W b) : RS w' M W gb pb g p :=
  h.kept hc.size (fun b hb hlt => hc.block b hlt (fun hn => hb.elim (hN b hn).1 (hN b hn).2))
/-- The gate turned. -/
theorem RS.stepG {Mg' W' : Nat → Prop} (hG : GateF w Mg W gb g) (hP : PortF w Mp W pb p) (hd : ∀ b, Mg b → ¬ Mp b) (h1 : ∀ b, Mg b → M b) (h2 : ∀ b, Mp b → M b) (h3 : ∀ b, M b → b < w.heap.size) (h4 : ∀ b, M b → ¬ W b) (hG' : GateF w' Mg' W' gb g') (hs : ∀ b, Mg' b → Mg b ∨ w.heap.size ≤ b) (hWW : ∀ b, W b → W' b) (hWn : ∀ b, W' b → W b ∨ w.heap.size ≤ b) (hC : Chg Mg w w') :
    PortF w' Mp W' pb p ∧ (∀ b, Mg' b → ¬ Mp b) ∧ RS w' (fun b => M b ∨ Mg' b) W' gb pb g' p ∧ (∀ b, (M b ∨ Mg' b) → M b ∨ w.heap.size ≤ b) ∧ Chg M w w' := by
  have hz := hC.size
  have hP1 := (hP.chg hC (fun b hb => ⟨hd b hb, hG.ne b hb⟩)).monoW hWW (fun b hb => hG'.lt b (.inr hb)) (fun b hb hw => by rcases hWn b hw with h | h; exact hP.ne b hb h; exact (by have := hP.lt b (.inl hb); omega))
  have hd1 : ∀ b, Mg' b → ¬ Mp b := fun b hb hp => by rcases hs b hb with h | h; exact hd b h hp; exact (by have := hP.lt b (.inl hp); omega)
  refine ⟨hP1, hd1, ⟨Mg', Mp, hG', hP1, hd1, fun b hb => .inr hb, fun b hb => .inl (h2 b hb), fun b hb => ?_, fun b hb hw => ?_⟩, fun b hb => hb.elim .inl (fun h => (hs b h).imp (h1 b) id), hC.mono h1⟩
  · rcases hb with hb | hb
    · have := h3 b hb; omega
    · exact hG'.lt b (.inl hb)
  · rcases hb with hb | hb
    · rcases hWn b hw with h | h
      · exact h4 b hb h
      · have := h3 b hb; omega
    · exact hG'.ne b hb hw
/-- The port turned. -/
theorem RS.stepP {Mp' W' : Nat → Prop} (hG : GateF w Mg W gb g) (hP : PortF w Mp W pb p) (hd : ∀ b, Mg b → ¬ Mp b) (h1 : ∀ b, Mg b → M b) (h2 : ∀ b, Mp b → M b) (h3 : ∀ b, M b → b < w.heap.size) (h4 : ∀ b, M b → ¬ W b) (hP' : PortF w' Mp' W' pb p') (hs : ∀ b, Mp' b → Mp b ∨ w.heap.size ≤ b) (hWW : ∀ b, W b → W' b) (hWn : ∀ b, W' b → W b ∨ w.heap.size ≤ b) (hC : Chg Mp w w') :
    RS w' (fun b => M b ∨ Mp' b) W' gb pb g p' ∧ (∀ b, (M b ∨ Mp' b) → M b ∨ w.heap.size ≤ b) ∧ Chg M w w' := by
  have hz := hC.size
  have hG1 := (hG.chg hC (fun b hb => ⟨fun h => hd b h hb, hP.ne b hb⟩)).monoW hWW (fun b hb => hP'.lt b (.inr hb)) (fun b hb hw => by rcases hWn b hw with h | h; exact hG.ne b hb h; exact (by have := hG.lt b (.inl hb); omega))
  have hd1 : ∀ b, Mg b → ¬ Mp' b := fun b hb hp => by rcases hs b hp with h | h; exact hd b hb h; exact (by have := hG.lt b (.inl hb); omega)
  refine ⟨⟨Mg, Mp', hG1, hP', hd1, fun b hb => .inl (h1 b hb), fun b hb => .inr hb, fun b hb => ?_, fun b hb hw => ?_⟩, fun b hb => hb.elim .inl (fun h => (hs b h).imp (h2 b) id), hC.mono h2⟩
  · rcases hb with hb | hb
    · have := h3 b hb; omega
    · exact hP'.lt b (.inl hb)
  · rcases hb with hb | hb
    · rcases hWn b hw with h | h
      · exact h4 b hb h
      · have := h3 b hb; omega
    · exact hP'.ne b hb hw
theorem newW_sub {M' : Nat → Prop} : ∀ b, newW W M' w w' b → W b ∨ w.heap.size ≤ b := fun b hb => hb.imp id (fun h => h.1)
/-- What put says of a message. -/
def kindP (r : Prt × Int × Bool × Int) : Int := if r.2.2.2 = 0 then (if r.2.2.1 then 2 else 1) else 3
theorem putP_err (p : Prt) (m : Msg) : ((putP p m).2.2.1 = true ∧ (putP p m).2.2.2 = 0) ∨ ((putP p m).2.2.1 = false ∧ ((putP p m).2.2.2 = 0 ∨ (putP p m).2.2.2 = 10)) := by
  unfold putP
  split
  · exact .inl ⟨rfl, rfl⟩
  · split
    · exact .inr ⟨rfl, .inr rfl⟩
    · exact .inr ⟨rfl, .inl rfl⟩
/-- A port behind put: its message came in a box that put made. -/
def PutR (w : World) (Mp W : Nat → Prop) (pb : Nat) (p : Prt) (m : Msg) (e : Ending) (w' : World) : Prop :=
  e = .returned (.tuple #[.int .i64 (kindP (putP p m)), .int .i64 (putP p m).2.1]) ∧ ∃ Mp' W', PortF w' Mp' W' pb (putP p m).1 ∧ (∀ b, Mp' b → Mp b ∨ w.heap.size ≤ b) ∧ (∀ b, W b → W' b) ∧ (∀ b, W' b → W b ∨ w.heap.size ≤ b) ∧ Chg Mp w w'
set_option maxHeartbeats 1000000 in
theorem rput_c (h : PortF w Mp W pb p) {m : Msg} {ok : Nat → Prop} {a : Option Addr} {c : Nat} (hi : IntsAt ok w (.slice a m.words.length c) m.words) (hwl : m.words.length ≤ 17592186044416) :
    Calls Try.prog 38 #[.pointer (some ⟨pb, 0, none⟩), .agg #[.slice a m.words.length c, .int .i64 m.lane, .int .i64 m.stamp, .int .i64 m.late, .int .i64 m.seq]] w (PutR w Mp W pb p m) := by
  have hb0 := (Below.refl w.heap.size w).alloc (Nat.le_refl _) (.cells #[.slice a m.words.length c, .int .i64 m.lane, .int .i64 m.stamp, .int .i64 m.late, .int .i64 m.seq] 37)
  have hpt := hid (put_x (h.below hb0) (hi.below hb0) hwl)
  have hfin := hid (fun (w' : World) (hs : StepP (w.alloc (.cells #[.slice a m.words.length c, .int .i64 m.lane, .int .i64 m.stamp, .int .i64 m.late, .int .i64 m.seq] 37)) Mp W pb (putP p m).1 w') => show ∃ Mp' W', PortF w' Mp' W' pb (putP p m).1 ∧ (∀ b, Mp' b → Mp b ∨ w.heap.size ≤ b) ∧ (∀ b, W b → W' b) ∧ (∀ b, W' b → W b ∨ w.heap.size ≤ b) ∧ Chg Mp w w' from by
    obtain ⟨M', h1, h2, h3, h4⟩ := hs
    exact ⟨M', _, h1, fun b hb => (h2 b hb).imp id (fun h => by simp at h; omega), fun b hb => .inl hb, fun b hb => (newW_sub b hb).imp id (fun h => by simp at h; omega), (Chg.of_below hb0).trans h4 (fun i hi => .inl hi)⟩)
  have herr := putP_err p m
  unfold PutX at hpt
  unfold PutR kindP
  generalize putP p m = R at hpt hfin herr ⊢
  obtain ⟨p', who, has, err⟩ := R
  simp only at hpt hfin herr ⊢
  clear hb0 h hi
  obtain ⟨kd, hkd⟩ : ∃ kd : Int, kd = (if err = 0 then (if has = true then 2 else 1) else 3) := ⟨_, rfl⟩
  rw [← hkd]
  rcases herr with ⟨rfl, rfl⟩ | ⟨rfl, rfl | rfl⟩
  all_goals replace hkd := hid hkd
  all_goals go_enter Try.func38, Try.ntmps38
  all_goals go_wp2_with (first | (go_at_call 59; (with_reducible refine (hpt.out).mono ?_); rintro e w1 ⟨rfl, hs1⟩; replace hs1 := hid hs1))
  all_goals refine bodyPost_ret (v := .tuple #[.int .i64 kd, .int .i64 who]) (by simp [results, Try.results38, go_sem, hkd.out]) rfl ⟨rfl, hfin.out _ hs1.out⟩
/-- Gate and port anew behind a step. -/
theorem RS.fin {W' : Nat → Prop} (hl : ∀ b, M b ∨ W b → b < w.heap.size) (hdW : ∀ b, M b → ¬ W b) (hG : GateF w' Mg W' gb g') (hP : PortF w' Mp W' pb p') (hMg : ∀ b, Mg b → M b ∨ w.heap.size ≤ b) (hMp : ∀ b, Mp b → M b ∨ w.heap.size ≤ b) (hd : ∀ b, Mg b → ¬ Mp b) (hWW : ∀ b, W b → W' b) (hWn : ∀ b, W' b → W b ∨ w.heap.size ≤ b) (hC : Chg M w w') :
    RS w' (fun b => M b ∨ Mg b ∨ Mp b) W' gb pb g' p' ∧ (∀ b, (M b ∨ Mg b ∨ Mp b) → M b ∨ w.heap.size ≤ b) ∧ (∀ b, M b → (M b ∨ Mg b ∨ Mp b)) ∧ (∀ b, W b → W' b) ∧ (∀ b, W' b → W b ∨ w.heap.size ≤ b) ∧ Chg M w w' := by
  have hz := hC.size
  refine ⟨⟨Mg, Mp, hG, hP, hd, fun b hb => .inr (.inl hb), fun b hb => .inr (.inr hb), fun b hb => ?_, fun b hb hw => ?_⟩, fun b hb => ?_, fun b hb => .inl hb, hWW, hWn, hC⟩
  · rcases hb with hb | hb | hb
    · have := hl b (.inl hb); omega
    · exact hG.lt b (.inl hb)
    · exact hP.lt b (.inl hb)
  · rcases hb with hb | hb | hb
    · rcases hWn b hw with h | h
      · exact hdW b hb h
      · have := hl b (.inl hb); omega
    · exact hG.ne b hb hw
    · exact hP.ne b hb hw
  · rcases hb with hb | hb | hb
    · exact .inl hb
    · exact hMg b hb
    · exact hMp b hb
/-- What stays of a gate's messages at a tick, and what doesn't. -/
def restT (now : Int) (ms : List Msg) : List Msg := (sortM ms).filter (fun m => !lateT now m.late)
def outT (now : Int) (ms : List Msg) : List Msg := (sortM ms).filter (fun m => lateT now m.late)
/-- A step: the gate, the port, what it did, the process, the message. -/
def stepR (g : Gte) (p : Prt) (now : Int) : Gte × Prt × Int × Int × Msg :=
  match restT now g.ms with
  | [] => ({ g with ms := [] }, p, 0, 0, La.zeroM)
  | m :: r => ({ g with ms := r }, (putP p m).1, kindP (putP p m), (putP p m).2.1, m)
def StepRP (w : World) (M W : Nat → Prop) (gb pb : Nat) (out : List Msg) (R : Gte × Prt × Int × Int × Msg) (e : Ending) (w' : World) : Prop :=
  ∃ lv qs a c M' W', e = .returned (.agg #[.int .i64 R.2.2.1, .int .i64 R.2.2.2.1, .slice a R.2.2.2.2.words.length c, .int .i64 R.2.2.2.2.lane, .int .i64 R.2.2.2.2.stamp, .int .i64 R.2.2.2.2.late, .int .i64 R.2.2.2.2.seq, lv]) ∧ IntsAt W' w' (.slice a R.2.2.2.2.words.length c) R.2.2.2.2.words ∧ qs.map Prod.snd = out ∧ w'.ownsRow w.heap.size 37 5 lv qs.length (flat encM qs) ∧ WordsIn W' w' qs ∧ (∀ b, lv.ownBlock = some b → ¬ M' b ∧ ¬ W' b) ∧
    RS w' M' W' gb pb R.1 R.2.1 ∧ (∀ b, M' b → M b ∨ w.heap.size ≤ b) ∧ (∀ b, M b → M' b) ∧ (∀ b, W b → W' b) ∧ (∀ b, W' b → W b ∨ w.heap.size ≤ b) ∧ Chg M w w'
/-- What a step told and left, when its answer is stored. -/
theorem stepFin {w0 wX : World} {Mg1 W' N0 : Nat → Prop} {r0 : Nat} {out : List Msg} {qs : List (Value × Msg)} {va : Option Addr} {vc : Nat} {kd who : Int} {m : Msg} {a : Option Addr} {c : Nat} (cs : List Value)
    (hcs : cs = [.int .i64 kd, .int .i64 who, .slice a m.words.length c, .int .i64 m.lane, .int .i64 m.stamp, .int .i64 m.late, .int .i64 m.seq, .slice va qs.length vc])
    (hRl : ∀ b, M b ∨ W b → b < w.heap.size) (h4 : ∀ b, M b → ¬ W b) (hr0 : r0 = w.heap.size) (hs0 : w.heap.size < w0.heap.size) (hs01 : w0.heap.size ≤ w1.heap.size)
    (hG : GateF wX Mg W' gb g') (hP : PortF wX Mp W' pb p') (hM2 : ∀ b, Mg b → Mg1 b ∨ w1.heap.size < b) (hg1 : ∀ b, Mg1 b → (M b ∨ w0.heap.size ≤ b) ∧ b < w1.heap.size) (hMp : ∀ b, Mp b → M b ∨ w1.heap.size < b) (hd : ∀ b, Mg b → ¬ Mp b)
    (hWW : ∀ b, W b → W' b) (hWn : ∀ b, W' b → W b ∨ w1.heap.size < b) (hC : Chg M w wX) (hCT : Chg N0 w1 wX) (hN0 : ∀ b, N0 b → Mg1 b ∨ M b ∨ b = r0) (hn0 : ¬ Mg1 r0)
    (hq : qs.map Prod.snd = out) (ho : w1.ownsRow w0.heap.size 37 5 (.slice va qs.length vc) qs.length (flat encM qs)) (hws : WordsIn W w1 qs) (hn : ∀ b, (Value.slice va qs.length vc).ownBlock = some b → ¬ Mg1 b) (hi : IntsAt W' wX (.slice a m.words.length c) m.words) :
    StepRP w M W gb pb out (g', p', kd, who, m) (.returned (.agg #[.int .i64 kd, .int .i64 who, .slice a m.words.length c, .int .i64 m.lane, .int .i64 m.stamp, .int .i64 m.late, .int .i64 m.seq, .slice va qs.length vc])) (setN wX r0 0 cs) := by
  have hso := setN_own r0 cs 0 wX
  have hCF : Chg M w (setN wX r0 0 cs) := hC.trans hso (fun i hi => .inr (by have hi : i = r0 := hi; omega))
  have hCF2 : Chg (fun b => Mg1 b ∨ M b ∨ b = r0) w1 (setN wX r0 0 cs) := (hCT.mono hN0).trans hso (fun i hi => .inl (.inr (.inr hi)))
  have hrM : ¬ M r0 := fun h => by have := hRl _ (.inl h); omega
  have hrW : ¬ W r0 := fun h => by have := hRl _ (.inr h); omega
  have hrg : ¬ Mg r0 := fun h => by rcases hM2 _ h with h | h; exact hn0 h; exact (by omega)
  have hrp : ¬ Mp r0 := fun h => by rcases hMp _ h with h | h; exact hrM h; exact (by omega)
  have hrW' : ¬ W' r0 := fun h => by rcases hWn _ h with h | h; exact hrW h; exact (by omega)
  have hGF := hG.kept (w' := setN wX r0 0 cs) hso.size (fun b hb hlt => hso.block b hlt (fun e => by have e : b = r0 := e; subst e; exact hb.elim hrg hrW'))
  have hPF := hP.kept (w' := setN wX r0 0 cs) hso.size (fun b hb hlt => hso.block b hlt (fun e => by have e : b = r0 := e; subst e; exact hb.elim hrp hrW'))
  have hfin := RS.fin (w := w) (M := M) hRl h4 hGF hPF (fun b hb => (hM2 b hb).elim (fun h => (hg1 b h).1.imp id (fun h => by omega)) (fun h => .inr (by omega))) (fun b hb => (hMp b hb).imp id (fun h => by omega)) hd hWW (fun b hb => (hWn b hb).imp id (fun h => by omega)) hCF
  have hvg : ∀ b, (Value.slice va qs.length vc).ownBlock = some b → w0.heap.size ≤ b ∧ b < w1.heap.size := fun b e => ⟨own_block_ge ho b e, K.own_lt ho e⟩
  have hvk : ∀ b, (Value.slice va qs.length vc).ownBlock = some b → ¬ (Mg1 b ∨ M b ∨ b = r0) := fun b e hb => by
    have hv := hvg b e
    rcases hb with hb | hb | hb
    · exact hn b e hb
    · have := hRl b (.inl hb); omega
    · omega
  have hoF := K.own_mono (K.own_of ho (fun b e => hCF2.block b (hvg b e).2 (hvk b e))) (Nat.le_of_lt hs0)
  have hwF : WordsIn W' (setN wX r0 0 cs) qs := (hws.kept hCF2.size (fun b hb hlt => hCF2.block b hlt (fun h => by
    rcases h with h | h | h
    · rcases (hg1 b h).1 with h5 | h5
      · exact h4 b h5 hb
      · have := hRl b (.inr hb); omega
    · exact h4 b h hb
    · subst h; exact hrW hb))).mono (fun b hb _ => hWW b hb)
  refine ⟨_, qs, a, c, _, W', rfl, ?_, hq, hoF, hwF, fun b e => ⟨fun hm => ?_, fun hw => ?_⟩, hfin⟩
  · exact hi.kept hso.size (fun b hb hlt => hso.block b hlt (fun e => by have e : b = r0 := e; subst e; exact hrW' hb))
  · have hv := hvg b e
    rcases hm with hm | hm | hm
    · have := hRl b (.inl hm); omega
    · rcases hM2 b hm with h | h
      · exact hn b e h
      · omega
    · rcases hMp b hm with h | h
      · have := hRl b (.inl h); omega
      · omega
  · have hv := hvg b e
    rcases hWn b hw with h | h
    · have := hRl b (.inr h); omega
    · omega
set_option maxHeartbeats 2000000 in
theorem rstep_c (h : RS w M W gb pb g p) (now : Int) : Calls Try.prog 15 #[.pointer (some ⟨gb, 0, none⟩), .pointer (some ⟨pb, 0, none⟩), .int .i64 now] w (StepRP w M W gb pb (outT now g.ms) (stepR g p now)) := by
  have hb0 := hid ((Below.refl w.heap.size w).alloc (Nat.le_refl _) (.cells #[.int .i64 0, .int .i64 0, .slice none 0 0, .int .i64 0, .int .i64 0, .int .i64 0, .int .i64 0, .slice none 0 0] 44))
  have hz := hid (pts.newA w #[.int .i64 0, .int .i64 0, .slice none 0 0, .int .i64 0, .int .i64 0, .int .i64 0, .int .i64 0, .slice none 0 0] 44)
  have h0 := hid (h.below hb0.out)
  have hRl := hid h.lt
  clear h
  have hsw := hid (fun (u : World) (Mg : Nat → Prop) (h : GateF u Mg W gb g) => show Calls Try.prog 36 #[.pointer (some ⟨gb, 0, none⟩), .int .i64 now] u (GOutF u Mg W gb g (outT now g.ms) (restT now g.ms)) from gsweep_f h now)
  have htk := hid (fun (u : World) (Mx : Nat → Prop) (h : GateF u Mx W gb { g with ms := restT now g.ms }) => show Calls Try.prog 37 #[.pointer (some ⟨gb, 0, none⟩)] u (fun e w' => HandAny W (restT now g.ms) e w' ∧ ∃ M', GateF w' M' W gb { g with ms := (restT now g.ms).tail } ∧ (∀ b, M' b → Mx b ∨ u.heap.size ≤ b) ∧ (∀ b, Mx b → M' b) ∧ Chg Mx u w') from by
    have := gtake_f h
    unfold GTakeF at this
    simp only at this
    rw [show sortM (restT now g.ms) = restT now g.ms from sortM_filter _ _] at this
    exact this)
  have hinv := hid (show ∀ m ∈ restT now g.ms, m.words.length ≤ 17592186044416 from fun m hm => by obtain ⟨_, _, hG, _⟩ := h0.out; exact hG.inv.sort.short m (List.mem_filter.1 hm).1)
  obtain ⟨R, hR⟩ : ∃ R, R = stepR g p now := ⟨_, rfl⟩
  rw [← hR]
  unfold stepR at hR
  generalize hS : restT now g.ms = S at hsw htk hR hinv
  have hSw := hid hS
  clear hS
  replace hR := hid hR
  go_enter Try.func15, Try.ntmps15
  go_upto_region 1 with fail
  generalize w.alloc (.cells #[.int .i64 0, .int .i64 0, .slice none 0 0, .int .i64 0, .int .i64 0, .int .i64 0, .int .i64 0, .slice none 0 0] 44) = w0 at hb0 hz h0 ⊢
  obtain ⟨r0, hr0⟩ : ∃ r0, r0 = w.heap.size := ⟨_, rfl⟩
  rw [← hr0] at hz ⊢
  replace hr0 := hid hr0
  obtain ⟨Mg, Mp, hG, hP, hd, h1, h2, h3, h4⟩ := h0.out
  replace hG := hid hG
  replace hP := hid hP
  clear h0
  go_upto_region 2 with (first | (go_at_call 36; (with_reducible refine (hsw.out _ _ hG.out).mono ?_); rintro e w1 ⟨v, qs, Mg1, rfl, hq, ho, hws, hn, hG1, hs1, hsM1, hC1⟩; obtain ⟨va, vc, rfl⟩ := K.own_shape ho))
  have hbA := (Below.refl w1.heap.size w1).alloc (Nat.le_refl _) (.cells #[.int .i64 0, .int .i64 0, .slice none 0 0, .int .i64 0, .int .i64 0, .int .i64 0, .int .i64 0, .slice va qs.length vc] 44)
  have hpA := hid (pts.newA w1 #[.int .i64 0, .int .i64 0, .slice none 0 0, .int .i64 0, .int .i64 0, .int .i64 0, .int .i64 0, .slice va qs.length vc] 44)
  obtain ⟨hP1, hd1, -, -, -⟩ := RS.stepG hG.out hP.out hd h1 h2 h3 h4 hG1 hs1 (fun b h => h) (fun b h => .inl h) hC1
  have hzA := hid (hz.out.chg hC1 (fun hm => by have := hRl.out _ (.inl (h1 _ hm)); rw [hr0.out] at this; omega))
  have hCA := hid (((Chg.of_below (M := M) hb0.out).trans hC1 (fun i hi => .inl (h1 i hi))).below hbA)
  have hGA := hid (hG1.below hbA)
  have hPA := hid (hP1.below hbA)
  have hMpl := hid (show ∀ b, Mp b → b < w.heap.size from fun b hb => hRl.out b (.inl (h2 b hb)))
  have hs0 := hid (show w.heap.size < w0.heap.size from by have := hz.out.lt; have := hr0.out; omega)
  have hs01 := hid (show w0.heap.size ≤ w1.heap.size from hC1.size)
  have hg1 := hid (show ∀ b, Mg1 b → (M b ∨ w0.heap.size ≤ b) ∧ b < w1.heap.size from fun b hb => ⟨(hs1 b hb).imp (h1 b) id, hG1.lt b (.inl hb)⟩)
  have hW1 := hid (show ∀ b, W b → b < w.heap.size from fun b hb => hRl.out b (.inr hb))
  have hvg := hid (show ∀ b, (Value.slice va qs.length vc).ownBlock = some b → w0.heap.size ≤ b ∧ b < w1.heap.size from fun b e => ⟨own_block_ge ho b e, K.own_lt ho e⟩)
  replace h1 := hid h1
  replace h2 := hid h2
  replace h3 := hid h3
  replace h4 := hid h4
  replace hs1 := hid hs1
  replace hd1 := hid hd1
  replace hn := hid hn
  replace ho := hid ho
  replace hws := hid hws
  have hCT := hid ((Chg.refl (fun b => Mg1 b ∨ Mp b ∨ b = r0) w1).below hbA)
  clear hG hP hd hG1 hP1 hC1 hz hb0 hsM1 hbA hsw
  have hzAs := hid (show (w1.alloc (.cells #[.int .i64 0, .int .i64 0, .slice none 0 0, .int .i64 0, .int .i64 0, .int .i64 0, .int .i64 0, .slice va qs.length vc] 44)).heap.size = w1.heap.size + 1 from by simp)
  have hzA' := hid (hzA.out.alloc (.cells #[.int .i64 0, .int .i64 0, .slice none 0 0, .int .i64 0, .int .i64 0, .int .i64 0, .int .i64 0, .slice va qs.length vc] 44))
  clear hzA
  generalize w1.alloc (.cells #[.int .i64 0, .int .i64 0, .slice none 0 0, .int .i64 0, .int .i64 0, .int .i64 0, .int .i64 0, .slice va qs.length vc] 44) = wA at hpA hzA' hCA hGA hPA hCT hzAs ⊢
  obtain ⟨r1, hr1⟩ : ∃ r1, r1 = w1.heap.size := ⟨_, rfl⟩
  rw [← hr1] at hpA ⊢
  replace hr1 := hid hr1
  go_upto_if 19 with (first | (go_at_call 37; (with_reducible refine (htk.out _ _ hGA.out).mono ?_); rintro e w2 ⟨⟨a, c, rfl, hi2⟩, Mg2, hG2, hs2, hsM2, hC2⟩))
  have hbB := (Below.refl w2.heap.size w2).alloc (Nat.le_refl _) (.cells #[.slice a (hdM S).words.length c, .int .i64 (hdM S).lane, .int .i64 (hdM S).stamp, .int .i64 (hdM S).late, .int .i64 (hdM S).seq] 37)
  have hpB := hid (pts.newA w2 #[.slice a (hdM S).words.length c, .int .i64 (hdM S).lane, .int .i64 (hdM S).stamp, .int .i64 (hdM S).late, .int .i64 (hdM S).seq] 37)
  have hn0 : ¬ Mg1 r0 := fun hm => by have := hg1.out _ hm; rcases this.1 with h | h; exact (by have := hRl.out _ (.inl h); have := hr0.out; omega); exact (by have := hs0.out; have := hr0.out; omega)
  have hn1 : ¬ Mg1 r1 := fun hm => by have := (hg1.out _ hm).2; have := hr1.out; omega
  have hz2 := hid ((hzA'.out.chg hC2 hn0).below hbB)
  have hr2 := hid ((hpA.out.chg hC2 hn1).below hbB)
  have hG3 := hid (hG2.below hbB)
  have hP2 := hid (((hPA.out.chg hC2 (fun b hb => ⟨hd1.out b hb, hGA.out.ne b hb⟩))).below hbB)
  have hi3 := hid (hi2.below hbB)
  have hC3 := hid ((hCA.out.trans hC2 (fun i hi => (hg1.out i hi).1.imp id (fun h => by have := hs0.out; omega))).below hbB)
  have hCT2 := hid ((hCT.out.trans hC2 (fun i hi => .inl (.inl hi))).below hbB)
  have hs2' := hid (show ∀ b, Mg2 b → Mg1 b ∨ w1.heap.size < b from fun b hb => (hs2 b hb).imp id (fun h => by have := hzAs.out; omega))
  have hd2 := hid (show ∀ b, Mg2 b → ¬ Mp b from fun b hb hp => by rcases hs2 b hb with h | h; exact hd1.out b h hp; exact (by have := hMpl.out b hp; have := hs0.out; have := hs01.out; have := hzAs.out; omega))
  have hw12 := hid (show w1.heap.size < w2.heap.size from by have := hC2.size; have := hzAs.out; omega)
  clear hbB hC2 hG2 hs2 hsM2 hi2 hGA hPA hzA' hpA hCA hCT
  generalize w2.alloc (.cells #[.slice a (hdM S).words.length c, .int .i64 (hdM S).lane, .int .i64 (hdM S).stamp, .int .i64 (hdM S).late, .int .i64 (hdM S).seq] 37) = wB at hpB hz2 hr2 hG3 hP2 hi3 hC3 hCT2 ⊢
  obtain ⟨r2, hr2e⟩ : ∃ r2, r2 = w2.heap.size := ⟨_, rfl⟩
  rw [← hr2e] at hpB ⊢
  replace hr2e := hid hr2e
  cases S with
  | nil =>
    have hRe : R = ({ g with ms := [] }, p, 0, 0, La.zeroM) := hR.out
    go_upto_region 6 with fail
    refine wp_region_lit ?_
    refine lLoad (cs := [.int .i64 0, .int .i64 0, .slice none 0 0, .int .i64 0, .int .i64 0, .int .i64 0, .int .i64 0, .slice va qs.length vc]) rfl rfl rfl hr2.out Try.underlying44 rfl (by kernel_rfl) ?_
    refine lStore (cs := [.int .i64 0, .int .i64 0, .slice none 0 0, .int .i64 0, .int .i64 0, .int .i64 0, .int .i64 0, .slice va qs.length vc]) rfl rfl rfl rfl hz2.out rfl (by kernel_rfl) rfl ?_
    have hzF := setN_pts0 hz2.out [.int .i64 0, .int .i64 0, .slice none 0 0, .int .i64 0, .int .i64 0, .int .i64 0, .int .i64 0, .slice va qs.length vc] rfl
    have hF := hid (stepFin (w1 := w1) (w0 := w0) (out := outT now g.ms) (kd := 0) (who := 0) (m := La.zeroM) (a := none) (c := 0) [.int .i64 0, .int .i64 0, .slice none 0 0, .int .i64 0, .int .i64 0, .int .i64 0, .int .i64 0, .slice va qs.length vc] rfl hRl.out h4.out hr0.out hs0.out hs01.out hG3.out hP2.out hs2'.out hg1.out (fun b hb => .inl (h2.out b hb)) hd2.out (fun b h => h) (fun b h => .inl h) hC3.out hCT2.out (fun b hb => hb.imp id (fun h => h.imp (h2.out b) id)) hn0 hq ho.out hws.out hn.out (IntsAt.nil _ _))
    generalize setN wB r0 0 [.int .i64 0, .int .i64 0, .slice none 0 0, .int .i64 0, .int .i64 0, .int .i64 0, .int .i64 0, .slice va qs.length vc] = wF at hzF hF ⊢
    have y0 := hzF.cell 0
    have y1 := hzF.cell 1
    have y2 := hzF.cell 2
    have y3 := hzF.cell 3
    have y4 := hzF.cell 4
    have y5 := hzF.cell 5
    have y6 := hzF.cell 6
    have y7 := hzF.cell 7
    have yl := hzF.lt
    simp only [List.getElem?_cons_zero, List.getElem?_cons_succ] at y0 y1 y2 y3 y4 y5 y6 y7
    go_wp2
    refine bodyPost_ret (v := .agg #[.int .i64 0, .int .i64 0, .slice none 0 0, .int .i64 0, .int .i64 0, .int .i64 0, .int .i64 0, .slice va qs.length vc]) (by simp [results, Try.results15, go_sem, y0, y1, y2, y3, y4, y5, y6, y7, yl]) rfl hF.out
  | cons m r =>
    have hRe : R = ({ g with ms := r }, (putP p m).1, kindP (putP p m), (putP p m).2.1, m) := hR.out
    rw [show hdM (m :: r) = m from rfl] at hpB hi3 ⊢
    subst hRe
    clear hR
    have hput := hid (rput_c hP2.out hi3.out (hinv.out m (by simp)))
    unfold PutR at hput
    have hn2 : ¬ Mp r2 := fun h => by have := hMpl.out _ h; have := hr2e.out; have := hw12.out; have := hs01.out; have := hs0.out; omega
    have hn3 : ¬ Mp r1 := fun h => by have := hMpl.out _ h; have := hr1.out; have := hs01.out; have := hs0.out; omega
    have hn4 : ¬ Mp r0 := fun h => by have := hMpl.out _ h; have := hr0.out; omega
    have hne12 : r1 ≠ r2 := by have := hr1.out; have := hr2e.out; have := hw12.out; omega
    generalize hPR : putP p m = PR at hput
    obtain ⟨p', who, has, err⟩ := PR
    simp only at hput
    generalize hkd : kindP (p', who, has, err) = kd at hput
    replace hPR := hid hPR
    replace hkd := hid hkd
    have x0 := hpB.out.cell 0
    have x1 := hpB.out.cell 1
    have x2 := hpB.out.cell 2
    have x3 := hpB.out.cell 3
    have x4 := hpB.out.cell 4
    have xl := hpB.out.lt
    simp only [List.getElem?_cons_zero, List.getElem?_cons_succ] at x0 x1 x2 x3 x4
    go_upto_region 6 with (first | (go_at_call 38; (with_reducible refine (hput.out).mono ?_); rintro e w3 ⟨rfl, Mp', W', hP3, hsp, hWW, hWn, hC4⟩; have hr3 := hr2.out.chg hC4 hn3; have hz3 := hid (hz2.out.chg hC4 hn4); have hpC := hpB.out.chg hC4 hn2; have u0 := hr3.cell 0; have u1 := hr3.cell 1; have u2 := hr3.cell 2; have u3 := hr3.cell 3; have u4 := hr3.cell 4; have u5 := hr3.cell 5; have u6 := hr3.cell 6; have ul := hr3.lt; have uf := fun o => hr3.frozen o; have v0 := hpC.cell 0; have v1 := hpC.cell 1; have v2 := hpC.cell 2; have v3 := hpC.cell 3; have v4 := hpC.cell 4; have vl := hpC.lt; simp only [List.getElem?_cons_zero, List.getElem?_cons_succ] at u0 u1 u2 u3 u4 u5 u6 v0 v1 v2 v3 v4; replace hr3 := hid hr3; clear hpC x0 x1 x2 x3 x4 xl; replace hP3 := hid hP3; replace hsp := hid hsp; replace hWW := hid hWW; replace hWn := hid hWn; replace hC4 := hid hC4))
    have hr4 := ((((((hr3.out.set 0 (.int .i64 kd)).set 1 (.int .i64 who)).set 2 (.slice a m.words.length c)).set 3 (.int .i64 m.lane)).set 4 (.int .i64 m.stamp)).set 5 (.int .i64 m.late)).set 6 (.int .i64 m.seq)
    simp only [List.set_cons_zero, List.set_cons_succ] at hr4
    have hso := setN_own r1 [.int .i64 kd, .int .i64 who, .slice a m.words.length c, .int .i64 m.lane, .int .i64 m.stamp, .int .i64 m.late, .int .i64 m.seq] 0 w3
    have hz4 := hid (setN_other (b := r1) (c := r0) (by have := hr0.out; have := hr1.out; have := hs0.out; have := hs01.out; omega) [.int .i64 kd, .int .i64 who, .slice a m.words.length c, .int .i64 m.lane, .int .i64 m.stamp, .int .i64 m.late, .int .i64 m.seq] 0 _ hz3.out)
    have hG3' := hG3.out.chg hC4.out (fun b hb => ⟨fun h => hd2.out b h hb, hP2.out.ne b hb⟩)
    have hG4 := hid (hG3'.monoW hWW.out (fun b hb => hP3.out.lt b (.inr hb)) (fun b hb hw => by
      rcases hWn.out b hw with h | h
      · exact hG3.out.ne b hb h
      · have := hG3.out.lt b (.inl hb); omega))
    have hwB := hid (show w1.heap.size < wB.heap.size from by have := hpB.out.lt; have := hr2e.out; have := hw12.out; omega)
    have hrW' : ¬ W' r1 := fun h => by rcases hWn.out _ h with h | h; exact (by have := hW1.out _ h; have := hr1.out; have := hs0.out; have := hs01.out; omega); exact (by have := hr1.out; have := hwB.out; omega)
    have hrg : ¬ Mg2 r1 := fun h => by rcases hs2'.out _ h with h | h; exact hn1 h; exact (by have := hr1.out; omega)
    have hrp : ¬ Mp' r1 := fun h => by rcases hsp.out _ h with h | h; exact hn3 h; exact (by have := hr1.out; have := hwB.out; omega)
    have hG5 := hid (hG4.out.chg hso (fun b hb => by have hb : b = r1 := hb; subst hb; exact ⟨hrg, hrW'⟩))
    have hP5 := hid (hP3.out.chg hso (fun b hb => by have hb : b = r1 := hb; subst hb; exact ⟨hrp, hrW'⟩))
    have hi5 := hid (((hi3.out.kept hC4.out.size (fun b hb hlt => hC4.out.block b hlt (fun hm => hP2.out.ne b hm hb))).mono (ok' := W') (fun b hb _ => hWW.out b hb)).kept hso.size (fun b hb hlt => hso.block b hlt (fun e => by have e : b = r1 := e; subst e; exact hrW' hb)))
    have hC5 := hid ((hC3.out.trans hC4.out (fun i hi => .inl (h2.out i hi))).trans hso (fun i hi => .inr (by have hi : i = r1 := hi; have := hr1.out; have := hs0.out; have := hs01.out; omega)))
    have hCT5 := hid ((hCT2.out.trans hC4.out (fun i hi => .inl (.inr (.inl hi)))).trans hso (fun i hi => .inr (by have hi : i = r1 := hi; have := hr1.out; omega)))
    have hd5 := hid (show ∀ b, Mg2 b → ¬ Mp' b from fun b hb hp => by rcases hsp.out b hp with h | h; exact hd2.out b hb h; exact (by have := hG3.out.lt b (.inl hb); omega))
    have hsp5 := hid (show ∀ b, Mp' b → M b ∨ w1.heap.size < b from fun b hb => (hsp.out b hb).imp (h2.out b) (fun h => by have := hwB.out; omega))
    have hWn5 := hid (show ∀ b, W' b → W b ∨ w1.heap.size < b from fun b hb => (hWn.out b hb).imp id (fun h => by have := hwB.out; omega))
    change Code.wp _ _ _ _ (setN w3 r1 0 [.int .i64 kd, .int .i64 who, .slice a m.words.length c, .int .i64 m.lane, .int .i64 m.stamp, .int .i64 m.late, .int .i64 m.seq])
    change pts (setN w3 r1 0 [.int .i64 kd, .int .i64 who, .slice a m.words.length c, .int .i64 m.lane, .int .i64 m.stamp, .int .i64 m.late, .int .i64 m.seq]) _ _ _ at hr4
    clear hso u0 u1 u2 u3 u4 u5 u6 ul uf v0 v1 v2 v3 v4 vl hG3' hG4
    replace hr4 := hid hr4
    generalize setN w3 r1 0 [.int .i64 kd, .int .i64 who, .slice a m.words.length c, .int .i64 m.lane, .int .i64 m.stamp, .int .i64 m.late, .int .i64 m.seq] = w4 at hr4 hz4 hG5 hP5 hi5 hC5 hCT5 ⊢
    refine wp_region_lit ?_
    refine lLoad (cs := [.int .i64 kd, .int .i64 who, .slice a m.words.length c, .int .i64 m.lane, .int .i64 m.stamp, .int .i64 m.late, .int .i64 m.seq, .slice va qs.length vc]) rfl rfl rfl hr4.out Try.underlying44 rfl (by kernel_rfl) ?_
    refine lStore (cs := [.int .i64 kd, .int .i64 who, .slice a m.words.length c, .int .i64 m.lane, .int .i64 m.stamp, .int .i64 m.late, .int .i64 m.seq, .slice va qs.length vc]) rfl rfl rfl rfl hz4.out rfl (by kernel_rfl) rfl ?_
    have hzF := setN_pts0 hz4.out [.int .i64 kd, .int .i64 who, .slice a m.words.length c, .int .i64 m.lane, .int .i64 m.stamp, .int .i64 m.late, .int .i64 m.seq, .slice va qs.length vc] rfl
    have hF := hid (stepFin (w1 := w1) (w0 := w0) (out := outT now g.ms) (kd := kd) (who := who) (m := m) (a := a) (c := c) [.int .i64 kd, .int .i64 who, .slice a m.words.length c, .int .i64 m.lane, .int .i64 m.stamp, .int .i64 m.late, .int .i64 m.seq, .slice va qs.length vc] rfl hRl.out h4.out hr0.out hs0.out hs01.out hG5.out hP5.out hs2'.out hg1.out hsp5.out hd5.out hWW.out hWn5.out hC5.out hCT5.out (fun b hb => hb.imp id (fun h => h.imp (h2.out b) id)) hn0 hq ho.out hws.out hn.out hi5.out)
    generalize setN w4 r0 0 [.int .i64 kd, .int .i64 who, .slice a m.words.length c, .int .i64 m.lane, .int .i64 m.stamp, .int .i64 m.late, .int .i64 m.seq, .slice va qs.length vc] = wF at hzF hF ⊢
    have y0 := hzF.cell 0
    have y1 := hzF.cell 1
    have y2 := hzF.cell 2
    have y3 := hzF.cell 3
    have y4 := hzF.cell 4
    have y5 := hzF.cell 5
    have y6 := hzF.cell 6
    have y7 := hzF.cell 7
    have yl := hzF.lt
    simp only [List.getElem?_cons_zero, List.getElem?_cons_succ] at y0 y1 y2 y3 y4 y5 y6 y7
    go_wp2
    refine bodyPost_ret (v := .agg #[.int .i64 kd, .int .i64 who, .slice a m.words.length c, .int .i64 m.lane, .int .i64 m.stamp, .int .i64 m.late, .int .i64 m.seq, .slice va qs.length vc]) (by simp [results, Try.results15, go_sem, y0, y1, y2, y3, y4, y5, y6, y7, yl]) rfl (by rw [hPR.out, hkd.out]; exact hF.out)
end
end Go.Proofs.Ytggfallodkbgcaa.Ro
