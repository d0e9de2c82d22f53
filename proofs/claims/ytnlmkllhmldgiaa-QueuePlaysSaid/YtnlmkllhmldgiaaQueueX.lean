/- DERIVED. A port in plain words (its messages, who waits as they asked, its wheel's row), told finely (M may be written, words lie in W): New, Put, Ask, All, Len, Waits, Waiting, Sweep. No statement is proved here. -/
import Derived.Test.YtnlmkllhmldgiaaQueueJ
import Derived.Test.YtnlmkllhmldgiaaWheelP
import Derived.Test.YtnlmkllhmldgiaaNewW
namespace Go.Proofs.Ytnlmkllhmldgiaa.Qu
set_option linter.unusedVariables false
set_option linter.unusedSimpArgs false
open Go.RowKit Go.Maps Go.Proofs.Ytnlmkllhmldgiaa.K Go.Proofs.Ytnlmkllhmldgiaa.Lb Go.Proofs.Ytnlmkllhmldgiaa.Wh
/-- A port: how many it holds, its messages, who waits (as they asked), its wheel's row, its wheel's count. -/
structure Prt where
  hold : Int
  ms : List Msg
  row : List Int
  es : List Ent
  s : Int
structure PInv (p : Prt) : Prop where
  one : p.ms = [] ∨ p.row = []
  room : (p.ms.length : Int) ≤ p.hold
  hold : 1 ≤ p.hold ∧ p.hold ≤ 8
  words : ∀ m ∈ p.ms, m.words.length ≤ 17592186044416
  perm : p.row.Perm (keysE p.es)
def zeroP : Msg := ⟨[], 0, 0, 0, 0⟩
/-- A port: M bounds what may be written; its messages' words lie in W, apart from M. -/
def PortF (w : World) (M W : Nat → Prop) (pb : Nat) (p : Prt) : Prop :=
  ∃ base wb mb lv rv n D qs, PortAt w base pb wb mb p.hold lv rv qs p.row n D p.s ∧ (n : Int) = p.s ∧ WRel D p.s p.es ∧ (∀ b, PMut pb wb mb lv rv b → M b) ∧ (∀ b, M b ∨ W b → b < w.heap.size) ∧ (∀ b, M b → ¬ W b) ∧ WordsIn W w qs ∧ qs.map Prod.snd = p.ms ∧ PInv p
def newP (hold : Int) : Prt := ⟨holdT hold, [], [], [], 0⟩
def putP (p : Prt) (m : Msg) : Prt × Int × Bool × Int :=
  match p.row with
  | x :: _ => ({ p with row := butT p.row x, es := rmE x p.es }, x, true, 0)
  | [] => if (p.ms.length : Int) = p.hold then (p, 0, false, 10) else ({ p with ms := p.ms ++ [m] }, 0, false, 0)
def askP (p : Prt) (x u now : Int) : Prt × Msg × Int :=
  if x ∈ p.row then (p, zeroP, 1) else
  match p.ms with
  | m :: r => ({ p with ms := r }, m, 0)
  | [] => if lateT now u then (p, zeroP, 2) else ({ p with row := p.row ++ [x], es := setE p.es x (cutT u) (p.s + 1), s := p.s + 1 }, zeroP, 6)
section
variable {w w' : World} {M W : Nat → Prop} {pb : Nat} {p : Prt}
theorem PortF.lt (h : PortF w M W pb p) : ∀ b, M b ∨ W b → b < w.heap.size := let ⟨_, _, _, _, _, _, _, _, _, _, _, _, h, _⟩ := h; h
theorem PortF.ne (h : PortF w M W pb p) : ∀ b, M b → ¬ W b := let ⟨_, _, _, _, _, _, _, _, _, _, _, _, _, h, _⟩ := h; h
theorem PortF.inv (h : PortF w M W pb p) : PInv p := let ⟨_, _, _, _, _, _, _, _, _, _, _, _, _, _, _, _, h⟩ := h; h
theorem PortF.s0 (h : PortF w M W pb p) : 0 ≤ p.s := by obtain ⟨_, _, _, _, _, n, _, _, _, h, _⟩ := h; omega
theorem PortF.ints (h : PortF w M W pb p) : ∀ x ∈ p.row, isInt x := by
  obtain ⟨_, _, _, _, _, _, D, _, _, _, hR, _, _, _, _, _, hI⟩ := h
  intro x hx
  have := hI.perm.mem_iff.1 hx
  obtain ⟨e, he, rfl⟩ := List.mem_map.1 this
  exact (hR.bd e he).1
theorem PortF.nodup (h : PortF w M W pb p) : p.row.Nodup := by
  obtain ⟨_, _, _, _, _, _, D, _, _, _, hR, _, _, _, _, _, hI⟩ := h
  exact hI.perm.nodup_iff.2 hR.nd
theorem PortF.kept (h : PortF w M W pb p) (hs : w.heap.size ≤ w'.heap.size) (hk : ∀ b, M b ∨ W b → b < w.heap.size → w'.heap[b]? = w.heap[b]?) : PortF w' M W pb p := by
  obtain ⟨base, wb, mb, lv, rv, n, D, qs, hP, hn, hR, hM, hl, hd, hW, hq, hI⟩ := h
  have hW' := hW.kept hs (fun b hb hlt => hk b (.inr hb) hlt)
  have k : ∀ b, PMut pb wb mb lv rv b → w'.heap[b]? = w.heap[b]? := fun b hb => hk b (.inl (hM b hb)) (hP.mut_lt hb)
  exact ⟨base, wb, mb, lv, rv, n, D, qs, ⟨hP.at_.of (k pb (.inl rfl)), hP.wh.kept (k wb (.inr (.inl rfl))) (k mb (.inr (.inr (.inl rfl)))), own_of hP.l (fun b e => k b (.inr (.inr (.inr (.inl e))))), own_of hP.row (fun b e => k b (.inr (.inr (.inr (.inr e))))), WordsIn.both hW' hW hP.words, hP.ge⟩, hn, hR, hM, fun b hb => Nat.lt_of_lt_of_le (hl b hb) hs, hd, hW', hq, hI⟩
theorem PortF.below (h : PortF w M W pb p) (hb : Below w.heap.size w w') : PortF w' M W pb p := h.kept hb.size (fun b _ hlt => hb.block b hlt)
theorem PortF.chg {N : Nat → Prop} (h : PortF w M W pb p) (hc : Chg N w w') (hN : ∀ b, N b → ¬ M b ∧ ¬ W b) : PortF w' M W pb p :=
  h.kept hc.size (fun b hb hlt => hc.block b hlt (fun hn => hb.elim (hN b hn).1 (hN b hn).2))
theorem PortF.monoW {W' : Nat → Prop} (h : PortF w M W pb p) (hWW : ∀ b, W b → W' b) (hl' : ∀ b, W' b → b < w.heap.size) (hd' : ∀ b, M b → ¬ W' b) : PortF w M W' pb p := by
  obtain ⟨base, wb, mb, lv, rv, n, D, qs, hP, hn, hR, hM, hl, hd, hW, hq, hI⟩ := h
  exact ⟨base, wb, mb, lv, rv, n, D, qs, hP, hn, hR, hM, fun b hb => hb.elim (fun h => hl b (.inl h)) (hl' b), hd', hW.mono (fun b hb _ => hWW b hb), hq, hI⟩
/-- What a call leaves. -/
def StepP (w : World) (M W : Nat → Prop) (pb : Nat) (p' : Prt) (w' : World) : Prop := ∃ M', PortF w' M' (newW W M' w w') pb p' ∧ (∀ b, M' b → M b ∨ w.heap.size ≤ b) ∧ (∀ b, M b → M' b) ∧ Chg M w w'
theorem PortF.same (h : PortF w M W pb p) (hb : Below w.heap.size w w') : StepP w M W pb p w' := by
  have h1 := h.below hb
  exact ⟨M, h1.monoW (fun b hb => .inl hb) (fun b hb' => hb'.elim (fun h => h1.lt b (.inr h)) (fun h => h.2.1)) (fun b hm hw => hw.elim (h.ne b hm) (fun h => h.2.2 hm)), fun b h => .inl h, fun b h => h, Chg.of_below hb⟩
/-- A port behind a call that turns its own blocks. -/
theorem PortF.step {base wb mb n n' : Nat} {lv rv lv' rv' : Value} {D D' : DataW Unit} {s : Int} {qs qs' : List (Value × Msg)} {xs : List Int} {hold : Int} {p' : Prt} (hP : PortAt w base pb wb mb hold lv rv qs xs n D s) (hM : ∀ b, PMut pb wb mb lv rv b → M b) (hl : ∀ b, M b ∨ W b → b < w.heap.size) (hd : ∀ b, M b → ¬ W b) (hW : WordsIn W w qs)
    (hP' : PortAt w' base pb wb mb p'.hold lv' rv' qs' p'.row n' D' p'.s) (hn : (n' : Int) = p'.s) (hR : WRel D' p'.s p'.es) (hc : Chg (PMut pb wb mb lv rv) w w') (hlv : ∀ b, lv'.ownBlock = some b → M b ∨ w.heap.size ≤ b) (hrv : ∀ b, rv'.ownBlock = some b → M b ∨ w.heap.size ≤ b)
    (hq' : qs'.map Prod.snd = p'.ms) (hsub : ∀ q ∈ qs', q ∈ qs ∨ IntsAt (fun b => w.heap.size ≤ b) w' q.1 q.2.words) (hI : PInv p') : StepP w M W pb p' w' := by
  have hs := hc.size
  have hPM : ∀ b, PMut pb wb mb lv' rv' b → M b ∨ w.heap.size ≤ b := fun b hb => by
    rcases hb with hb | hb | hb | hb | hb
    · exact .inl (hM b (.inl hb))
    · exact .inl (hM b (.inr (.inl hb)))
    · exact .inl (hM b (.inr (.inr (.inl hb))))
    · exact hlv b hb
    · exact hrv b hb
  have hdd : ∀ b, (M b ∨ PMut pb wb mb lv' rv' b) → ¬ newW W (fun b => M b ∨ PMut pb wb mb lv' rv' b) w w' b := fun b hm hw => by
    rcases hw with hw | hw
    · rcases hm with hm | hm
      · exact hd b hm hw
      · rcases hPM b hm with h | h
        · exact hd b h hw
        · have := hl b (.inr hw); omega
    · exact hw.2.2 hm
  have hCM : Chg M w w' := hc.mono hM
  refine ⟨fun b => M b ∨ PMut pb wb mb lv' rv' b, ⟨base, wb, mb, lv', rv', n', D', qs', hP', hn, hR, fun b hb => .inr hb, fun b hb => ?_, hdd, fun q hq => ?_, hq', hI⟩, fun b hb => hb.elim .inl (hPM b), fun b hb => .inl hb, hCM⟩
  · rcases hb with (hb | hb) | hb | hb
    · have := hl b (.inl hb); omega
    · exact hP'.mut_lt hb
    · have := hl b (.inr hb); omega
    · exact hb.2.1
  · rcases hsub q hq with h | h
    · exact ((hW q h).kept hs (fun b hb hlt => hCM.block b hlt (fun hm => hd b hm hb))).mono (fun b hb _ => .inl hb)
    · exact (IntsAt.and h (hP'.words q hq)).mono (fun b hb hlt => .inr ⟨hb.1, hlt, fun hm => hm.elim (fun h => by have := hl b (.inl h); omega) hb.2⟩)
theorem new_x (w : World) (hold : Int) : Calls Try.prog 9 #[.int .i64 hold] w fun e w' => ∃ pb M, e = .returned (.pointer (some ⟨pb, 0, none⟩)) ∧ PortF w' M (fun _ => False) pb (newP hold) ∧ (∀ b, M b → w.heap.size ≤ b) ∧ Below w.heap.size w w' :=
  (new_c w hold).mono fun e w' ⟨pb, wb, mb, he, hP, hb⟩ => ⟨pb, _, he, ⟨_, wb, mb, _, _, 0, _, [], hP, rfl, WRel.start, fun b hb => (show w.heap.size ≤ b ∧ b < w'.heap.size from ⟨hP.mut_ge hb, hP.mut_lt hb⟩), fun b h => h.elim (fun h => h.2) (fun h => h.elim), fun b _ h => h, WordsIn.nil _ _, rfl, ⟨.inl rfl, by show (0 : Int) ≤ holdT hold; unfold holdT; omega, by show 1 ≤ holdT hold ∧ holdT hold ≤ 8; unfold holdT; omega, fun m hm => (by cases hm), List.Perm.refl _⟩⟩, fun b h => h.1, hb⟩
def PutX (w : World) (M W : Nat → Prop) (pb : Nat) (p : Prt) (m : Msg) (e : Ending) (w' : World) : Prop := e = .returned (.tuple #[.int .i64 (putP p m).2.1, .bool (putP p m).2.2.1, .int .i64 (putP p m).2.2.2]) ∧ StepP w M W pb (putP p m).1 w'
theorem put_x (h : PortF w M W pb p) {m : Msg} {ok : Nat → Prop} {a : Option Addr} {c : Nat} (hi : IntsAt ok w (.slice a m.words.length c) m.words) (hwl : m.words.length ≤ 17592186044416) :
    Calls Try.prog 12 #[.pointer (some ⟨pb, 0, none⟩), .agg #[.slice a m.words.length c, .int .i64 m.lane, .int .i64 m.stamp, .int .i64 m.late, .int .i64 m.seq]] w (PutX w M W pb p m) := by
  have h0 := h
  have hxi := h.ints
  have hnd := h.nodup
  unfold PutX
  obtain ⟨base, wb, mb, lv, rv, n, D, qs, hP, hn, hR, hM, hl, hd, hW, hq, hI⟩ := h
  obtain ⟨hold, ms, row, es, s⟩ := p
  simp only at *
  subst hq
  cases row with
  | cons x r =>
    have hput : putP ⟨hold, qs.map Prod.snd, x :: r, es, s⟩ m = (⟨hold, qs.map Prod.snd, butT (x :: r) x, rmE x es, s⟩, x, true, 0) := rfl
    rw [hput]
    refine (putRow_c hP (.slice a m.words.length c, m) ⟨a, _, c, rfl⟩ rfl (hxi x (by simp))).mono ?_
    rintro e w' ⟨he, rv', h1, h2, h3⟩
    refine ⟨he, ?_⟩
    refine PortF.step (p' := ⟨hold, qs.map Prod.snd, butT (x :: r) x, rmE x es, s⟩) hP hM hl hd hW h1 hn (hR.del x) h2 (fun b hb => .inl (hM b (.inr (.inr (.inr (.inl hb)))))) (fun b hb => .inl (hM b (.inr (.inr (.inr (.inr (h3 b hb))))))) rfl (fun q hq => .inl hq) ⟨?_, hI.room, hI.hold, hI.words, ?_⟩
    · rcases hI.one with h | h
      · exact .inl h
      · cases h
    · have := hI.perm.filter (fun y => y != x)
      refine this.trans (List.Perm.of_eq ?_)
      unfold keysE rmE
      rw [List.filter_map]
      rfl
  | nil =>
    by_cases hf : ((qs.map Prod.snd).length : Int) = hold
    · have hput : putP ⟨hold, qs.map Prod.snd, [], es, s⟩ m = (⟨hold, qs.map Prod.snd, [], es, s⟩, 0, false, 10) := by simp only [putP]; rw [if_pos hf]
      rw [hput]
      refine (putFull_c hP (.slice a m.words.length c, m) ⟨a, _, c, rfl⟩ (by rw [List.length_map] at hf; exact hf)).mono ?_
      rintro e w' ⟨he, hb⟩
      exact ⟨he, h0.same hb⟩
    · have hput : putP ⟨hold, qs.map Prod.snd, [], es, s⟩ m = (⟨hold, qs.map Prod.snd ++ [m], [], es, s⟩, 0, false, 0) := by simp only [putP]; rw [if_neg hf]
      rw [hput]
      have hroom := hI.room
      have hhold := hI.hold
      simp only at hroom hhold
      rw [List.length_map] at hf hroom
      refine (putAdd_c hP (.slice a m.words.length c, m) hi hwl hf (by omega)).mono ?_
      rintro e w' ⟨he, lv', sv', h1, h2, h3, h4⟩
      refine ⟨he, ?_⟩
      refine PortF.step (p' := ⟨hold, qs.map Prod.snd ++ [m], [], es, s⟩) hP hM hl hd hW h1 hn hR h2 (fun b hb => (h3 b hb).imp (fun h => hM b (.inr (.inr (.inr (.inl h))))) id) (fun b hb => .inl (hM b (.inr (.inr (.inr (.inr hb)))))) (by simp) (fun q hq => ?_) ⟨.inr rfl, ?_, hI.hold, ?_, hI.perm⟩
      · rcases List.mem_append.1 hq with h | h
        · exact .inl h
        · simp at h; subst h; exact .inr h4
      · simp; omega
      · intro m' hm'
        rcases List.mem_append.1 hm' with h | h
        · exact hI.words m' h
        · simp at h; subst h; exact hwl
def AskX (w : World) (M W : Nat → Prop) (pb : Nat) (r : Prt × Msg × Int) (e : Ending) (w' : World) : Prop :=
  ∃ a c, e = .returned (.tuple #[.agg #[.slice a r.2.1.words.length c, .int .i64 r.2.1.lane, .int .i64 r.2.1.stamp, .int .i64 r.2.1.late, .int .i64 r.2.1.seq], .int .i64 r.2.2]) ∧ IntsAt W w' (.slice a r.2.1.words.length c) r.2.1.words ∧ StepP w M W pb r.1 w'
theorem rmE_none {x : Int} {l : List Ent} (h : x ∉ keysE l) : rmE x l = l := by
  unfold rmE
  rw [List.filter_eq_self]
  intro e he
  have : e.k ≠ x := fun e' => h (List.mem_map.2 ⟨e, he, e'⟩)
  simpa using this
theorem ask_x (h : PortF w M W pb p) {x : Int} (hx : isInt x) (u now : Int) (hs : p.s < 1000000) (hrl : p.row.length < 1000000) :
    Calls Try.prog 10 #[.pointer (some ⟨pb, 0, none⟩), .int .i64 x, .int .i64 u, .int .i64 now] w (AskX w M W pb (askP p x u now)) := by
  have h0 := h
  unfold AskX
  obtain ⟨base, wb, mb, lv, rv, n, D, qs, hP, hn, hR, hM, hl, hd, hW, hq, hI⟩ := h
  obtain ⟨hold, ms, row, es, s⟩ := p
  simp only at *
  subst hq
  by_cases hxr : x ∈ row
  · have e1 : askP ⟨hold, qs.map Prod.snd, row, es, s⟩ x u now = (⟨hold, qs.map Prod.snd, row, es, s⟩, zeroP, 1) := by simp only [askP]; rw [if_pos hxr]
    rw [e1]
    refine (askWaits_c hP u now hxr).mono ?_
    rintro e w' ⟨he, hb⟩
    exact ⟨none, 0, he, IntsAt.nil _ _, h0.same hb⟩
  · cases qs with
    | cons q r =>
      have hrow : row = [] := by rcases hI.one with h | h; cases h; exact h
      subst hrow
      have e1 : askP ⟨hold, (q :: r).map Prod.snd, [], es, s⟩ x u now = (⟨hold, r.map Prod.snd, [], es, s⟩, q.2, 0) := by simp only [askP]; rw [if_neg hxr]; rfl
      rw [e1]
      have hwq := hW q (by simp)
      obtain ⟨qa, qc, hsh⟩ := hwq.shape
      refine (askHas_c hP x u now).mono ?_
      rintro e w' ⟨he, lv', h1, h2, h3, h4⟩
      have hroom := hI.room
      simp only [List.map_cons, List.length_cons] at hroom
      refine ⟨qa, qc, by rw [he]; unfold aggM; rw [hsh], ?_, ?_⟩
      · have hb2 : WordsIn W w' (q :: r) := WordsIn.both (hP.words.kept h2.size (fun b hb hlt => h2.block b hlt hb)) hP.words hW
        have := hb2 q (by simp)
        rw [hsh] at this; exact this
      · exact PortF.step (p' := ⟨hold, r.map Prod.snd, [], es, s⟩) hP hM hl hd hW h1 hn hR h2 (fun b hb => .inl (hM b (.inr (.inr (.inr (.inl (h4 b hb))))))) (fun b hb => .inl (hM b (.inr (.inr (.inr (.inr hb)))))) rfl (fun q' hq' => .inl (List.mem_cons_of_mem _ hq')) ⟨.inr rfl, by simp only; push_cast at hroom ⊢; omega, hI.hold, fun m hm => hI.words m (List.mem_cons_of_mem _ hm), hI.perm⟩
    | nil =>
      by_cases hlt : lateT now u = true
      · have e1 : askP ⟨hold, ([] : List (Value × Msg)).map Prod.snd, row, es, s⟩ x u now = (⟨hold, [], row, es, s⟩, zeroP, 2) := by simp only [askP, List.map_nil]; rw [if_neg hxr, if_pos hlt]
        rw [e1]
        refine (askLate_c hP u now hxr hlt).mono ?_
        rintro e w' ⟨he, hb⟩
        exact ⟨none, 0, he, IntsAt.nil _ _, h0.same hb⟩
      · have hlf : lateT now u = false := by simpa using hlt
        have e1 : askP ⟨hold, ([] : List (Value × Msg)).map Prod.snd, row, es, s⟩ x u now = (⟨hold, [], row ++ [x], setE es x (cutT u) (s + 1), s + 1⟩, zeroP, 6) := by simp only [askP, List.map_nil]; rw [if_neg hxr, if_neg hlt]
        rw [e1]
        have hs0 : 0 ≤ s := by omega
        have hw64 : wrap64 (s + 1) = s + 1 := by unfold wrap64; omega
        have hcu : 0 ≤ cutT u ∧ cutT u ≤ 4611686018427387904 := by unfold cutT; omega
        have hput := hR.put hx hcu hs0
        refine (askAdd_c hP u now hxr hx hlf (by omega) hrl).mono ?_
        rintro e w' ⟨he, rv', h1, h2, h3⟩
        rw [hw64] at h1
        refine ⟨none, 0, he, IntsAt.nil _ _, ?_⟩
        refine PortF.step (p' := ⟨hold, [], row ++ [x], setE es x (cutT u) (s + 1), s + 1⟩) hP hM hl hd hW h1 (by show ((n + 1 : Nat) : Int) = s + 1; omega) hput h2 (fun b hb => .inl (hM b (.inr (.inr (.inr (.inl hb)))))) (fun b hb => ?_) rfl (fun q hq => by cases hq) ⟨.inl rfl, hI.room, hI.hold, fun m hm => (by cases hm), ?_⟩
        · exact (h3 b hb).imp (fun h => hM b (.inr (.inr (.inr (.inr h))))) id
        · have hxk : x ∉ keysE es := fun h => hxr (hI.perm.mem_iff.2 h)
          show (row ++ [x]).Perm (keysE (insE _ (rmE x es)))
          rw [rmE_none hxk]
          exact (List.perm_append_comm.trans (hI.perm.cons x)).trans (keysE_ins _ es).symm
def ResX (w : World) (ms : List Msg) (e : Ending) (w' : World) : Prop := ∃ v qs, e = .returned v ∧ qs.map Prod.snd = ms ∧ MsgsAt (fun b => w.heap.size ≤ b) (fun b => w.heap.size ≤ b) w' v qs ∧ Below w.heap.size w w'
theorem all_x (h : PortF w M W pb p) : Calls Try.prog 20 #[.pointer (some ⟨pb, 0, none⟩)] w (ResX w p.ms) := by
  obtain ⟨base, wb, mb, lv, rv, n, D, qs, hP, hn, hR, hM, hl, hd, hW, hq, hI⟩ := h
  have hlen : qs.length < 1000000 := by have := congrArg List.length hq; rw [List.length_map] at this; have := hI.room; have := hI.hold; omega
  refine (all_c hP hlen (fun q hq' => hI.words q.2 (by rw [← hq]; exact List.mem_map.2 ⟨q, hq', rfl⟩))).mono ?_
  rintro e w' ⟨v, qs', he, h1, h2, h3⟩
  exact ⟨v, qs', he, h1.trans hq, h2, h3⟩
theorem len_x (h : PortF w M W pb p) : Calls Try.prog 18 #[.pointer (some ⟨pb, 0, none⟩)] w fun e w' => e = .returned (.int .i64 p.ms.length) ∧ w = w' := by
  obtain ⟨base, wb, mb, lv, rv, n, D, qs, hP, hn, hR, hM, hl, hd, hW, hq, hI⟩ := h
  have := len_c hP
  rw [← hq, List.length_map]; exact this
theorem waits_x (h : PortF w M W pb p) (q : Int) : Calls Try.prog 19 #[.pointer (some ⟨pb, 0, none⟩), .int .i64 q] w fun e w' => e = .returned (.bool (decide (q ∈ p.row))) ∧ w = w' := by
  obtain ⟨base, wb, mb, lv, rv, n, D, qs, hP, _⟩ := h
  exact waits_c hP q
theorem waiting_x (h : PortF w M W pb p) (hx : p.row.length ≤ 17592186044416) : Calls Try.prog 11 #[.pointer (some ⟨pb, 0, none⟩)] w fun e w' => ∃ v', e = .returned v' ∧ IntsAt (fun b => w.heap.size ≤ b) w' v' p.row ∧ Below w.heap.size w w' := by
  obtain ⟨base, wb, mb, lv, rv, n, D, qs, hP, _⟩ := h
  exact waiting_c hP hx
/-- What Sweep tells and leaves. -/
def SweepX (w : World) (M W : Nat → Prop) (pb : Nat) (p : Prt) (now : Int) (e : Ending) (w' : World) : Prop :=
  ∃ v qs, e = .returned v ∧ qs.map Prod.snd = p.ms.filter (lateM now) ∧ MsgsAt (fun b => w.heap.size ≤ b) W w' v qs ∧ ∃ M', PortF w' M' W pb { p with ms := p.ms.filter (fun m => !lateM now m) } ∧ (∀ b, v.ownBlock = some b → ¬ M' b) ∧ (∀ b, M' b → M b ∨ w.heap.size ≤ b) ∧ (∀ b, M b → M' b) ∧ Chg M w w'
end
end Go.Proofs.Ytnlmkllhmldgiaa.Qu
