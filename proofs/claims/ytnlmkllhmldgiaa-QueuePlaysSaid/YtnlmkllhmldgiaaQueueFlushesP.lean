/- DERIVED. Two ports side by side; what a port answers hangs on its messages, its row and until when who waits, not on its wheel's count. No statement is proved here. -/
import Derived.Test.YtnlmkllhmldgiaaQueueV
import Derived.Test.YtnlmkllhmldgiaaWheelAgainP
namespace Go.Proofs.Ytnlmkllhmldgiaa.Qu
set_option linter.unusedVariables false
set_option linter.unusedSimpArgs false
open Go.RowKit Go.Maps Go.Proofs.Ytnlmkllhmldgiaa.K Go.Proofs.Ytnlmkllhmldgiaa.Lb Go.Proofs.Ytnlmkllhmldgiaa.Wh
def kuE (l : List Ent) : List (Int × Int) := l.map (fun e => (e.k, e.u))
def insK (e : Int × Int) : List (Int × Int) → List (Int × Int)
  | [] => [e]
  | x :: t => if x.2 ≤ e.2 then x :: insK e t else e :: x :: t
theorem ku_ins (e : Ent) : ∀ l, kuE (insE e l) = insK (e.k, e.u) (kuE l)
  | [] => rfl
  | x :: t => by
    show kuE (insE e (x :: t)) = insK (e.k, e.u) ((x.k, x.u) :: kuE t)
    unfold insE insK
    split
    · show (x.k, x.u) :: kuE (insE e t) = _
      rw [ku_ins e t]
    · rfl
theorem ku_filter (f : Int × Int → Bool) (l : List Ent) : kuE (l.filter (fun e => f (e.k, e.u))) = (kuE l).filter f := by
  unfold kuE
  rw [List.filter_map]
  rfl
theorem ku_rm (x : Int) (l : List Ent) : kuE (rmE x l) = (kuE l).filter (fun e => !(e.1 == x)) := ku_filter (fun e => !(e.1 == x)) l
theorem ku_keys (l : List Ent) : keysE l = (kuE l).map Prod.fst := by unfold keysE kuE; rw [List.map_map]; rfl
/-- Two ports that answer alike. -/
structure Sim (p q : Prt) : Prop where
  hold : p.hold = q.hold
  ms : p.ms = q.ms
  row : p.row = q.row
  es : kuE p.es = kuE q.es
theorem Sim.put {p q : Prt} (h : Sim p q) (m : Msg) : (putP p m).2 = (putP q m).2 ∧ Sim (putP p m).1 (putP q m).1 := by
  obtain ⟨h1, h2, h3, h4⟩ := h
  obtain ⟨ph, pm, pr, pe, ps⟩ := p
  obtain ⟨qh, qm, qr, qe, qs⟩ := q
  simp only at h1 h2 h3 h4
  subst h1 h2 h3
  cases pr with
  | cons x r => exact ⟨rfl, rfl, rfl, rfl, by show kuE (rmE x pe) = kuE (rmE x qe); rw [ku_rm, ku_rm, h4]⟩
  | nil =>
    simp only [putP]
    split
    · exact ⟨rfl, rfl, rfl, rfl, h4⟩
    · exact ⟨rfl, rfl, rfl, rfl, h4⟩
theorem Sim.ask {p q : Prt} (h : Sim p q) (x u now : Int) : (askP p x u now).2 = (askP q x u now).2 ∧ Sim (askP p x u now).1 (askP q x u now).1 := by
  obtain ⟨h1, h2, h3, h4⟩ := h
  obtain ⟨ph, pm, pr, pe, ps⟩ := p
  obtain ⟨qh, qm, qr, qe, qs⟩ := q
  simp only at h1 h2 h3 h4
  subst h1 h2 h3
  unfold askP
  simp only
  split
  · exact ⟨rfl, rfl, rfl, rfl, h4⟩
  · cases pm with
    | cons m r => exact ⟨rfl, rfl, rfl, rfl, h4⟩
    | nil =>
      simp only
      split
      · exact ⟨rfl, rfl, rfl, rfl, h4⟩
      · exact ⟨rfl, rfl, rfl, rfl, by show kuE (setE pe _ _ _) = kuE (setE qe _ _ _); unfold setE; rw [ku_ins, ku_ins, ku_rm, ku_rm, h4]⟩
theorem Sim.late {p q : Prt} (h : Sim p q) (now : Int) : keysE (p.es.filter (lateE now)) = keysE (q.es.filter (lateE now)) := by
  rw [ku_keys, ku_keys]
  have := ku_filter (fun e => lateT now e.2)
  unfold lateE
  rw [this, this, h.es]
theorem Sim.exp {p q : Prt} (h : Sim p q) (now : Int) : Sim (expP p now) (expP q now) := by
  refine ⟨h.hold, h.ms, ?_, ?_⟩
  · show (keysE _).foldl butT p.row = (keysE _).foldl butT q.row
    rw [h.late now, h.row]
  · have := ku_filter (fun e => !lateT now e.2)
    show kuE (p.es.filter (fun e => !lateE now e)) = kuE (q.es.filter (fun e => !lateE now e))
    unfold lateE
    rw [this, this, h.es]
theorem Sim.flush (p : Prt) : Sim (flushP p) { hold := p.hold, ms := [], row := [], es := [], s := 0 } := ⟨rfl, rfl, rfl, rfl⟩
/-- Two ports, apart. -/
structure TwoP (B : Nat) (w0 w : World) (pa pb : Nat) (p q : Prt) (Ma Wa Mb Wb : Nat → Prop) : Prop where
  a : PortF w Ma Wa pa p
  b : PortF w Mb Wb pb q
  wa : Wd B w0 w Ma
  wb : Wd B w0 w Mb
  dis : ∀ x, Ma x → ¬ Mb x
  aw : ∀ x, Ma x → ¬ Wb x
  bw : ∀ x, Mb x → ¬ Wa x
section
variable {B : Nat} {w0 w w' : World} {pa pb : Nat} {p p' q q' : Prt} {Ma Wa Mb Wb : Nat → Prop}
theorem TwoP.below (h : TwoP B w0 w pa pb p q Ma Wa Mb Wb) (hb : Below w.heap.size w w') : TwoP B w0 w' pa pb p q Ma Wa Mb Wb := ⟨h.a.below hb, h.b.below hb, h.wa.next hb, h.wb.next hb, h.dis, h.aw, h.bw⟩
theorem TwoP.swap (h : TwoP B w0 w pa pb p q Ma Wa Mb Wb) : TwoP B w0 w pb pa q p Mb Wb Ma Wa := ⟨h.b, h.a, h.wb, h.wa, fun x h1 h2 => h.dis x h2 h1, h.bw, h.aw⟩
theorem TwoP.stepA (h : TwoP B w0 w pa pb p q Ma Wa Mb Wb) (hs : StepP w Ma Wa pa p' w') : ∃ Ma' Wa', TwoP B w0 w' pa pb p' q Ma' Wa' Mb Wb ∧ Chg Ma w w' ∧ (∀ b, b < w.heap.size → ¬ Ma b → ¬ Ma' b) := by
  obtain ⟨M', hP, hM', _, hc⟩ := hs
  refine ⟨M', _, ⟨hP, h.b.chg hc (fun b hb => ⟨h.dis b hb, h.aw b hb⟩), h.wa.turn hc hM' (fun b hb => hP.lt b (.inl hb)), ⟨h.wb.below.trans (hc.toBelow h.wb.le h.wa.ge), h.wb.ge, fun b hb => Nat.lt_of_lt_of_le (h.wb.lt b hb) hc.size, Nat.le_trans h.wb.le hc.size⟩, fun x hx hb => ?_, fun x hx hw => ?_, fun x hx hw => ?_⟩, hc, fun b hb hn hm => (hM' b hm).elim hn (fun h => by omega)⟩
  · rcases hM' x hx with h1 | h1
    · exact h.dis x h1 hb
    · have := h.b.lt x (.inl hb); omega
  · rcases hM' x hx with h1 | h1
    · exact h.aw x h1 hw
    · have := h.b.lt x (.inr hw); omega
  · rcases hw with hw | hw
    · exact h.bw x hx hw
    · have := h.b.lt x (.inl hx); have := hw.1; omega
theorem TwoP.sameA (h : TwoP B w0 w pa pb p q Ma Wa Mb Wb) (hP : PortF w' Ma Wa pa p') (hc : Chg Ma w w') : TwoP B w0 w' pa pb p' q Ma Wa Mb Wb :=
  ⟨hP, h.b.chg hc (fun b hb => ⟨h.dis b hb, h.aw b hb⟩), h.wa.turn hc (fun b hb => .inl hb) (fun b hb => hP.lt b (.inl hb)), ⟨h.wb.below.trans (hc.toBelow h.wb.le h.wa.ge), h.wb.ge, fun b hb => Nat.lt_of_lt_of_le (h.wb.lt b hb) hc.size, Nat.le_trans h.wb.le hc.size⟩, h.dis, h.aw, h.bw⟩
end
theorem putP_of (p : Prt) (m : Msg) : (putP p m).1.hold = p.hold ∧ (putP p m).1.s = p.s ∧ (putP p m).1.row.length ≤ p.row.length := by
  unfold putP
  cases h : p.row with
  | nil => simp only; split <;> simp [h]
  | cons x r => exact ⟨rfl, rfl, List.length_filter_le _ _⟩
theorem askP_of (p : Prt) (x u now : Int) : (askP p x u now).1.hold = p.hold ∧ (askP p x u now).1.s ≤ p.s + 1 ∧ (askP p x u now).1.row.length ≤ p.row.length + 1 := by
  unfold askP
  split
  · exact ⟨rfl, by simp only; omega, by simp only; omega⟩
  · cases h : p.ms with
    | cons m r => exact ⟨rfl, by simp only; omega, by simp only; omega⟩
    | nil => simp only; split <;> simp <;> omega
end Go.Proofs.Ytnlmkllhmldgiaa.Qu
