/- DERIVED. Cells stored in a row; loads and stores of whole structs, operation by operation. No statement is proved here. -/
import Derived.Test.YtnlmkllhmldgiaaKM
import Derived.Test.YtnlmkllhmldgiaaRegR
import Derived.Deep.MidRow
namespace Go.Proofs.Ytnlmkllhmldgiaa.Gt
set_option linter.unusedVariables false
set_option linter.unusedSimpArgs false
open Go.RowKit Go.Proofs.Ytnlmkllhmldgiaa.K
/-- Cells stored one behind the other. -/
def setN (w : World) (b : Nat) : Nat → List Value → World
  | _, [] => w
  | o, v :: t => setN (w.setCell ⟨b, o, none⟩ v) b (o + 1) t
theorem setN_own (b : Nat) : ∀ (vs : List Value) (o : Nat) (w : World), Chg (fun x => x = b) w (setN w b o vs)
  | [], _, w => Chg.refl _ w
  | v :: t, o, w => (Chg.setB (M := fun x => x = b) (Chg.refl _ w) rfl).trans (setN_own b t (o + 1) _) (fun i hi => .inl hi)
theorem setN_pts {b : Nat} {T : TypeId} : ∀ (vs : List Value) (pre cs : List Value) (w : World), pts w b (pre ++ cs) T → cs.length = vs.length → pts (setN w b pre.length vs) b (pre ++ vs) T
  | [], pre, cs, w, h, hl => by
    have : cs = [] := List.eq_nil_of_length_eq_zero hl
    subst this; exact h
  | v :: t, pre, cs, w, h, hl => by
    match cs, hl with
    | c :: cs', hl =>
      have h1 := h.set pre.length v
      have e : (pre ++ c :: cs').set pre.length v = (pre ++ [v]) ++ cs' := by simp [List.set_append_right]
      rw [e] at h1
      have h2 := setN_pts t (pre ++ [v]) cs' _ h1 (by simpa using hl)
      rw [List.length_append, List.length_singleton, List.append_assoc] at h2
      exact h2
theorem setN_pts0 {w : World} {b : Nat} {T : TypeId} {cs : List Value} (h : pts w b cs T) (vs : List Value) (hl : cs.length = vs.length) : pts (setN w b 0 vs) b vs T := setN_pts vs [] cs w h hl
theorem setN_below {n : Nat} {w0 : World} (b : Nat) (hb : n ≤ b) : ∀ (vs : List Value) (o : Nat) (w : World), Below n w0 w → Below n w0 (setN w b o vs)
  | [], _, _, h => h
  | v :: t, o, w, h => setN_below b hb t (o + 1) _ (h.setCell (p := ⟨b, o, none⟩) hb v)
theorem setN_other {b c : Nat} (hc : c ≠ b) {T : TypeId} {cs : List Value} : ∀ (vs : List Value) (o : Nat) (w : World), pts w c cs T → pts (setN w b o vs) c cs T
  | [], _, _, h => h
  | v :: t, o, w, h => setN_other hc t (o + 1) _ (h.set_ne (a := ⟨b, o, none⟩) (fun e => hc e) v)
theorem MsgsAt.setN {ok okw : Nat → Prop} {w : World} {v : Value} {ps : List (Value × Msg)} (h : MsgsAt ok okw w v ps) {b : Nat} (h1 : ¬ ok b) (h2 : ¬ okw b) (vs : List Value) (o : Nat) : MsgsAt ok okw (setN w b o vs) v ps :=
  h.kept (setN_own b vs o w).size (fun c hc hlt => (setN_own b vs o w).block c hlt (fun e => by rcases hc with hc | hc; exact h1 (e ▸ hc); exact h2 (e ▸ hc)))
theorem IntsAt.setN {ok : Nat → Prop} {w : World} {v : Value} {ws : List Int} (h : IntsAt ok w v ws) {b : Nat} (h1 : ¬ ok b) (vs : List Value) (o : Nat) : IntsAt ok (setN w b o vs) v ws :=
  h.kept (setN_own b vs o w).size (fun c hc hlt => (setN_own b vs o w).block c hlt (fun e => h1 (e ▸ hc)))
section
variable {ops : Array Oper} {rest : List Oper} {o : Oper} {a : Act} {w w' : World} {Q : Exit → Act → World → Prop} {v : Value}
theorem lVal (hgd : o.guard = none) (hr : (execOp a.eval o).run Try.prog w = .ok (.value v) w') (h : wpList Try.prog ops Q rest (a.put o.dst v) w') : wpList Try.prog ops Q (o :: rest) a w :=
  wpList_plain hgd fun K hK => by unfold Oper.wp; rw [hr]; exact hK _ _ h
theorem lPure (hgd : o.guard = none) (hr : (execOp a.eval o).run Try.prog w = .ok (.value v) w) (h : wpList Try.prog ops Q rest (a.put o.dst v) w) : wpList Try.prog ops Q (o :: rest) a w := lVal hgd hr h
theorem setN_eq (b : Nat) : ∀ (vs : List Value) (o : Nat) (w : World), w.setCells b o vs = setN w b o vs
  | [], _, _ => rfl
  | v :: t, o, w => by unfold World.setCells setN; exact setN_eq b t (o + 1) _
theorem pRange {b : Nat} {cs : List Value} {T : TypeId} (h : pts w b cs T) : w.rangeAt b 0 cs := fun j v hv => by rw [Nat.zero_add, h.cell]; exact hv
theorem pThere {b : Nat} {cs : List Value} {T : TypeId} (h : pts w b cs T) : w.there b 0 cs.length := fun j hj => by
  rw [Nat.zero_add, h.cell, h.frozen]; exact ⟨by simp [hj], rfl⟩
theorem lLoad {T T' : TypeId} {x : Operand} {b : Nat} {cs : List Value} {d : TypeDesc} (hgd : o.guard = none) (ho : o.op = .load T x) (hx : a.eval x = .pointer (some ⟨b, 0, none⟩)) (hp : pts w b cs T') (hu : Try.prog.underlying T = some d) (hd : d.isRow = true) (hi : (Try.prog.info? T).map (·.size) = some cs.length)
    (h : wpList Try.prog ops Q rest (a.put o.dst (.agg cs.toArray)) w) : wpList Try.prog ops Q (o :: rest) a w := wpList_load_mid hgd T x ho b 0 hx cs d (pRange hp) hu hd hi h
theorem lStore {T T' : TypeId} {x y : Operand} {b : Nat} {old cs : List Value} (hgd : o.guard = none) (ho : o.op = .store T x y) (hx : a.eval x = .pointer (some ⟨b, 0, none⟩)) (hy : a.eval y = .agg cs.toArray) (hp : pts w b old T') (hl : old.length = cs.length) (hi : (Try.prog.info? T).map (·.size) = some cs.length) (h1 : cs.all (·.oneCell') = true)
    (h : wpList Try.prog ops Q rest (a.put o.dst undef) (setN w b 0 cs)) : wpList Try.prog ops Q (o :: rest) a w :=
  wpList_store_mid hgd T x y ho b 0 cs.toArray hx hy (by have := pThere hp; rw [hl] at this; simpa using this) (by simpa using hi) (by simpa using h1) (by rw [setN_eq]; exact h)
theorem xLoad {T T' : TypeId} {s : Tmp} {b : Nat} {cs : List Value} {d : TypeDesc} (ho : o.op = .load T (.tmp s)) (hx : a.tmps[s]?.getD undef = .pointer (some ⟨b, 0, none⟩)) (hp : pts w b cs T') (hu : Try.prog.underlying T = some d) (hd : d.isRow = true) (hi : (Try.prog.info? T).map (·.size) = some cs.length) : (execOp a.eval o).run Try.prog w = .ok (.value (.agg cs.toArray)) w := by
  unfold execOp
  simp only [ho, eval_tmp, hx, Instr.loadAt, Instr.sureAddr, Sem.run_bind, Sem.run_pure, Result.andThen_ok, run_loadVar_mid w b 0 T cs d (pRange hp) hu hd hi]
theorem xAppend {s x : Tmp} {t : TypeId} {v xv v' : Value} (ho : o.op = .call { callee := .builtin .append, args := #[.tmp s, .tmp x], argTypes := #[t, t] }) (hs : a.tmps[s]?.getD undef = v) (hx : a.tmps[x]?.getD undef = xv) (hr : (Builtin.append_ #[t, t] o.type #[v, xv]).run Try.prog w = .ok v' w') : (execOp a.eval o).run Try.prog w = .ok (.value v') w' := by
  unfold execOp
  simp only [ho, eval_tmp, resolve, invoke, builtin, Sem.run_bind, Sem.run_pure, Result.andThen_ok, List.map_toArray, List.map_cons, List.map_nil, hs, hx, hr]
theorem relSkip {Φ : Value → World → Prop} (h : (execOp a.eval o).run Try.prog w = .ok .skip w') (hk : Φ undef w') : relAt Try.prog o a w Φ := by
  unfold relAt; rw [h]; exact hk
theorem xStore {T T' : TypeId} {s t : Tmp} {b : Nat} {old cs : List Value} (ho : o.op = .store T (.tmp s) (.tmp t)) (hx : a.tmps[s]?.getD undef = .pointer (some ⟨b, 0, none⟩)) (hy : a.tmps[t]?.getD undef = .agg cs.toArray) (hp : pts w b old T') (hl : old.length = cs.length) (hi : (Try.prog.info? T).map (·.size) = some cs.length) (h1 : cs.all (·.oneCell') = true) : (execOp a.eval o).run Try.prog w = .ok .skip (setN w b 0 cs) := by
  unfold execOp
  simp only [ho, eval_tmp, hx, hy, Instr.storeAt, Instr.sureAddr, Sem.run_bind, Sem.run_pure, Result.andThen_ok, run_storeVar_mid w b 0 T cs.toArray (by have := pThere hp; rw [hl] at this; simpa using this) (by simpa using hi) (by simpa using h1), setN_eq]
end
end Go.Proofs.Ytnlmkllhmldgiaa.Gt
