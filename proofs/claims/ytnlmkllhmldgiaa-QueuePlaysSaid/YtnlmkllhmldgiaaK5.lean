/- DERIVED. Helper words: parts of a slice of messages; append of a slice of messages. No statement is proved here. -/
import Derived.Test.YtnlmkllhmldgiaaK3
import Derived.Deep.AppendSrc
namespace Go.Proofs.Ytnlmkllhmldgiaa.K
set_option linter.unusedVariables false
set_option linter.unusedSimpArgs false
open Go.RowKit
/-- The messages behind the k-th. -/
theorem MsgsAt.drop {ok okw : Nat → Prop} {w : World} {g o n cap : Nat} {ps : List (Value × Msg)} (h : MsgsAt ok okw w (.slice (some ⟨g, o, none⟩) n cap) ps) {k : Nat} (hk : k ≤ n) : MsgsAt ok okw w (.slice (some ⟨g, o + k * 5, none⟩) (n - k) (cap - k)) (ps.drop k) := by
  obtain ⟨ao, cap', hv, ⟨h1, h2, h3⟩, hw, hx⟩ := h
  simp only [Value.slice.injEq] at hv
  obtain ⟨rfl, rfl, rfl⟩ := hv
  refine ⟨_, _, by rw [List.length_drop], ⟨by simp; omega, Nat.le_trans (Nat.sub_le _ _) h2, fun h => by cases h⟩, hw.sub (fun p hp => List.mem_of_mem_drop hp), ?_⟩
  rcases hx with rfl | ⟨g', o', e, h4, h5, h6⟩
  · exact .inl (by simp)
  · simp only [Option.some.injEq, Addr.mk.injEq] at e
    obtain ⟨rfl, rfl, _⟩ := e
    refine .inr ⟨_, _, rfl, h4, h5, fun i hi j hj => ?_⟩
    have hi' : k + i < ps.length := by simp at hi; omega
    have := h6 (k + i) hi' j hj
    rw [List.getElem_drop]
    rw [← this]
    congr 2
    rw [Nat.add_mul]; omega
/-- The first k messages. -/
theorem MsgsAt.cutTo {ok okw : Nat → Prop} {w : World} {ao : Option Addr} {n cap : Nat} {ps : List (Value × Msg)} (h : MsgsAt ok okw w (.slice ao n cap) ps) {k : Nat} (hk : k ≤ n) : MsgsAt ok okw w (.slice ao k cap) (ps.take k) := by
  obtain ⟨ao', cap', hv, ⟨h1, h2, h3⟩, hw, hx⟩ := h
  simp only [Value.slice.injEq] at hv
  obtain ⟨rfl, rfl, rfl⟩ := hv
  refine ⟨_, _, by rw [List.length_take, Nat.min_eq_left hk], ⟨by simp; omega, h2, h3⟩, hw.sub (fun p hp => List.mem_of_mem_take hp), ?_⟩
  rcases hx with rfl | ⟨g', o', e, h4, h5, h6⟩
  · exact .inl (by simp)
  · exact .inr ⟨_, _, e, h4, h5, fun i hi j hj => by
      have := h6 i (by simp at hi; omega) j hj
      rw [List.getElem_take]; exact this⟩
/-- append of a slice of messages to a row of the call's own. -/
theorem Two.wpAs {β : Type} {eb : β → List Value} {B : Nat} {w0 w : World} {Ta Tb : TypeId} {kb : Nat} {va vb : Value} {la : List (Value × Msg)} {lb : List β} {P : Program} {ops : Array Oper} {rest : List Oper} {o : Oper} {a : Act} {Q : Exit → Act → World → Prop} {t : TypeId} (hE : ElemOk P t Ta 5 56) (h : Two encM eb B w0 w Ta Tb 5 kb va vb la lb) (hgd : o.guard = none) (s x : Operand)
    (ho : o.op = .call { callee := .builtin .append, args := #[s, x], argTypes := #[t, t] }) (hs : a.eval s = va) {ok okw : Nat → Prop} {xv : Value} {ys : List (Value × Msg)} (hx : a.eval x = xv) (hr : MsgsAt ok okw w xv ys) (hlen : la.length + ys.length < 1000000)
    (k : ∀ v' w', Two encM eb B w0 w' Ta Tb 5 kb v' vb (la ++ ys) lb → w.heap.size ≤ w'.heap.size → wpList P ops Q rest (a.put o.dst v') w') :
    wpList P ops Q (o :: rest) a w := by
  obtain ⟨i, z, hi, hz0, hz1, hz2, hz3⟩ := hE.i
  obtain ⟨ao, cap, rfl⟩ := hr.shape
  by_cases h0 : ys.length = 0
  · have hy : ys = [] := List.eq_nil_of_length_eq_zero h0
    subst hy
    have hsrc := hr.src hE.u
    obtain ⟨a1, c1, rfl⟩ := own_shape h.a
    obtain ⟨v', w', hrr⟩ : ∃ v' w', (Builtin.append_ #[t, t] o.type #[.slice a1 la.length c1, .slice ao 0 cap]).run P w = .ok v' w' ∧ v' = .slice a1 la.length c1 ∧ w' = w := by
      refine ⟨_, _, run_append_nothing w t t o.type Ta i hE.u hi a1 la.length c1 ?_ (.slice ao 0 cap) ?_, rfl, rfl⟩
      · rcases h.a.2 with ⟨e, e2⟩ | ⟨g, cp, cur, e, _, _, hnc, _⟩
        · simp only [Value.slice.injEq] at e; omega
        · simp only [Value.slice.injEq] at e; omega
      · rw [hz1]; exact hsrc
    obtain ⟨hrr, rfl, rfl⟩ := hrr
    exact wpList_append_run hgd s x t ho hs hx hrr (k _ _ (by simpa using h) (Nat.le_refl _))
  · obtain ⟨ao', cap', hv, ⟨h1, h2, h3⟩, hw, hxx⟩ := hr
    simp only [Value.slice.injEq] at hv
    obtain ⟨rfl, -, rfl⟩ := hv
    rcases hxx with rfl | ⟨g, og, rfl, h4, h5, h6⟩
    · simp at h0
    · refine wpList_append_lies w hgd s x t ho B Ta i z 5 56 hE.u hi hz0 hz1 hz2 hz3 hE.pos va la.length (flat encM la) hs h.a ⟨g, og, none⟩ ys.length cap (flat encM ys) hx (flat_length encM_len ys) (fun j u hu => ?_) hw.one (by omega) (by unfold maxLen; omega) (by omega) h.le w.heap.size rfl (fun g' cap' w' hown hgr hor hlt => ?_)
      · have e1 : (⟨g, og, none⟩ : Addr).add j = ⟨g, og + j, none⟩ := by unfold Addr.add; split <;> simp_all
        have hj : j < ys.length * 5 := by have := (List.getElem?_eq_some_iff.1 hu).1; rwa [flat_length encM_len] at this
        have hi' : j / 5 < ys.length := by omega
        have h7 := h6 (j / 5) hi' (j % 5) (by omega)
        have h8 := flat_get encM_len ys [] (j / 5) (j % 5) hi' (by omega)
        have e2 : j / 5 * 5 + j % 5 = j := by omega
        rw [e2] at h7 h8
        rw [List.append_nil, hu] at h8
        rw [e1, h7, ← h8]
      · refine k _ _ ⟨by rw [List.length_append, flat_append]; exact hown, own_of h.b (fun b e => hgr.block b (own_lt h.b e) (fun e2 => h.ne b e2.symm e)), fun b hb hb2 => ?_, h.below.grown hgr h.le (fun c hc => own_block_ge h.a c hc), Nat.le_trans h.le hgr.size⟩ hgr.size
        simp only [Value.ownBlock, Option.some.injEq] at hb; subst hb
        rcases hor with e | e
        · exact h.ne _ e hb2
        · have := own_lt h.b hb2; omega
end Go.Proofs.Ytnlmkllhmldgiaa.K
