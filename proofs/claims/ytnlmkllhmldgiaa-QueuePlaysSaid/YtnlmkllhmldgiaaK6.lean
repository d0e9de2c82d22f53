/- DERIVED. Helper words: slices of structs, whatever the struct: reading, parts of them, append of one to a row of the call's own. No statement is proved here. -/
import Derived.Test.YtnlmkllhmldgiaaK3
import Derived.Deep.AppendSrc
namespace Go.Proofs.Ytnlmkllhmldgiaa.K
set_option linter.unusedVariables false
set_option linter.unusedSimpArgs false
open Go.RowKit
section
variable {α : Type} {enc : α → List Value} {k : Nat}
/-- A slice of structs of k cells that reads as l; its block meets ok. -/
def RowAt (enc : α → List Value) (k : Nat) (ok : Nat → Prop) (w : World) (v : Value) (l : List α) : Prop :=
  ∃ ao cap, v = .slice ao l.length cap ∧ (l.length ≤ cap ∧ cap ≤ maxLen ∧ (ao = none → cap = 0)) ∧ (l = [] ∨ ∃ g o, ao = some ⟨g, o, none⟩ ∧ ok g ∧ g < w.heap.size ∧ ∀ i (_ : i < l.length) j, j < k → w.cell? ⟨g, o + i * k + j, none⟩ = (enc l[i])[j]?)
variable {ok ok' : Nat → Prop} {w w' : World} {v : Value} {l : List α}
theorem RowAt.kept (h : RowAt enc k ok w v l) (hs : w.heap.size ≤ w'.heap.size) (hk : ∀ b, ok b → b < w.heap.size → w'.heap[b]? = w.heap[b]?) : RowAt enc k ok w' v l := by
  obtain ⟨ao, cap, hv, hl, hx⟩ := h
  refine ⟨ao, cap, hv, hl, ?_⟩
  rcases hx with hx | ⟨g, o, h1, h2, h3, h4⟩
  · exact .inl hx
  · exact .inr ⟨g, o, h1, h2, by omega, fun i hi j hj => (World.cell?_of_block (hk g h2 h3)).trans (h4 i hi j hj)⟩
theorem RowAt.mono (h : RowAt enc k ok w v l) (hk : ∀ b, ok b → b < w.heap.size → ok' b) : RowAt enc k ok' w v l := by
  obtain ⟨ao, cap, hv, hl, hx⟩ := h
  refine ⟨ao, cap, hv, hl, ?_⟩
  rcases hx with hx | ⟨g, o, h1, h2, h3, h4⟩
  · exact .inl hx
  · exact .inr ⟨g, o, h1, hk g h2 h3, h3, h4⟩
theorem RowAt.below (h : RowAt enc k ok w v l) (hb : Below w.heap.size w w') : RowAt enc k ok w' v l := h.kept hb.size (fun b _ hb' => hb.block b hb')
theorem RowAt.chg {M : Nat → Prop} (h : RowAt enc k ok w v l) (hc : Chg M w w') (hM : ∀ b, ok b → b < w.heap.size → ¬ M b) : RowAt enc k ok w' v l := h.kept hc.size (fun b h1 h2 => hc.block b h2 (hM b h1 h2))
theorem RowAt.nil (enc : α → List Value) (k : Nat) (ok : Nat → Prop) (w : World) : RowAt enc k ok w (.slice none 0 0) [] := ⟨none, 0, rfl, ⟨by simp, by simp, fun _ => rfl⟩, .inl rfl⟩
theorem RowAt.shape (h : RowAt enc k ok w v l) : ∃ ao cap, v = .slice ao l.length cap := let ⟨ao, cap, hv, _⟩ := h; ⟨ao, cap, hv⟩
theorem RowAt.get {ao : Option Addr} {n cap : Nat} (h : RowAt enc k ok w (.slice ao n cap) l) : n = l.length ∧ n ≤ cap ∧ cap ≤ 9223372036854775807 ∧ ∀ i (_ : i < l.length), ∃ g o, ao = some ⟨g, o, none⟩ ∧ ok g ∧ g < w.heap.size ∧ ∀ j, j < k → w.cell? ⟨g, o + i * k + j, none⟩ = (enc l[i])[j]? := by
  obtain ⟨ao', cap', hv, ⟨h1, h2, _⟩, hx⟩ := h
  simp only [Value.slice.injEq] at hv
  obtain ⟨rfl, rfl, rfl⟩ := hv
  refine ⟨rfl, h1, by simpa [maxLen] using h2, fun i hi => ?_⟩
  rcases hx with rfl | ⟨g, o, h3, h4, h5, h6⟩
  · simp at hi
  · exact ⟨g, o, h3, h4, h5, h6 i hi⟩
theorem RowAt.of_own {base : Nat} {T : TypeId} (hk : ∀ x, (enc x).length = k) {n : Nat} (h : w.ownsRow base T k v n (flat enc l)) (hn : n = l.length) : RowAt enc k (fun b => base ≤ b) w v l := by
  subst hn
  rcases Nat.eq_zero_or_pos l.length with h0 | h0
  · have hl : l = [] := List.eq_nil_of_length_eq_zero h0
    subst hl
    rcases h.2 with ⟨rfl, _⟩ | ⟨g, cap, cur, rfl, _, _, h1, h2, _⟩
    · exact RowAt.nil _ _ _ _
    · exact ⟨_, cap, rfl, ⟨h1, h2, fun h => (by cases h)⟩, .inl rfl⟩
  · obtain ⟨g, cap, ex, rfl, hg, hp, h1, h2⟩ := own_split h h0
    refine ⟨_, cap, rfl, ⟨h1, h2, fun h => (by cases h)⟩, .inr ⟨g, 0, rfl, hg, hp.lt, fun i hi j hj => ?_⟩⟩
    rw [Nat.zero_add, hp.cell]
    exact flat_get hk l ex i j hi hj
theorem RowAt.drop {g o n cap : Nat} (h : RowAt enc k ok w (.slice (some ⟨g, o, none⟩) n cap) l) {m : Nat} (hm : m ≤ n) : RowAt enc k ok w (.slice (some ⟨g, o + m * k, none⟩) (n - m) (cap - m)) (l.drop m) := by
  obtain ⟨ao, cap', hv, ⟨h1, h2, h3⟩, hx⟩ := h
  simp only [Value.slice.injEq] at hv
  obtain ⟨rfl, rfl, rfl⟩ := hv
  refine ⟨_, _, by rw [List.length_drop], ⟨by simp; omega, Nat.le_trans (Nat.sub_le _ _) h2, fun h => by cases h⟩, ?_⟩
  rcases hx with rfl | ⟨g', o', e, h4, h5, h6⟩
  · exact .inl (by simp)
  · simp only [Option.some.injEq, Addr.mk.injEq] at e
    obtain ⟨rfl, rfl, _⟩ := e
    refine .inr ⟨_, _, rfl, h4, h5, fun i hi j hj => ?_⟩
    have hi' : m + i < l.length := by simp at hi; omega
    have := h6 (m + i) hi' j hj
    rw [List.getElem_drop]
    rw [← this]
    congr 2
    rw [Nat.add_mul]; omega
theorem RowAt.cutTo {ao : Option Addr} {n cap : Nat} (h : RowAt enc k ok w (.slice ao n cap) l) {m : Nat} (hm : m ≤ n) : RowAt enc k ok w (.slice ao m cap) (l.take m) := by
  obtain ⟨ao', cap', hv, ⟨h1, h2, h3⟩, hx⟩ := h
  simp only [Value.slice.injEq] at hv
  obtain ⟨rfl, rfl, rfl⟩ := hv
  refine ⟨_, _, by rw [List.length_take, Nat.min_eq_left hm], ⟨by simp; omega, h2, h3⟩, ?_⟩
  rcases hx with rfl | ⟨g', o', e, h4, h5, h6⟩
  · exact .inl (by simp)
  · exact .inr ⟨_, _, e, h4, h5, fun i hi j hj => by
      have := h6 i (by simp at hi; omega) j hj
      rw [List.getElem_take]; exact this⟩
theorem flat_cells (hk : ∀ x, (enc x).length = k) (hk0 : 0 < k) {g o : Nat} (h : ∀ i (_ : i < l.length) j, j < k → w.cell? ⟨g, o + i * k + j, none⟩ = (enc l[i])[j]?) (j : Nat) (u : Value) (hu : (flat enc l)[j]? = some u) : w.cell? ⟨g, o + j, none⟩ = some u := by
  have hj : j < l.length * k := by have := (List.getElem?_eq_some_iff.1 hu).1; rwa [flat_length hk] at this
  have hi : j / k < l.length := Nat.div_lt_of_lt_mul (by rw [Nat.mul_comm]; exact hj)
  have hr : j % k < k := Nat.mod_lt _ hk0
  have h7 := h (j / k) hi (j % k) hr
  have h8 := flat_get hk l [] (j / k) (j % k) hi hr
  have e2 : j / k * k + j % k = j := by rw [Nat.mul_comm]; exact Nat.div_add_mod j k
  rw [Nat.add_assoc, e2] at h7
  rw [e2, List.append_nil, hu] at h8
  rw [h7, ← h8]
theorem RowAt.src {P : Program} {tx e' : TypeId} (ht : P.underlying tx = some (.slice e')) (hk : ∀ x, (enc x).length = k) (hk0 : 0 < k) (h1 : ∀ u ∈ flat enc l, u.oneCell' = true) {ao : Option Addr} {n cap : Nat} (h : RowAt enc k ok w (.slice ao n cap) l) : Src P k tx (.slice ao n cap) n (flat enc l) w := by
  obtain ⟨ao', cap', hv, ⟨h2, h3, h4⟩, hx⟩ := h
  simp only [Value.slice.injEq] at hv
  obtain ⟨rfl, rfl, rfl⟩ := hv
  have some_case : ∀ a, ao = some a → (∀ j u, (flat enc l)[j]? = some u → w.cell? (a.add j) = some u) → Src P k tx (.slice ao l.length cap) l.length (flat enc l) w := by
    rintro a rfl hn
    exact Src.ofSlice w ht a _ _ _ (flat_length hk l) hn h1
  rcases hx with rfl | ⟨g, o, rfl, h5, h6, h7⟩
  · cases ao with
    | none => exact Src.ofNil w ht cap
    | some a => exact some_case a rfl (fun j u hu => by simp [flat] at hu)
  · refine some_case _ rfl (fun j u hu => ?_)
    have e1 : (⟨g, o, none⟩ : Addr).add j = ⟨g, o + j, none⟩ := by unfold Addr.add; split <;> simp_all
    rw [e1]; exact flat_cells hk hk0 h7 j u hu
end
/-- append of a slice of structs to a row of the call's own. -/
theorem Two.wpSl {α β : Type} {enc : α → List Value} {ka : Nat} {eb : β → List Value} {B : Nat} {w0 w : World} {Ta Tb : TypeId} {kb : Nat} {va vb : Value} {la : List α} {lb : List β} {P : Program} {ops : Array Oper} {rest : List Oper} {o : Oper} {a : Act} {Q : Exit → Act → World → Prop} {t : TypeId} {bytes : Nat} (hE : ElemOk P t Ta ka bytes) (hk : ∀ x, (enc x).length = ka) (h1c : ∀ x, ∀ u ∈ enc x, u.oneCell' = true) (h : Two enc eb B w0 w Ta Tb ka kb va vb la lb) (hgd : o.guard = none) (s x : Operand)
    (ho : o.op = .call { callee := .builtin .append, args := #[s, x], argTypes := #[t, t] }) (hs : a.eval s = va) {ok : Nat → Prop} {xv : Value} {ys : List α} (hx : a.eval x = xv) (hr : RowAt enc ka ok w xv ys) (hlen : la.length + ys.length < 1000000) (hbt : bytes ≤ 1000)
    (kk : ∀ v' w', Two enc eb B w0 w' Ta Tb ka kb v' vb (la ++ ys) lb → w.heap.size ≤ w'.heap.size → wpList P ops Q rest (a.put o.dst v') w') :
    wpList P ops Q (o :: rest) a w := by
  obtain ⟨i, z, hi, hz0, hz1, hz2, hz3⟩ := hE.i
  have hone : ∀ u ∈ flat enc ys, u.oneCell' = true := by
    intro u hu
    unfold flat at hu
    obtain ⟨y, _, hy⟩ := List.mem_flatMap.1 hu
    exact h1c y u hy
  obtain ⟨ao, cap, rfl⟩ := hr.shape
  by_cases h0 : ys.length = 0
  · have hy : ys = [] := List.eq_nil_of_length_eq_zero h0
    subst hy
    have hsrc := hr.src hE.u hk hE.pos hone
    obtain ⟨a1, c1, rfl⟩ := own_shape h.a
    obtain ⟨v', w', hrr⟩ : ∃ v' w', (Builtin.append_ #[t, t] o.type #[.slice a1 la.length c1, .slice ao 0 cap]).run P w = .ok v' w' ∧ v' = .slice a1 la.length c1 ∧ w' = w := by
      refine ⟨_, _, run_append_nothing w t t o.type Ta i hE.u hi a1 la.length c1 ?_ (.slice ao 0 cap) ?_, rfl, rfl⟩
      · rcases h.a.2 with ⟨e, e2⟩ | ⟨g, cp, cur, e, _, _, hnc, _⟩
        · simp only [Value.slice.injEq] at e; omega
        · simp only [Value.slice.injEq] at e; omega
      · rw [hz1]; exact hsrc
    obtain ⟨hrr, rfl, rfl⟩ := hrr
    exact wpList_append_run hgd s x t ho hs hx hrr (kk _ _ (by simpa using h) (Nat.le_refl _))
  · obtain ⟨ao', cap', hv, ⟨h1, h2, h3⟩, hxx⟩ := hr
    simp only [Value.slice.injEq] at hv
    obtain ⟨rfl, -, rfl⟩ := hv
    rcases hxx with rfl | ⟨g, og, rfl, h4, h5, h6⟩
    · simp at h0
    · have hbm : (la.length + ys.length) * bytes ≤ 1000000 * 1000 := Nat.mul_le_mul (by omega) hbt
      refine wpList_append_lies w hgd s x t ho B Ta i z ka bytes hE.u hi hz0 hz1 hz2 hz3 hE.pos va la.length (flat enc la) hs h.a ⟨g, og, none⟩ ys.length cap (flat enc ys) hx (flat_length hk ys) (fun j u hu => ?_) hone (by omega) (by unfold maxLen; omega) (by omega) h.le w.heap.size rfl (fun g' cap' w' hown hgr hor hlt => ?_)
      · have e1 : (⟨g, og, none⟩ : Addr).add j = ⟨g, og + j, none⟩ := by unfold Addr.add; split <;> simp_all
        rw [e1]; exact flat_cells hk hE.pos h6 j u hu
      · refine kk _ _ ⟨by rw [List.length_append, flat_append]; exact hown, own_of h.b (fun b e => hgr.block b (own_lt h.b e) (fun e2 => h.ne b e2.symm e)), fun b hb hb2 => ?_, h.below.grown hgr h.le (fun c hc => own_block_ge h.a c hc), Nat.le_trans h.le hgr.size⟩ hgr.size
        simp only [Value.ownBlock, Option.some.injEq] at hb; subst hb
        rcases hor with e | e
        · exact h.ne _ e hb2
        · have := own_lt h.b hb2; omega
end Go.Proofs.Ytnlmkllhmldgiaa.K
