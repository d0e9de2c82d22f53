/- DERIVED. Walking by steps: append to a row of the call's own, parts of slices. No statement is proved here. -/
import Derived.Test.YtnlmkllhmldgiaaEngE
import Derived.Test.YtnlmkllhmldgiaaK6
namespace Go.Proofs.Ytnlmkllhmldgiaa.E
set_option linter.unusedVariables false
set_option linter.unusedSimpArgs false
open Go.RowKit Go.Proofs.Ytnlmkllhmldgiaa.K Go.Proofs.Ytnlmkllhmldgiaa.Gt
def encI (x : Int) : List Value := [.int .i64 x]
theorem encI_len (x : Int) : (encI x).length = 1 := rfl
theorem encI_one (x : Int) : ∀ u ∈ encI x, u.oneCell' = true := by
  intro u hu
  simp only [encI, List.mem_singleton] at hu
  subst hu; rfl
theorem flat_encI (xs : List Int) : flat encI xs = xs.map (Value.int .i64) := by
  induction xs with
  | nil => rfl
  | cons x r ih => rw [flat_cons, ih]; rfl
theorem encM_one {okw : Nat → Prop} {w : World} {ps : List (Value × Msg)} (h : WordsIn okw w ps) : ∀ p ∈ ps, ∀ u ∈ encM p, u.oneCell' = true := fun p hp u hu => h.one u (List.mem_flatMap.2 ⟨p, hp, hu⟩)
section
variable {w w' : World} {ok okw : Nat → Prop} {v : Value}
theorem ints_row {xs : List Int} (h : IntsAt ok w v xs) : RowAt encI 1 ok w v xs := by
  obtain ⟨ao, cap, hv, hl, hx⟩ := h
  refine ⟨ao, cap, hv, hl, ?_⟩
  rcases hx with hx | ⟨g, o, h1, h2, h3, h4⟩
  · exact .inl hx
  · refine .inr ⟨g, o, h1, h2, h3, fun i hi j hj => ?_⟩
    obtain rfl : j = 0 := by omega
    have := h4 i hi
    simp only [Nat.mul_one, Nat.add_zero]
    exact this
theorem row_ints {xs : List Int} (h : RowAt encI 1 ok w v xs) : IntsAt ok w v xs := by
  obtain ⟨ao, cap, hv, hl, hx⟩ := h
  refine ⟨ao, cap, hv, hl, ?_⟩
  rcases hx with hx | ⟨g, o, h1, h2, h3, h4⟩
  · exact .inl hx
  · refine .inr ⟨g, o, h1, h2, h3, fun i hi => ?_⟩
    have := h4 i hi 0 (by omega)
    simp only [Nat.mul_one, Nat.add_zero] at this
    exact this
theorem msgs_row {ps : List (Value × Msg)} (h : MsgsAt ok okw w v ps) : RowAt encM 5 ok w v ps := by
  obtain ⟨ao, cap, hv, hl, hw, hx⟩ := h
  refine ⟨ao, cap, hv, hl, ?_⟩
  rcases hx with hx | ⟨g, o, h1, h2, h3, h4⟩
  · exact .inl hx
  · exact .inr ⟨g, o, h1, h2, h3, fun i hi j hj => by have := h4 i hi j hj; rwa [Nat.add_assoc]⟩
theorem row_msgs {ps : List (Value × Msg)} (h : RowAt encM 5 ok w v ps) (hw : WordsIn okw w ps) : MsgsAt ok okw w v ps := by
  obtain ⟨ao, cap, hv, hl, hx⟩ := h
  refine ⟨ao, cap, hv, hl, hw, ?_⟩
  rcases hx with hx | ⟨g, o, h1, h2, h3, h4⟩
  · exact .inl hx
  · exact .inr ⟨g, o, h1, h2, h3, fun i hi j hj => by have := h4 i hi j hj; rwa [Nat.add_assoc] at this⟩
theorem chg_grown {row : Option Nat} (h : w.grownBy w' row) : Chg (fun x => row = some x) w w' := ⟨h.os, h.tape, h.output, h.size, fun k hk hn => h.block k hk (fun e => hn e.symm)⟩
theorem own_nil {α : Type} (enc : α → List Value) (w : World) (B : Nat) (T : TypeId) (k : Nat) : w.ownsRow B T k (.slice none 0 0) ([] : List α).length (flat enc []) := World.ownsRow_nil _ _ _ _
theorem nil_block {x : Nat} {P : Prop} (h : (Value.slice none 0 0).ownBlock = some x) : P := by cases h
end
section
variable {α : Type} {enc : α → List Value} {k bytes B n d : Nat} {m : Fm} {a : Act} {P : Program} {w : World} {Q : Exit → Act → World → Prop} {ops : Array Oper} {rest : List Oper} {o : Oper} {t T : TypeId} {v : Value} {la : List α}
/-- append of one struct to a row of the call's own. -/
theorem push (hE : ElemOk P t T k bytes) (hF : Fr n m a) (hg : o.guard = none) (hd : o.dst = some d) (hn : Nat.blt d n = true) (s x : Nat) (ho : o.op = .call { callee := .builtin .append, args := #[.tmp s, .tmp x], argTypes := #[t, t] }) (hs : a.tmps[s]?.getD undef = v) (hown : w.ownsRow B T k v la.length (flat enc la)) (hB : B ≤ w.heap.size)
    {g c : Nat} {y : α} {T' : TypeId} (hx : a.tmps[x]?.getD undef = .slice (some ⟨g, 0, none⟩) 1 c) (hp : pts w g (enc y) T') (hk : (enc y).length = k) (h1 : ∀ u ∈ enc y, u.oneCell' = true) (hlen : la.length < 1000000) (hbt : bytes ≤ 1000)
    (kk : ∀ ra rc w', w'.ownsRow B T k (.slice ra (la ++ [y]).length rc) (la ++ [y]).length (flat enc (la ++ [y])) → w.grownBy w' v.ownBlock → (∀ z, (Value.slice ra (la ++ [y]).length rc).ownBlock = some z → v.ownBlock = some z ∨ z = w.heap.size) → ∀ a', Fr n ((d, .slice ra (la ++ [y]).length rc) :: m) a' → wpList P ops Q rest a' w') : wpList P ops Q (o :: rest) a w := by
  refine wpList_push2 hg (.tmp s) (.tmp x) t ho hE (by rw [eval_tmp]; exact hs) hown hB (by rw [eval_tmp]; exact hx) (by omega) hp h1 (by omega) (by unfold maxLen; omega) (by have : (la.length + 1) * bytes ≤ 1000001 * 1000 := Nat.mul_le_mul (by omega) hbt; omega) (fun g' cap w' hown' hgr hor hlt => ?_)
  rw [hd]
  have e : la.length + 1 = (la ++ [y]).length := by simp
  rw [e] at hown' ⊢
  refine kk _ _ _ (by rw [flat_append, flat_single]; exact hown') hgr (fun z hz => ?_) _ (hF.put d _ hn)
  simp only [Value.ownBlock, Option.some.injEq] at hz
  subst hz
  exact hor
/-- append of a slice of structs to a row of the call's own. -/
theorem pushSl (hE : ElemOk P t T k bytes) (hk : ∀ x, (enc x).length = k) (hF : Fr n m a) (hg : o.guard = none) (hd : o.dst = some d) (hn : Nat.blt d n = true) (s x : Nat) (ho : o.op = .call { callee := .builtin .append, args := #[.tmp s, .tmp x], argTypes := #[t, t] }) (hs : a.tmps[s]?.getD undef = v) (hown : w.ownsRow B T k v la.length (flat enc la)) (hB : B ≤ w.heap.size)
    {ok : Nat → Prop} {xv : Value} {ys : List α} (hx : a.tmps[x]?.getD undef = xv) (hr : RowAt enc k ok w xv ys) (h1 : ∀ y ∈ ys, ∀ u ∈ enc y, u.oneCell' = true) (hlen : la.length + ys.length < 1000000) (hbt : bytes ≤ 1000)
    (kk : ∀ ra rc w', w'.ownsRow B T k (.slice ra (la ++ ys).length rc) (la ++ ys).length (flat enc (la ++ ys)) → w.grownBy w' v.ownBlock → (∀ z, (Value.slice ra (la ++ ys).length rc).ownBlock = some z → v.ownBlock = some z ∨ z = w.heap.size) → ∀ a', Fr n ((d, .slice ra (la ++ ys).length rc) :: m) a' → wpList P ops Q rest a' w') : wpList P ops Q (o :: rest) a w := by
  obtain ⟨i, z, hi, hz0, hz1, hz2, hz3⟩ := hE.i
  have hone : ∀ u ∈ flat enc ys, u.oneCell' = true := by
    intro u hu
    unfold flat at hu
    obtain ⟨y, hy, hu⟩ := List.mem_flatMap.1 hu
    exact h1 y hy u hu
  obtain ⟨ao, cap, rfl⟩ := hr.shape
  by_cases h0 : ys.length = 0
  · have hy : ys = [] := List.eq_nil_of_length_eq_zero h0
    subst hy
    have hsrc := hr.src hE.u hk hE.pos hone
    obtain ⟨a1, c1, rfl⟩ := own_shape hown
    have hrr := run_append_nothing w t t o.type T i hE.u hi a1 la.length c1 (by
      rcases hown.2 with ⟨e, e2⟩ | ⟨g, cp, cur, e, _, _, hnc, _⟩
      · simp only [Value.slice.injEq] at e; omega
      · simp only [Value.slice.injEq] at e; omega) (.slice ao 0 cap) (by rw [hz1]; exact hsrc)
    refine wpList_append_run hg (.tmp s) (.tmp x) t ho (by rw [eval_tmp]; exact hs) (by rw [eval_tmp]; exact hx) hrr ?_
    rw [hd]
    have e : la ++ [] = la := List.append_nil la
    have := kk a1 c1 w (by rw [e]; exact hown) ⟨rfl, rfl, rfl, Nat.le_refl _, fun _ _ _ => rfl⟩ (fun z hz => .inl (by rw [e] at hz; exact hz))
    rw [e] at this
    exact this _ (hF.put d _ hn)
  · obtain ⟨ao', cap', hv, ⟨h2, h3, h4⟩, hxx⟩ := hr
    simp only [Value.slice.injEq] at hv
    obtain ⟨rfl, -, rfl⟩ := hv
    rcases hxx with rfl | ⟨g, og, rfl, h5, h6, h7⟩
    · simp at h0
    · have hbm : (la.length + ys.length) * bytes ≤ 1000000 * 1000 := Nat.mul_le_mul (by omega) hbt
      refine wpList_append_lies w hg (.tmp s) (.tmp x) t ho B T i z k bytes hE.u hi hz0 hz1 hz2 hz3 hE.pos v la.length (flat enc la) (by rw [eval_tmp]; exact hs) hown ⟨g, og, none⟩ ys.length cap (flat enc ys) (by rw [eval_tmp]; exact hx) (flat_length hk ys) (fun j u hu => ?_) hone (by omega) (by unfold maxLen; omega) (by omega) hB w.heap.size rfl (fun g' cap' w' hown' hgr hor hlt => ?_)
      · have e1 : (⟨g, og, none⟩ : Addr).add j = ⟨g, og + j, none⟩ := by unfold Addr.add; split <;> simp_all
        rw [e1]; exact flat_cells hk hE.pos h7 j u hu
      · rw [hd]
        have e : la.length + ys.length = (la ++ ys).length := by simp
        rw [e] at hown' ⊢
        refine kk _ _ _ (by rw [flat_append]; exact hown') hgr (fun z hz => ?_) _ (hF.put d _ hn)
        simp only [Value.ownBlock, Option.some.injEq] at hz
        subst hz
        exact hor
end
/-- The address of a part of a slice. -/
def sl (ao : Option Addr) (k l cap : Nat) : Option Addr := if cap = l then ao else ao.map (·.add (l * k))
section
variable {α : Type} {enc : α → List Value} {k : Nat} {ok : Nat → Prop} {w : World} {ao : Option Addr} {cap : Nat} {xs : List α}
theorem RowAt.sl (h : RowAt enc k ok w (.slice ao xs.length cap) xs) {l hi : Nat} (h1 : l ≤ hi) (h2 : hi ≤ xs.length) : RowAt enc k ok w (.slice (E.sl ao k l cap) ((xs.take hi).drop l).length (cap - l)) ((xs.take hi).drop l) := by
  have ht := h.cutTo h2
  have hcap := h.get.2.1
  by_cases hc : cap = l
  · have hl : l = xs.length := by omega
    have e : (xs.take hi).drop l = [] := List.drop_eq_nil_of_le (by simp; omega)
    rw [e]
    unfold E.sl
    rw [if_pos hc, hc, Nat.sub_self]
    exact ⟨ao, 0, rfl, ⟨Nat.le_refl _, by unfold maxLen; omega, fun _ => rfl⟩, .inl rfl⟩
  · unfold E.sl
    rw [if_neg hc]
    cases ao with
    | none =>
      obtain ⟨ao', cap', hv, ⟨_, _, h4⟩, _⟩ := h
      simp only [Value.slice.injEq] at hv
      obtain ⟨rfl, -, rfl⟩ := hv
      have := h4 rfl
      omega
    | some ad =>
      have hcm := h.get.2.2.1
      rcases Nat.lt_or_ge l hi with hlt | hge
      · obtain ⟨g, o, e, _⟩ := h.get.2.2.2 l (by omega)
        simp only [Option.some.injEq] at e
        subst e
        have hd := ht.drop (m := l) h1
        have e1 : (⟨g, o, none⟩ : Addr).add (l * k) = ⟨g, o + l * k, none⟩ := by unfold Addr.add; split <;> simp_all
        have e2 : hi - l = ((xs.take hi).drop l).length := by simp; omega
        rw [e2] at hd
        simp only [Option.map_some, e1]
        exact hd
      · have e : (xs.take hi).drop l = [] := List.drop_eq_nil_of_le (by simp; omega)
        rw [e]
        exact ⟨_, _, rfl, ⟨Nat.zero_le _, by unfold maxLen; omega, fun h => by cases h⟩, .inl rfl⟩
theorem RowAt.from (h : RowAt enc k ok w (.slice ao xs.length cap) xs) {l : Nat} (h1 : l ≤ xs.length) : RowAt enc k ok w (.slice (E.sl ao k l cap) (xs.drop l).length (cap - l)) (xs.drop l) := by
  have := RowAt.sl h h1 (Nat.le_refl _)
  rwa [List.take_length] at this
theorem RowAt.to (h : RowAt enc k ok w (.slice ao xs.length cap) xs) {hi : Nat} (h2 : hi ≤ xs.length) : RowAt enc k ok w (.slice ao (xs.take hi).length cap) (xs.take hi) := by
  have := h.cutTo h2
  have e : hi = (xs.take hi).length := by simp; omega
  rw [← e]; exact this
variable {P : Program} {o : Oper} {a : Act} {t e : TypeId} {i : TypeInfo}
theorem run_bound {y l : Nat} (c : BoundsCode) (h : l ≤ y) : (Instr.sliceBound (.int .i64 (l : Int)) y c).run P w = .ok l w := by
  have h1 : (0 : Int) ≤ l ∧ (l : Int) ≤ y := by omega
  simp [Instr.sliceBound, go_sem, h1]
theorem xFrom {s : Nat} {x : Operand} {l : Nat} (ho : o.op = .slice t (.tmp s) (some x) none none) (hs : a.tmps[s]?.getD undef = .slice ao xs.length cap) (hl : a.eval x = .int .i64 (l : Int)) (hu : P.underlying t = some (.slice e)) (hi : (P.info? e).map (·.size) = some k) (h1 : l ≤ xs.length) (h2 : xs.length ≤ cap) : (execOp a.eval o).run P w = .ok (.value (.slice (sl ao k l cap) (xs.drop l).length (cap - l))) w := by
  unfold execOp
  simp only [ho, eval_tmp, hs, hl, Option.map_some, Option.map_none, Instr.sliceAt, Instr.slice, Sem.run_bind, run_underlying hu, Result.andThen_ok, Instr.sliceBounds, Sem.run_pure, Bool.false_eq_true, Option.isSome_none, if_false, run_bound (.sliceB) h1, run_size hi]
  simp [sl]
theorem xTo {s : Nat} {x : Operand} {l : Nat} (ho : o.op = .slice t (.tmp s) none (some x) none) (hs : a.tmps[s]?.getD undef = .slice ao xs.length cap) (hl : a.eval x = .int .i64 (l : Int)) (hu : P.underlying t = some (.slice e)) (hi : (P.info? e).map (·.size) = some k) (h1 : l ≤ xs.length) (h2 : xs.length ≤ cap) : (execOp a.eval o).run P w = .ok (.value (.slice ao (xs.take l).length cap)) w := by
  have h4 : min l xs.length = l := by omega
  unfold execOp
  simp only [ho, eval_tmp, hs, hl, Option.map_some, Option.map_none, Instr.sliceAt, Instr.slice, Sem.run_bind, run_underlying hu, Result.andThen_ok, Instr.sliceBounds, Sem.run_pure, Bool.false_eq_true, Option.isSome_none, if_true, run_bound (.sliceAcap) (Nat.le_trans h1 h2), run_size hi]
  cases ao <;> simp [h4, Addr.add]
end
end Go.Proofs.Ytnlmkllhmldgiaa.E
