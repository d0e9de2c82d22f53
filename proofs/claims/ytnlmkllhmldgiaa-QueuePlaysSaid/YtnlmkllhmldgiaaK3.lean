/- DERIVED. Helper words: two rows of a call's own, of structs of any kind, that stand apart; append to one of them; what is known of all that was there at the start. No statement is proved here. -/
import Derived.Test.YtnlmkllhmldgiaaK2
import Derived.Test.YtnlmkllhmldgiaaKM
namespace Go.Proofs.Ytnlmkllhmldgiaa.K
set_option linter.unusedVariables false
set_option linter.unusedSimpArgs false
open Go.RowKit
theorem own_at {w : World} {base : Nat} {T : TypeId} {k n : Nat} {v : Value} {xs : List Value} (h : w.ownsRow base T k v n xs) {b : Nat} (hb : v.ownBlock = some b) : ∃ cs, w.heap[b]? = some (.cells cs T (0, 0)) := by
  rcases h.2 with ⟨rfl, _⟩ | ⟨g, cap, cur, rfl, _, hh, _⟩
  · cases hb
  · simp only [Value.ownBlock, Option.some.injEq] at hb
    subst hb
    exact ⟨cur, hh⟩
theorem own_of {w w' : World} {base : Nat} {T : TypeId} {k n : Nat} {v : Value} {cs : List Value} (h : w.ownsRow base T k v n cs) (e : ∀ b, v.ownBlock = some b → w'.heap[b]? = w.heap[b]?) : w'.ownsRow base T k v n cs := by
  refine ⟨h.1, ?_⟩
  rcases h.2 with h1 | ⟨g, cap, cur, rfl, h2, hh, h3⟩
  · exact .inl h1
  · exact .inr ⟨g, cap, cur, rfl, h2, (e g rfl).trans hh, h3⟩
theorem own_shape {w : World} {base : Nat} {T : TypeId} {k n : Nat} {v : Value} {cs : List Value} (h : w.ownsRow base T k v n cs) : ∃ ao cap, v = .slice ao n cap := by
  rcases h.2 with ⟨rfl, rfl⟩ | ⟨g, cap, cur, rfl, _⟩
  · exact ⟨_, _, rfl⟩
  · exact ⟨_, _, rfl⟩
theorem own_mono {w : World} {base base' : Nat} {T : TypeId} {k n : Nat} {v : Value} {cs : List Value} (h : w.ownsRow base T k v n cs) (hb : base' ≤ base) : w.ownsRow base' T k v n cs := by
  refine ⟨h.1, ?_⟩
  rcases h.2 with h1 | ⟨g, cap, cur, h1, h2, h3⟩
  · exact .inl h1
  · exact .inr ⟨g, cap, cur, h1, by omega, h3⟩
theorem own_lt {w : World} {base : Nat} {T : TypeId} {k n : Nat} {v : Value} {cs : List Value} (h : w.ownsRow base T k v n cs) {b : Nat} (hb : v.ownBlock = some b) : b < w.heap.size := by
  obtain ⟨cs, hc⟩ := own_at h hb
  exact (Array.getElem?_eq_some_iff.1 hc).1
/-- Two rows of the call's own, from B on, apart; below B all is as at w0. -/
structure Two {α β : Type} (ea : α → List Value) (eb : β → List Value) (B : Nat) (w0 w : World) (Ta Tb : TypeId) (ka kb : Nat) (va vb : Value) (la : List α) (lb : List β) : Prop where
  a : w.ownsRow B Ta ka va la.length (flat ea la)
  b : w.ownsRow B Tb kb vb lb.length (flat eb lb)
  ne : ∀ x, va.ownBlock = some x → vb.ownBlock ≠ some x
  below : Below B w0 w
  le : B ≤ w.heap.size
section
variable {α β : Type} {ea : α → List Value} {eb : β → List Value} {B : Nat} {w0 w w' : World} {Ta Tb : TypeId} {ka kb : Nat} {va vb : Value} {la : List α} {lb : List β}
theorem Two.start (ea : α → List Value) (eb : β → List Value) (Ta Tb : TypeId) (ka kb : Nat) (h : Below B w0 w) (le : B ≤ w.heap.size) : Two ea eb B w0 w Ta Tb ka kb (.slice none 0 0) (.slice none 0 0) [] [] :=
  ⟨World.ownsRow_nil _ _ _ _, World.ownsRow_nil _ _ _ _, fun b h => (by cases h), h, le⟩
theorem Two.next (h : Two ea eb B w0 w Ta Tb ka kb va vb la lb) (hb : Below w.heap.size w w') : Two ea eb B w0 w' Ta Tb ka kb va vb la lb :=
  ⟨own_of h.a (fun b e => hb.block b (own_lt h.a e)), own_of h.b (fun b e => hb.block b (own_lt h.b e)), h.ne, h.below.trans (hb.mono h.le), Nat.le_trans h.le hb.size⟩
theorem Two.alloc (h : Two ea eb B w0 w Ta Tb ka kb va vb la lb) (o : Obj) : Two ea eb B w0 (w.alloc o) Ta Tb ka kb va vb la lb := h.next ((Below.refl _ _).alloc (Nat.le_refl _) _)
theorem Two.drew (h : Two ea eb B w0 w Ta Tb ka kb va vb la lb) : Two ea eb B w0 w.drew Ta Tb ka kb va vb la lb := h.next (Below.refl _ _).drew
theorem Two.swap (h : Two ea eb B w0 w Ta Tb ka kb va vb la lb) : Two eb ea B w0 w Tb Ta kb ka vb va lb la := ⟨h.b, h.a, fun x e1 e2 => h.ne x e2 e1, h.below, h.le⟩
theorem Two.shapes (h : Two ea eb B w0 w Ta Tb ka kb va vb la lb) : (∃ ao cap, va = .slice ao la.length cap) ∧ (∃ bo cap, vb = .slice bo lb.length cap) := ⟨own_shape h.a, own_shape h.b⟩
theorem Two.push (h : Two ea eb B w0 w Ta Tb ka kb va vb la lb) {g' cap : Nat} {x : α} (hown : w'.ownsRow B Ta ka (.slice (some ⟨g', 0, none⟩) (la.length + 1) cap) (la.length + 1) (flat ea la ++ ea x)) (hg : w.grownBy w' va.ownBlock) (hor : va.ownBlock = some g' ∨ g' = w.heap.size) :
    Two ea eb B w0 w' Ta Tb ka kb (.slice (some ⟨g', 0, none⟩) (la.length + 1) cap) vb (la ++ [x]) lb := by
  refine ⟨by rw [List.length_append, flat_append, flat_single]; exact hown, own_of h.b (fun b e => hg.block b (own_lt h.b e) (fun e2 => h.ne b e2.symm e)), fun b hb hb2 => ?_, h.below.grown hg h.le (fun c hc => own_block_ge h.a c hc), Nat.le_trans h.le hg.size⟩
  simp only [Value.ownBlock, Option.some.injEq] at hb; subst hb
  rcases hor with e | e
  · exact h.ne _ e hb2
  · have := own_lt h.b hb2; omega
/-- append of one element to the first row. -/
theorem Two.wpA {P : Program} {ops : Array Oper} {rest : List Oper} {o : Oper} {a : Act} {Q : Exit → Act → World → Prop} {t : TypeId} {bytes : Nat} (hE : ElemOk P t Ta ka bytes) (h : Two ea eb B w0 w Ta Tb ka kb va vb la lb) (hgd : o.guard = none) (s x : Operand)
    (ho : o.op = .call { callee := .builtin .append, args := #[s, x], argTypes := #[t, t] }) (hs : a.eval s = va) {g c : Nat} {y : α} (hx : a.eval x = .slice (some ⟨g, 0, none⟩) 1 c) {T : TypeId} {fr : Nat × Nat} (hg : w.heap[g]? = some (.cells (ea y).toArray T fr)) (hl : (ea y).length = ka) (h1 : ∀ u ∈ ea y, u.oneCell' = true)
    (hlen : la.length < 1000000) (hbt : bytes ≤ 1000) (k : ∀ g' cap w', Two ea eb B w0 w' Ta Tb ka kb (.slice (some ⟨g', 0, none⟩) (la.length + 1) cap) vb (la ++ [y]) lb → w.heap.size ≤ w'.heap.size → wpList P ops Q rest (a.put o.dst (.slice (some ⟨g', 0, none⟩) (la.length + 1) cap)) w') :
    wpList P ops Q (o :: rest) a w :=
  wpList_push2 hgd s x t ho hE hs h.a h.le hx (by omega) hg h1 (by omega) (by unfold maxLen; omega) (by have : (la.length + 1) * bytes ≤ 1000001 * 1000 := Nat.mul_le_mul (by omega) hbt; omega)
    (fun g' cap w' hown hgr hor _ => k g' cap w' (h.push hown hgr hor) hgr.size)
/-- append of one element to the second row. -/
theorem Two.wpB {P : Program} {ops : Array Oper} {rest : List Oper} {o : Oper} {a : Act} {Q : Exit → Act → World → Prop} {t : TypeId} {bytes : Nat} (hE : ElemOk P t Tb kb bytes) (h : Two ea eb B w0 w Ta Tb ka kb va vb la lb) (hgd : o.guard = none) (s x : Operand)
    (ho : o.op = .call { callee := .builtin .append, args := #[s, x], argTypes := #[t, t] }) (hs : a.eval s = vb) {g c : Nat} {y : β} (hx : a.eval x = .slice (some ⟨g, 0, none⟩) 1 c) {T : TypeId} {fr : Nat × Nat} (hg : w.heap[g]? = some (.cells (eb y).toArray T fr)) (hl : (eb y).length = kb) (h1 : ∀ u ∈ eb y, u.oneCell' = true)
    (hlen : lb.length < 1000000) (hbt : bytes ≤ 1000) (k : ∀ g' cap w', Two ea eb B w0 w' Ta Tb ka kb va (.slice (some ⟨g', 0, none⟩) (lb.length + 1) cap) la (lb ++ [y]) → w.heap.size ≤ w'.heap.size → wpList P ops Q rest (a.put o.dst (.slice (some ⟨g', 0, none⟩) (lb.length + 1) cap)) w') :
    wpList P ops Q (o :: rest) a w :=
  h.swap.wpA hE hgd s x ho hs hx hg hl h1 hlen hbt (fun g' cap w' h2 hz => k g' cap w' h2.swap hz)
end
theorem filter_take {α : Type} {l : List α} {k : Nat} (f : α → Bool) (h : k < l.length) : (l.take (k + 1)).filter f = (l.take k).filter f ++ (if f l[k] then [l[k]] else []) := by
  rw [List.take_succ_eq_append_getElem h, List.filter_append]
  cases hf : f l[k] <;> simp [hf]
theorem filter_take_le {α : Type} (l : List α) (k : Nat) (f : α → Bool) : ((l.take k).filter f).length ≤ k := Nat.le_trans (List.length_filter_le _ _) (by simp; omega)
/-- M, and all blocks that have come. -/
def grow (M : Nat → Prop) (w w' : World) : Nat → Prop := fun b => M b ∨ (w.heap.size ≤ b ∧ b < w'.heap.size)
/-- Below base all is as at w0; M's blocks are from base on, and there. -/
structure Wd (base : Nat) (w0 w : World) (M : Nat → Prop) : Prop where
  below : Below base w0 w
  ge : ∀ b, M b → base ≤ b
  lt : ∀ b, M b → b < w.heap.size
  le : base ≤ w.heap.size
theorem Wd.chg {base : Nat} {w0 w w' : World} {M : Nat → Prop} (h : Wd base w0 w M) (hc : Chg M w w') : Wd base w0 w' (grow M w w') :=
  ⟨h.below.trans (hc.toBelow h.le h.ge), fun b hb => by rcases hb with hb | hb; exact h.ge b hb; exact Nat.le_trans h.le hb.1, fun b hb => by rcases hb with hb | hb; exact Nat.lt_of_lt_of_le (h.lt b hb) hc.size; exact hb.2, Nat.le_trans h.le hc.size⟩
theorem Wd.next {base : Nat} {w0 w w' : World} {M : Nat → Prop} (h : Wd base w0 w M) (hb : Below w.heap.size w w') : Wd base w0 w' M := ⟨h.below.trans (hb.mono h.le), h.ge, fun b m => Nat.lt_of_lt_of_le (h.lt b m) hb.size, Nat.le_trans h.le hb.size⟩
theorem Wd.none {base : Nat} {w0 w : World} (h : Below base w0 w) (hl : base ≤ w.heap.size) : Wd base w0 w (fun _ => False) := ⟨h, fun _ h => h.elim, fun _ h => h.elim, hl⟩
/-- What stands in no block of M stands in none of M's, grown. -/
theorem IntsAt.grow {M : Nat → Prop} {w w' : World} {v : Value} {xs : List Int} (h : IntsAt (fun b => ¬ M b) w v xs) (hc : Chg M w w') : IntsAt (fun b => ¬ grow M w w' b) w' v xs := by
  obtain ⟨ao, cap, hv, hl, hx⟩ := h
  refine ⟨ao, cap, hv, hl, ?_⟩
  rcases hx with hx | ⟨g, o, h1, h2, h3, h4⟩
  · exact .inl hx
  · exact .inr ⟨g, o, h1, fun hm => by rcases hm with hm | hm; exact h2 hm; omega, Nat.lt_of_lt_of_le h3 hc.size, fun i hi => (World.cell?_of_block (hc.block g h3 h2)).trans (h4 i hi)⟩
theorem WordsIn.grow {M : Nat → Prop} {w w' : World} {ps : List (Value × Msg)} (h : WordsIn (fun b => ¬ M b) w ps) (hc : Chg M w w') : WordsIn (fun b => ¬ grow M w w' b) w' ps := fun p hp => (h p hp).grow hc
theorem MsgsAt.grow {M : Nat → Prop} {w w' : World} {v : Value} {ps : List (Value × Msg)} (h : MsgsAt (fun b => ¬ M b) (fun b => ¬ M b) w v ps) (hc : Chg M w w') : MsgsAt (fun b => ¬ K.grow M w w' b) (fun b => ¬ K.grow M w w' b) w' v ps := by
  obtain ⟨ao, cap, hv, hl, hw, hx⟩ := h
  refine ⟨ao, cap, hv, hl, hw.grow hc, ?_⟩
  rcases hx with hx | ⟨g, o, h1, h2, h3, h4⟩
  · exact .inl hx
  · exact .inr ⟨g, o, h1, fun hm => by rcases hm with hm | hm; exact h2 hm; omega, Nat.lt_of_lt_of_le h3 hc.size, fun i hi j hj => (World.cell?_of_block (hc.block g h3 h2)).trans (h4 i hi j hj)⟩
/-- A message's five cells at a place. -/
structure At5 (w : World) (g o : Nat) (sv : Value) (m : Msg) : Prop where
  c0 : w.cell? ⟨g, o, none⟩ = some sv
  c1 : w.cell? ⟨g, o + 1, none⟩ = some (.int .i64 m.lane)
  c2 : w.cell? ⟨g, o + 2, none⟩ = some (.int .i64 m.stamp)
  c3 : w.cell? ⟨g, o + 3, none⟩ = some (.int .i64 m.late)
  c4 : w.cell? ⟨g, o + 4, none⟩ = some (.int .i64 m.seq)
  lt : g < w.heap.size
theorem At5.of {w w' : World} {g o : Nat} {sv : Value} {m : Msg} (h : At5 w g o sv m) (hs : w.heap.size ≤ w'.heap.size) (e : w'.heap[g]? = w.heap[g]?) : At5 w' g o sv m :=
  ⟨(World.cell?_of_block e).trans h.c0, (World.cell?_of_block e).trans h.c1, (World.cell?_of_block e).trans h.c2, (World.cell?_of_block e).trans h.c3, (World.cell?_of_block e).trans h.c4, Nat.lt_of_lt_of_le h.lt hs⟩
theorem At5.below {w w' : World} {g o : Nat} {sv : Value} {m : Msg} (h : At5 w g o sv m) (hb : Below w.heap.size w w') : At5 w' g o sv m := h.of hb.size (hb.block g h.lt)
theorem At5.chg {M : Nat → Prop} {w w' : World} {g o : Nat} {sv : Value} {m : Msg} (h : At5 w g o sv m) (hc : Chg M w w') (hm : ¬ M g) : At5 w' g o sv m := h.of hc.size (hc.block g h.lt hm)
theorem At5.of_pts {w : World} {g : Nat} {sv : Value} {m : Msg} {T : TypeId} (h : pts w g [sv, .int .i64 m.lane, .int .i64 m.stamp, .int .i64 m.late, .int .i64 m.seq] T) : At5 w g 0 sv m := ⟨h.cell 0, h.cell 1, h.cell 2, h.cell 3, h.cell 4, h.lt⟩
theorem MsgsAt.at5 {ok okw : Nat → Prop} {w : World} {ao : Option Addr} {n cap : Nat} {ps : List (Value × Msg)} (h : MsgsAt ok okw w (.slice ao n cap) ps) {i : Nat} (hi : i < ps.length) : ∃ g o a c, ao = some ⟨g, o, none⟩ ∧ ok g ∧ ps[i] = (.slice a ps[i].2.words.length c, ps[i].2) ∧ At5 w g (o + i * 5) (.slice a ps[i].2.words.length c) ps[i].2 ∧ IntsAt okw w (.slice a ps[i].2.words.length c) ps[i].2.words := by
  obtain ⟨-, -, -, hget⟩ := h.get
  obtain ⟨g, o, e, h1, h2, x0, x1, x2, x3, x4, hw⟩ := hget i hi
  obtain ⟨a, c, hs⟩ := hw.shape
  exact ⟨g, o, a, c, e, h1, by rw [← hs], ⟨by rw [← hs]; exact x0, x1, x2, x3, x4, h2⟩, by rw [← hs]; exact hw⟩
theorem Chg.cellAt {M : Nat → Prop} {w w' : World} (hc : Chg M w w') {g o : Nat} {v : Option Value} (hg : g < w.heap.size) (hm : ¬ M g) (h : w.cell? ⟨g, o, none⟩ = v) : w'.cell? ⟨g, o, none⟩ = v := (World.cell?_of_block (hc.block g hg hm)).trans h
theorem pts.ne_of_new {w : World} {b : Nat} {cs : List Value} {T : TypeId} (h : pts w b cs T) : b ≠ w.heap.size := by have := h.lt; omega
theorem Below.drewN (B : Nat) (w : World) (k : Nat) : Below B w (w.drewN k) := ⟨rfl, rfl, rfl, Nat.le_refl _, fun _ _ => rfl⟩
end Go.Proofs.Ytnlmkllhmldgiaa.K
