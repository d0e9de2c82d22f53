/- DERIVED. Walking by steps that say themselves what they do: what is known of a frame's slots as a list; an operation, a call, a loop, a return at a time. No statement is proved here. -/
import Derived.Test.YtnlmkllhmldgiaaRegR
import Derived.Test.YtnlmkllhmldgiaaK3
import Derived.Test.YtnlmkllhmldgiaaSetN
import Derived.Deep.LoopGhost
namespace Go.Proofs.Ytnlmkllhmldgiaa.E
set_option linter.unusedVariables false
set_option linter.unusedSimpArgs false
open Go.RowKit Go.Proofs.Ytnlmkllhmldgiaa.K Go.Proofs.Ytnlmkllhmldgiaa.Gt
abbrev Fm := List (Nat × Value)
def look : Fm → Nat → Option Value
  | [], _ => none
  | (k, v) :: r, s => bif Nat.beq k s then some v else look r s
/-- What is known of a frame. -/
structure Fr (n : Nat) (m : Fm) (a : Act) : Prop where
  sz : a.tmps.size = n
  df : a.defers = []
  ev : ∀ s v, look m s = some v → a.eval (.tmp s) = v
def Subm : Fm → Fm → Prop
  | [], _ => True
  | (s, v) :: r, m => look m s = some v ∧ Subm r m
def args : List Value → Nat → Fm
  | [], _ => []
  | v :: r, k => (k, v) :: args r (k + 1)
section
variable {n : Nat} {m m' : Fm} {a : Act} {P : Program} {w w' : World} {Q : Exit → Act → World → Prop}
theorem Fr.at (h : Fr n m a) (s : Nat) {v : Value} (e : look m s = some v) : a.tmps[s]?.getD undef = v := by
  have := h.ev s v e
  rwa [eval_tmp] at this
theorem Fr.put (h : Fr n m a) (d : Nat) (v : Value) (hd : Nat.blt d n = true) : Fr n ((d, v) :: m) (a.put (some d) v) := by
  have hd' : d < n := by simpa using hd
  refine ⟨(put_size a _ v).trans h.sz, (put_def a _ v).trans h.df, fun s x hs => ?_⟩
  unfold look at hs
  cases he : Nat.beq d s with
  | true =>
    have : d = s := Nat.eq_of_beq_eq_true he
    subst this
    rw [he] at hs
    simp only [cond_true, Option.some.injEq] at hs
    subst hs
    exact eval_put_same (by rw [h.sz]; exact hd')
  | false =>
    rw [he] at hs
    simp only [cond_false] at hs
    rw [eval_put_ne (fun e => by injection e with e; exact Nat.ne_of_beq_eq_false he e)]
    exact h.ev s x hs
theorem Fr.put0 (h : Fr n m a) (v : Value) : Fr n m (a.put none v) := h
theorem Fr.sub (h : Fr n m a) (hs : Subm m' m) : Fr n m' a := by
  refine ⟨h.sz, h.df, ?_⟩
  induction m' with
  | nil => intro s v e; cases e
  | cons p r ih =>
    obtain ⟨k, x⟩ := p
    obtain ⟨h1, h2⟩ := hs
    intro s v e
    unfold look at e
    cases he : Nat.beq k s with
    | true =>
      have : k = s := Nat.eq_of_beq_eq_true he
      subst this
      rw [he] at e
      simp only [cond_true, Option.some.injEq] at e
      subst e
      exact h.ev k x h1
    | false =>
      rw [he] at e
      exact ih h2 s v e
theorem args_look : ∀ (l : List Value) (k s : Nat) (v : Value), look (args l k) s = some v → k ≤ s ∧ l[s - k]? = some v
  | [], _, _, _, h => by cases h
  | x :: r, k, s, v, h => by
    unfold args look at h
    cases he : Nat.beq k s with
    | true =>
      have : k = s := Nat.eq_of_beq_eq_true he
      subst this
      rw [he] at h
      simpa using h
    | false =>
      rw [he] at h
      have hne : k ≠ s := Nat.ne_of_beq_eq_false he
      obtain ⟨h1, h2⟩ := args_look r (k + 1) s v h
      refine ⟨by omega, ?_⟩
      have : s - k = (s - (k + 1)) + 1 := by omega
      rw [this]; simpa using h2
/-- Into a function. -/
theorem enter {f : FuncId} {fn : Func} {c : Code} {l : List Value} {R : Ending → World → Prop} (hf : P.funcs[f]? = some fn) (hb : fn.body = some c) (n : Nat) (hn : fn.ntmps = n) (hl : Nat.ble l.length n = true)
    (h : ∀ a, Fr n (args l 0) a → c.wp P (bodyPost P fn R) a w) : Calls P f l.toArray w R := by
  refine calls_of_wp hf hb (h _ ⟨?_, rfl, fun s v e => ?_⟩)
  · have := Nat.le_of_ble_eq_true hl
    simp [hn]; omega
  · obtain ⟨-, h2⟩ := args_look l 0 s v e
    have hs : s < l.length := by simpa using (List.getElem?_eq_some_iff.1 h2).1
    simp only [Act.eval, Array.getD_eq_getD_getElem?]
    rw [Array.getElem?_append_left (by simpa using hs)]
    simp only [Nat.sub_zero] at h2
    simp [h2]
section
variable {ops : Array Oper} {l : List Oper} {rest : List Oper} {o : Oper}
/-- One operation: its value; its effect; the call of a function; one that isn't wanted. -/
theorem val {d : Tmp} {v : Value} (hg : o.guard = none) (hd : o.dst = some d) (hn : Nat.blt d n = true) (hF : Fr n m a) (hr : (execOp a.eval o).run P w = .ok (.value v) w') (k : ∀ a', Fr n ((d, v) :: m) a' → wpList P ops Q rest a' w') : wpList P ops Q (o :: rest) a w :=
  wpList_plain hg fun K hK => by
    unfold Oper.wp
    rw [hr]
    show K (a.put o.dst v) w'
    rw [hd]
    exact hK _ _ (k _ (hF.put d v hn))
theorem eff (hg : o.guard = none) (hd : o.dst = none) (hr : (execOp a.eval o).run P w = .ok .skip w') (k : wpList P ops Q rest a w') : wpList P ops Q (o :: rest) a w :=
  wpList_plain hg fun K hK => by
    unfold Oper.wp
    rw [hr]
    show K (a.put o.dst undef) w'
    rw [hd]
    exact hK _ _ k
theorem call {d : Tmp} {f : FuncId} {xs : Array Value} {R : Ending → World → Prop} (hg : o.guard = none) (hd : o.dst = some d) (hn : Nat.blt d n = true) (hF : Fr n m a) (hr : (execOp a.eval o).run P w = .ok (.enter f xs) w) (hc : Calls P f xs w R) (k : ∀ e w', R e w' → ∃ v, e = .returned v ∧ ∀ a', Fr n ((d, v) :: m) a' → wpList P ops Q rest a' w') : wpList P ops Q (o :: rest) a w :=
  wpList_plain hg fun K hK => by
    unfold Oper.wp
    rw [hr]
    refine Calls.mono hc fun e w' hR => ?_
    obtain ⟨v, rfl, hk⟩ := k e w' hR
    show K (a.put o.dst v) w'
    rw [hd]
    exact hK _ _ (hk _ (hF.put d v hn))
theorem call0 {f : FuncId} {xs : Array Value} {R : Ending → World → Prop} (hg : o.guard = none) (hd : o.dst = none) (hr : (execOp a.eval o).run P w = .ok (.enter f xs) w) (hc : Calls P f xs w R) (k : ∀ e w', R e w' → ∃ v, e = .returned v ∧ wpList P ops Q rest a w') : wpList P ops Q (o :: rest) a w :=
  wpList_plain hg fun K hK => by
    unfold Oper.wp
    rw [hr]
    refine Calls.mono hc fun e w' hR => ?_
    obtain ⟨v, rfl, hk⟩ := k e w' hR
    show K (a.put o.dst v) w'
    rw [hd]
    exact hK _ _ hk
/-- A law that ends in the frame as it is put. -/
theorem put {d : Tmp} {v : Value} (hd : o.dst = some d) (hn : Nat.blt d n = true) (hF : Fr n m a) (k : ∀ a', Fr n ((d, v) :: m) a' → wpList P ops Q rest a' w') : wpList P ops Q rest (a.put o.dst v) w' := by
  rw [hd]; exact k _ (hF.put d v hn)
theorem wanted {j d : Nat} {b : Bool} (hg : o.guard = some (j, b)) (hd : (l[j]?).bind (·.dst) = some d) (hv : a.tmps[d]?.getD undef = .bool b) : Region.wanted o (yielded l.toArray a.tmps) = true := by
  rw [wantE_eq]; unfold wantE; simp only [hg, hd, eval_tmp, hv]; simp
theorem unwanted {j d : Nat} {b b' : Bool} (hg : o.guard = some (j, b)) (hd : (l[j]?).bind (·.dst) = some d) (hv : a.tmps[d]?.getD undef = .bool b') (hb : (b' == b) = false) : Region.wanted o (yielded l.toArray a.tmps) = false := by
  rw [wantE_eq]; unfold wantE; simp only [hg, hd, eval_tmp, hv]; exact hb
theorem valG {j d' d : Nat} {b : Bool} {v : Value} (hg : o.guard = some (j, b)) (hj : (l[j]?).bind (·.dst) = some d') (hv : a.tmps[d']?.getD undef = .bool b) (hd : o.dst = some d) (hn : Nat.blt d n = true) (hF : Fr n m a) (hr : (execOp a.eval o).run P w = .ok (.value v) w') (k : ∀ a', Fr n ((d, v) :: m) a' → wpList P l.toArray Q rest a' w') : wpList P l.toArray Q (o :: rest) a w :=
  wpList_step fun K hK => by
    rw [if_pos (wanted hg hj hv)]
    unfold Oper.wp
    rw [hr]
    show K (a.put o.dst v) w'
    rw [hd]
    exact hK _ _ (k _ (hF.put d v hn))
theorem callG {j d' d : Nat} {b : Bool} {f : FuncId} {xs : Array Value} {R : Ending → World → Prop} (hg : o.guard = some (j, b)) (hj : (l[j]?).bind (·.dst) = some d') (hv : a.tmps[d']?.getD undef = .bool b) (hd : o.dst = some d) (hn : Nat.blt d n = true) (hF : Fr n m a) (hr : (execOp a.eval o).run P w = .ok (.enter f xs) w) (hc : Calls P f xs w R) (k : ∀ e w', R e w' → ∃ v, e = .returned v ∧ ∀ a', Fr n ((d, v) :: m) a' → wpList P l.toArray Q rest a' w') : wpList P l.toArray Q (o :: rest) a w :=
  wpList_step fun K hK => by
    rw [if_pos (wanted hg hj hv)]
    unfold Oper.wp
    rw [hr]
    refine Calls.mono hc fun e w' hR => ?_
    obtain ⟨v, rfl, hk⟩ := k e w' hR
    show K (a.put o.dst v) w'
    rw [hd]
    exact hK _ _ (hk _ (hF.put d v hn))
theorem opSkipU {X Y : Prop} (j : Nat) (d : Tmp) {b : Bool} (hg : o.guard = some (j, b)) (hd : (l[j]?).bind (·.dst) = some d) (he : a.tmps[d]?.getD undef = undef) (h : Y) : if wantE l o a = true then X else Y := by
  rw [if_neg (by unfold wantE; simp only [hg, hd, eval_tmp, he]; simp [undef])]; exact h
theorem skipGU {j d' d : Nat} {b : Bool} (hg : o.guard = some (j, b)) (hj : (l[j]?).bind (·.dst) = some d') (hv : a.tmps[d']?.getD undef = undef) (hd : o.dst = some d) (hn : Nat.blt d n = true) (hF : Fr n m a) (k : ∀ a', Fr n ((d, undef) :: m) a' → wpList P l.toArray Q rest a' w) : wpList P l.toArray Q (o :: rest) a w :=
  wpList_step fun K hK => by
    rw [if_neg (by rw [wantE_eq]; unfold wantE; simp only [hg, hj, eval_tmp, hv]; simp [undef]), hd]
    exact hK _ _ (k _ (hF.put d undef hn))
theorem skipG {j d' d : Nat} {b b' : Bool} (hg : o.guard = some (j, b)) (hj : (l[j]?).bind (·.dst) = some d') (hv : a.tmps[d']?.getD undef = .bool b') (hb : (b' == b) = false) (hd : o.dst = some d) (hn : Nat.blt d n = true) (hF : Fr n m a) (k : ∀ a', Fr n ((d, undef) :: m) a' → wpList P l.toArray Q rest a' w) : wpList P l.toArray Q (o :: rest) a w :=
  wpList_step fun K hK => by
    rw [if_neg (by rw [unwanted hg hj hv hb]; exact Bool.false_ne_true), hd]
    exact hK _ _ (k _ (hF.put d undef hn))
end
/-- What a region has put. -/
def putsM : List Oper → (Nat → Value) → Nat → Fm → Fm
  | [], _, _, m => m
  | o :: l, vs, k, m => match o.dst with
    | some d => putsM l vs (k + 1) ((d, vs k) :: m)
    | none => putsM l vs (k + 1) m
theorem Fr.puts : ∀ (l : List Oper) {vs : Nat → Value} {k : Nat} {m : Fm} {a : Act}, (l.all (fun o => match o.dst with | some d => Nat.blt d n | none => true)) = true → Fr n m a → Fr n (putsM l vs k m) (putOps l vs k a)
  | [], _, _, _, _, _, h => h
  | o :: l, vs, k, m, a, hl, h => by
    simp only [List.all_cons, Bool.and_eq_true] at hl
    unfold putsM putOps
    cases hd : o.dst with
    | none => exact Fr.puts l hl.2 h
    | some d =>
      have h1 := hl.1
      rw [hd] at h1
      exact Fr.puts l hl.2 (h.put d _ h1)
/-- A region, by what each of its first operations leaves. -/
theorem tab {id N : Nat} {b : Bool} {l : List Oper} (k : Nat) (tb : List Sp) (hF : Fr N m a) (hQ : ∀ (d : Tmp) v c a w, Q (.panic c) (Act.put a (some d) v) w → Q (.panic c) a w) (hm : P.follows .mixedOrders = true) (hB : relB k l N = true)
    (hop : AllOps (opB P l a w (tabR tb)) 0 (l.take k)) (hend : ∀ (vs : Nat → Value) g w', Below w.heap.size w w' → Boxes w g w' → (∀ j, j < k → tabR tb j (vs j) g w') → ∀ a', Fr N (putsM (l.take k) vs 0 m) a' → wpList P l.toArray Q (l.drop k) a' w') : (Code.region id l.toArray b).wp P Q a w := by
  refine region_tab k tb hQ hm (by rw [hF.sz]; exact hB) hop (fun vs g w' h1 h2 h3 => hend vs g w' h1 h2 h3 _ (hF.puts (l.take k) ?_))
  rw [List.all_eq_true]
  intro o ho
  obtain ⟨j, hj, rfl⟩ := List.getElem_of_mem ho
  have hjk : j < k := by simp at hj; omega
  have hjl : j < l.length := by simp at hj; omega
  have e1 : (l.take k)[j] = l[j] := List.getElem_take
  rw [e1]
  cases hd : l[j].dst with
  | none => rfl
  | some d => simpa using (relOk_of hB).fit j l[j] d hjk (List.getElem?_eq_getElem hjl) hd
/-- As StepG; blocks of M may turn. -/
structure StepK (M : Nat → Prop) (g : List Nat) (w : World) (g' : List Nat) (w' : World) : Prop where
  c : Chg M w w'
  n : ∀ b ∈ g', b ∈ g ∨ w.heap.size ≤ b
  o : ∀ b ∈ g, b ∈ g'
  l : ∀ b ∈ g', b < w'.heap.size
def opK (P : Program) (l : List Oper) (a0 : Act) (w0 : World) (Mk : Nat → Nat → Prop) (Ik : Nat → World → Prop) (R : Nat → Value → List Nat → World → Prop) (k : Nat) (o : Oper) : Prop :=
  ∀ (a : Act) (g : List Nat) (w : World), Chg (fun x => ∃ k, Mk k x) w0 w → Boxes w0 g w → Ik k w → OpAt l a0 R o a g w → if wantE l o a = true then relAt P o a w (fun v w' => ∃ g', StepK (Mk k) g w g' w' ∧ R k v g' w') else R k undef g w
theorem okK {M : Nat → Prop} {w0 w w' : World} {g : List Nat} {R : List Nat → World → Prop} (hg : Boxes w0 g w) (hc : Chg M w w') (h : R g w') : ∃ g', StepK M g w g' w' ∧ R g' w' := ⟨g, ⟨hc, fun _ h => .inl h, fun _ h => h, fun b h => Nat.lt_of_lt_of_le (hg b h).2 hc.size⟩, h⟩
theorem okKG {M : Nat → Prop} {w w' : World} {g : List Nat} {R : List Nat → World → Prop} (h : ∃ g', StepG g w g' w' ∧ R g' w') : ∃ g', StepK M g w g' w' ∧ R g' w' := let ⟨g', hs, hr⟩ := h; ⟨g', ⟨Chg.of_below hs.b, hs.n, hs.o, hs.l⟩, hr⟩
/-- A region in which operations turn blocks of their own, none another's. -/
theorem tabK {id N : Nat} {b : Bool} {l : List Oper} (k : Nat) (tb : List Sp) (Mk : Nat → Nat → Prop) (Ik : Nat → World → Prop) (hF : Fr N m a) (hQ : ∀ (d : Tmp) v c a w, Q (.panic c) (Act.put a (some d) v) w → Q (.panic c) a w) (hm : P.follows .mixedOrders = true) (hB : relB k l N = true)
    (hI0 : ∀ j, Ik j w) (hI1 : ∀ j u u', Ik j u → Below u.heap.size u u' → Ik j u') (hI2 : ∀ i j u u', i ≠ j → Ik j u → Chg (Mk i) u u' → Ik j u') (hM : ∀ i j, i ≠ j → ∀ v g u u', tabR tb j v g u → StepK (Mk i) g u g u' → tabR tb j v g u') (hG : ∀ j v g g' u, (∀ b ∈ g, b ∈ g') → tabR tb j v g u → tabR tb j v g' u)
    (hop : AllOps (opK P l a w Mk Ik (tabR tb)) 0 (l.take k)) (hend : ∀ (vs : Nat → Value) g w', Chg (fun x => ∃ k, Mk k x) w w' → Boxes w g w' → (∀ j, j < k → tabR tb j (vs j) g w') → ∀ a', Fr N (putsM (l.take k) vs 0 m) a' → wpList P l.toArray Q (l.drop k) a' w') : (Code.region id l.toArray b).wp P Q a w := by
  have hB0 : relB k l a.tmps.size = true := by rw [hF.sz]; exact hB
  refine region_rel (γ := List Nat) k (fun i g u g' u' => StepK (Mk i) g u g' u') (fun g u => Chg (fun x => ∃ k, Mk k x) w u ∧ Boxes w g u) (fun i _ u => Ik i u) (tabR tb) [] hQ hm hB0 (fun i g u g' u' hc hT => ?_) (fun i j g u g' u' hij hc hi hT => hI2 i j u u' hij hi hT.c) (fun i j v g u g' u' hij hc hr hT => ?_) (fun w' hw' => ⟨by rcases hw' with rfl | rfl; exact Chg.refl _ _; exact Chg.of_below (Below.refl _ _).drew, fun b hb => by cases hb⟩) (fun w' hw' i => by rcases hw' with rfl | rfl; exact hI0 i; exact hI1 _ _ _ (hI0 i) (Below.refl _ _).drew) (AllOps.mono (fun i o h => ?_) hop) (fun vs g u hc hr => hend vs g u hc.1 hc.2 hr _ (hF.puts (l.take k) ?_))
  · refine ⟨hc.1.trans hT.c (fun x hx => .inl ⟨i, hx⟩), fun b hb => ⟨?_, hT.l b hb⟩⟩
    rcases hT.n b hb with h1 | h1
    · exact (hc.2 b h1).1
    · exact Nat.le_trans hc.1.size h1
  · exact hG j v g g' u' hT.o (hM i j hij v g u u' hr ⟨hT.c, fun _ h => .inl h, fun _ h => h, fun b h => hT.l b (hT.o b h)⟩)
  · intro a' g u vs hc hi hp h0
    exact h a' g u hc.1 hc.2 hi (OpAt.of hp h0)
  · rw [List.all_eq_true]
    intro o ho
    obtain ⟨j, hj, rfl⟩ := List.getElem_of_mem ho
    have hjk : j < k := by simp at hj; omega
    have hjl : j < l.length := by simp at hj; omega
    have e1 : (l.take k)[j] = l[j] := List.getElem_take
    rw [e1]
    cases hd : l[j].dst with
    | none => rfl
    | some d => simpa using (relOk_of hB).fit j l[j] d hjk (List.getElem?_eq_getElem hjl) hd
/-- What an operation of such a region does: a value; a store into a box that stands apart from the others'. -/
inductive Ent where
  | v (x : Value)
  | st (b : Nat) (old new : List Value) (T : TypeId)
def Ent.sp : Ent → Sp
  | .v x => Sp.eq x
  | .st b _ new T => ⟨fun _ _ u => pts u b new T, fun _ _ _ _ _ h hs => h.below hs.b⟩
def Ent.M : Ent → Nat → Prop
  | .v _ => fun _ => False
  | .st b _ _ _ => fun x => x = b
def Ent.I : Ent → World → Prop
  | .v _ => fun _ => True
  | .st b old _ T => fun u => pts u b old T
def Ent.bx : Ent → Option Nat
  | .v _ => none
  | .st b _ _ _ => some b
def opP (P : Program) (l : List Oper) (a0 : Act) (w0 : World) (bs : List Nat) (ents : List Ent) (k : Nat) (o : Oper) : Prop :=
  ∀ (a : Act) (g : List Nat) (w : World), Chg (fun x => x ∈ bs) w0 w → Boxes w0 g w → (ents.getD k (.v undef)).I w → OpAt l a0 (tabR (ents.map Ent.sp)) o a g w → if wantE l o a = true then relAt P o a w (fun v w' => Chg (ents.getD k (.v undef)).M w w' ∧ tabR (ents.map Ent.sp) k v g w') else tabR (ents.map Ent.sp) k undef g w
theorem ent_M {e : Ent} {x : Nat} (h : e.M x) : e.bx = some x := by
  cases e with
  | v _ => exact h.elim
  | st b _ _ _ => exact congrArg some (Eq.symm h)
theorem tabP {id N : Nat} {b : Bool} {l : List Oper} (ents : List Ent) (bs : List Nat) (hF : Fr N m a) (hQ : ∀ (d : Tmp) v c a w, Q (.panic c) (Act.put a (some d) v) w → Q (.panic c) a w) (hm : P.follows .mixedOrders = true) (hB : relB ents.length l N = true)
    (hbs : ents.filterMap Ent.bx = bs) (hnd : bs.Pairwise (· ≠ ·)) (hold : ∀ e ∈ ents, e.I w)
    (hop : AllOps (opP P l a w bs ents) 0 (l.take ents.length)) (hend : ∀ (vs : Nat → Value) g w', Chg (fun x => x ∈ bs) w w' → (∀ j, j < ents.length → tabR (ents.map Ent.sp) j (vs j) g w') → ∀ a', Fr N (putsM (l.take ents.length) vs 0 m) a' → wpList P l.toArray Q (l.drop ents.length) a' w') : (Code.region id l.toArray b).wp P Q a w := by
  subst hbs
  have hg : ∀ j, (ents.getD j (.v undef)) = .v undef ∨ (ents.getD j (.v undef)) ∈ ents := fun j => by
    rw [List.getD_eq_getElem?_getD]
    cases h : ents[j]? with
    | none => exact .inl rfl
    | some e => exact .inr (List.mem_of_getElem? h)
  have hM : ∀ x, (∃ k, (ents.getD k (.v undef)).M x) → x ∈ ents.filterMap Ent.bx := fun x ⟨k, hk⟩ => by
    rcases hg k with e | e
    · rw [e] at hk; exact hk.elim
    · exact List.mem_filterMap.2 ⟨_, e, ent_M hk⟩
  have hne : ∀ i j, i ≠ j → ∀ x, (ents.getD i (.v undef)).M x → (ents.getD j (.v undef)).M x → False := by
    have key : ∀ i j, i < j → ∀ x, (ents.getD i (.v undef)).M x → (ents.getD j (.v undef)).M x → False := by
      intro i j hij x h1 h2
      rw [List.pairwise_filterMap] at hnd
      have hj : j < ents.length := by
        rcases Nat.lt_or_ge j ents.length with h | h
        · exact h
        · rw [List.getD_eq_getElem?_getD, List.getElem?_eq_none h] at h2; exact h2.elim
      have := List.pairwise_iff_getElem.1 hnd i j (by omega) hj hij
      rw [List.getD_eq_getElem?_getD, List.getElem?_eq_getElem (by omega)] at h1
      rw [List.getD_eq_getElem?_getD, List.getElem?_eq_getElem hj] at h2
      exact this x (ent_M h1) x (ent_M h2) rfl
    intro i j hij x h1 h2
    rcases Nat.lt_or_gt_of_ne hij with h | h
    · exact key i j h x h1 h2
    · exact key j i h x h2 h1
  refine tabK ents.length (ents.map Ent.sp) (fun k => (ents.getD k (.v undef)).M) (fun k => (ents.getD k (.v undef)).I) hF hQ hm hB (fun j => ?_) (fun j u u' hi hb => ?_) (fun i j u u' hij hi hc => ?_) (fun i j hij v g u u' hr hs => ?_) (fun j v g g' u hgg hr => ?_) (AllOps.mono (fun i o h => ?_) hop) (fun vs g u hc hgg hr => hend vs g u (hc.mono hM) (fun j hj => ?_))
  · rcases hg j with e | e
    · rw [e]; exact trivial
    · exact hold _ e
  · generalize ents.getD j (.v undef) = e at hi ⊢
    cases e with
    | v x => trivial
    | st b _ _ _ => exact pts.below hi hb
  · have h2 := hne i j hij
    generalize ents.getD j (.v undef) = e at hi h2 ⊢
    cases e with
    | v x => trivial
    | st b _ _ _ => exact K.pts.chg hi hc (fun hm => h2 b hm rfl)
  · have h2 := hne i j hij
    unfold tabR at hr ⊢
    simp only [List.getD_eq_getElem?_getD, List.getElem?_map] at hr h2 ⊢
    cases he : ents[j]? with
    | none => trivial
    | some e =>
      simp only [he, Option.map_some, Option.getD_some] at hr h2 ⊢
      cases e with
      | v x => exact hr
      | st b _ _ _ => exact K.pts.chg hr hs.c (fun hm => h2 b hm rfl)
  · unfold tabR at hr ⊢
    simp only [List.getD_eq_getElem?_getD, List.getElem?_map] at hr ⊢
    cases he : ents[j]? with
    | none => trivial
    | some e =>
      simp only [he, Option.map_some, Option.getD_some] at hr ⊢
      cases e <;> exact hr
  · intro a' g u hc hgg hi h0
    have := h a' g u (hc.mono hM) hgg hi h0
    split
    · rename_i hw
      rw [if_pos hw] at this
      exact rel_mono (fun v w' ⟨h1, h2⟩ => okK hgg h1 h2) this
    · rename_i hw
      rw [if_neg hw] at this
      exact this
  · exact hr j hj
theorem seqJ {x y : Code} (J : Act → World → Prop) (h : x.wp P (Exit.then J Q) a w) (k : ∀ a w, J a w → y.wp P Q a w) : (Code.seq x y).wp P Q a w :=
  wp_seq (wp_mono h (fun e a w q => by cases e <;> first | exact q | exact k _ _ q))
theorem exit_in {id : Nat} (h : Q .normal a w) : Exit.inBlock id Q (.exit id) a w := by simp only [Exit.inBlock, if_true]; exact h
theorem exit_out {id id' : Nat} (hne : Nat.beq id' id = false) (h : Q (.exit id') a w) : Exit.inBlock id Q (.exit id') a w := by
  simp only [Exit.inBlock, if_neg (Nat.ne_of_beq_eq_false hne)]; exact h
theorem then_exit {id : Nat} {K : Act → World → Prop} (h : Q (.exit id) a w) : Exit.then K Q (.exit id) a w := h
theorem then_ret {K : Act → World → Prop} (h : Q .ret a w) : Exit.then K Q .ret a w := h
theorem in_ret {id : Nat} (h : Q .ret a w) : Exit.inBlock id Q .ret a w := h
theorem in_norm {id : Nat} (h : Q .normal a w) : Exit.inBlock id Q .normal a w := h
theorem then_norm {K : Act → World → Prop} (h : K a w) : Exit.then K Q .normal a w := h
theorem bsplit (b : Bool) : b = true ∨ b = false := by cases b <;> simp
theorem ret {fn : Func} {R : Ending → World → Prop} {v : Value} (hF : Fr n m a) (hr : (results fn a.tmps).run P w = .ok v w) (hR : R (.returned v) w) : bodyPost P fn R .ret a w := ⟨hF.df, v, hr, hR⟩
theorem ret_end {fn : Func} {R : Ending → World → Prop} {v : Value} (hF : Fr n m a) (hr : (results fn a.tmps).run P w = .ok v w) (hR : R (.returned v) w) : bodyPost P fn R .normal a w := ⟨hF.df, v, hr, hR⟩
theorem condT {c : Operand} {x y : Code} {s : Nat} (hc : c = .tmp s) (hv : a.tmps[s]?.getD undef = .bool true) (h : x.wp P Q a w) : (Code.cond c x y).wp P Q a w := wp_cond_true (by rw [hc, eval_tmp]; exact hv) h
theorem condF {c : Operand} {x y : Code} {s : Nat} (hc : c = .tmp s) (hv : a.tmps[s]?.getD undef = .bool false) (h : y.wp P Q a w) : (Code.cond c x y).wp P Q a w := wp_cond_false (by rw [hc, eval_tmp]; exact hv) h
end
section
variable {P : Program} {o : Oper} {a : Act} {w w' : World} {v : Value}
theorem ev_of {s : Nat} (h : a.tmps[s]?.getD undef = v) : a.eval (.tmp s) = v := by rw [eval_tmp]; exact h
theorem run_size {t : TypeId} {k : Nat} (hi : (P.info? t).map (·.size) = some k) : (sizeOf t).run P w = .ok k w := by
  obtain ⟨i0, hi0, hsz⟩ := Option.map_eq_some_iff.1 hi
  subst hsz
  simp [sizeOf, typeInfo, go_sem, hi0]
theorem xIdx {s g ofs n c i k : Nat} {x : Operand} {t e : TypeId} (ho : o.op = .indexAddr t (.tmp s) x) (hs : a.tmps[s]?.getD undef = .slice (some ⟨g, ofs, none⟩) n c) (hx : a.eval x = .int .i64 (i : Int)) (hu : P.underlying t = some (.slice e)) (hi : (P.info? e).map (·.size) = some k) (h : i < n) : (execOp a.eval o).run P w = .ok (.value (.pointer (some ⟨g, ofs + i * k, none⟩))) w := by
  have h1 : (0 : Int) ≤ i ∧ (i : Int) < n := by omega
  unfold execOp
  have e1 : ∀ j : Nat, (⟨g, ofs, none⟩ : Addr).add j = ⟨g, ofs + j, none⟩ := fun j => by unfold Addr.add; split <;> simp_all
  simp only [ho, eval_tmp, hs, hx, Instr.indexAt, asIntOf, Sem.run_bind, run_underlying hu, Result.andThen_ok, Sem.run_pure, h1, and_self, if_true, run_size hi, Int.toNat_natCast, e1]
/-- An array behind a pointer. -/
theorem xIdxA {s g ofs n i k : Nat} {x : Operand} {t e : TypeId} (ho : o.op = .indexAddr t (.tmp s) x) (hs : a.tmps[s]?.getD undef = .pointer (some ⟨g, ofs, none⟩)) (hx : a.eval x = .int .i64 (i : Int)) (hu : P.underlying t = some (.array n e)) (hi : (P.info? e).map (·.size) = some k) (h : i < n) : (execOp a.eval o).run P w = .ok (.value (.pointer (some ⟨g, ofs + i * k, none⟩))) w := by
  have h1 : (0 : Int) ≤ i ∧ (i : Int) < n := by omega
  unfold execOp
  have e1 : ∀ j : Nat, (⟨g, ofs, none⟩ : Addr).add j = ⟨g, ofs + j, none⟩ := fun j => by unfold Addr.add; split <;> simp_all
  simp only [ho, eval_tmp, hs, hx, Instr.indexAt, Instr.sureAddr, asIntOf, Sem.run_bind, run_underlying hu, Result.andThen_ok, Sem.run_pure, h1, and_self, if_true, run_size hi, Int.toNat_natCast, e1]
/-- Loads, stores, moves, field addresses and builtins, as runs. -/
theorem xMv {s : Tmp} (ho : o.op = .move (.tmp s)) (hx : a.tmps[s]?.getD undef = v) : (execOp a.eval o).run P w = .ok (.value v) w := by rw [BigFrame.run_move _ ho, eval_tmp, hx]
theorem xAs {s : Tmp} (ho : o.op = .assign (.tmp s)) (hx : a.tmps[s]?.getD undef = v) : (execOp a.eval o).run P w = .ok (.value v) w := by rw [BigFrame.run_assign _ ho, eval_tmp, hx]
theorem xMvC (ho : o.op = .move (.const v)) : (execOp a.eval o).run P w = .ok (.value v) w := by rw [BigFrame.run_move _ ho]; rfl
theorem xAsC (ho : o.op = .assign (.const v)) : (execOp a.eval o).run P w = .ok (.value v) w := by rw [BigFrame.run_assign _ ho]; rfl
theorem xExt {s : Tmp} {i : Nat} {xs : List Value} (ho : o.op = .extract (.tmp s) i) (hx : a.tmps[s]?.getD undef = .tuple xs.toArray) (hv : xs[i]? = some v) : (execOp a.eval o).run P w = .ok (.value v) w := by
  unfold execOp
  simp [ho, go_sem, hx, hv]
theorem xLoadR {T : TypeId} {s : Tmp} {b k : Nat} {cs : List Value} {d : TypeDesc} (ho : o.op = .load T (.tmp s)) (hx : a.tmps[s]?.getD undef = .pointer (some ⟨b, k, none⟩)) (hp : w.rangeAt b k cs) (hu : Try.prog.underlying T = some d) (hd : d.isRow = true) (hi : (Try.prog.info? T).map (·.size) = some cs.length) : (execOp a.eval o).run Try.prog w = .ok (.value (.agg cs.toArray)) w := by
  unfold execOp
  simp only [ho, eval_tmp, hx, Instr.loadAt, Instr.sureAddr, Sem.run_bind, Sem.run_pure, Result.andThen_ok, run_loadVar_mid w b k T cs d hp hu hd hi]
end
theorem wrapI {x : Int} (h1 : -9223372036854775808 ≤ x) (h2 : x ≤ 9223372036854775807) : IntKind.i64.wrap x = x := IntWalk.i64_in x ⟨h1, h2⟩
theorem below_of {w w' : World} (h : Chg (fun _ => False) w w') : Below w.heap.size w w' := h.toBelow (Nat.le_refl _) (fun _ h => h.elim)
theorem World.rangeOf {w : World} {b k : Nat} {cs : List Value} (h : ∀ j, j < cs.length → w.cell? ⟨b, k + j, none⟩ = cs[j]?) : w.rangeAt b k cs := fun j v hv => (h j (List.getElem?_eq_some_iff.1 hv).1).trans hv
theorem pts.set1 {w : World} {b o : Nat} {v : Value} {cs cs' : List Value} {T : TypeId} (h : pts w b cs T) (e : cs.set o v = cs') : pts (w.setCell ⟨b, o, none⟩ v) b cs' T := e ▸ h.set o v
theorem Chg.set1 (w : World) (b o : Nat) (v : Value) : Chg (fun x => x = b) w (w.setCell ⟨b, o, none⟩ v) := Chg.setB (Chg.refl _ w) rfl
theorem pts.chgP {M : Nat → Prop} {w w' : World} {b : Nat} {cs : List Value} {T : TypeId} (h : pts w b cs T) (hc : Chg M w w') (hb : ¬ M b) : pts w' b cs T := h.of (hc.block b h.lt hb)
end Go.Proofs.Ytnlmkllhmldgiaa.E
