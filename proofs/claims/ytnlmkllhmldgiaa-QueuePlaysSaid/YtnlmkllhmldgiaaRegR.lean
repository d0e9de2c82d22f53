/- DERIVED. A region that draws its order, walked once in the order of the text: of each operation it is said what it leaves (a fact that later operations do not touch), out of what the operations that it waits for leave. No statement is proved here. -/
import Derived.Test.YtnlmkllhmldgiaaK0
import Derived.Still
import Derived.BigQuiet
namespace Go.Proofs.Ytnlmkllhmldgiaa.K
set_option linter.unusedVariables false
set_option linter.unusedSimpArgs false
open Go.RowKit

/-- What an operation leaves: a value, in a world. -/
def relUpon (P : Program) (Φ : Value → World → Prop) : Result Next → Prop
  | .ok (.value u) w' => Φ u w'
  | .ok .skip w' => Φ undef w'
  | .ok (.enter f args) w' => Calls P f args w' (fun e w'' => ∃ v, e = .returned v ∧ Φ v w'')
  | _ => False
def relAt (P : Program) (o : Oper) (a : Act) (w : World) (Φ : Value → World → Prop) : Prop := relUpon P Φ ((execOp a.eval o).run P w)
theorem wp_of_rel {P : Program} {o : Oper} {a : Act} {w : World} {Φ : Value → World → Prop} {K : Act → World → Prop} {Q : Exit → Act → World → Prop} (h : relAt P o a w Φ) (hK : ∀ v w', Φ v w' → K (a.put o.dst v) w') : o.wp P a w K Q := by
  unfold relAt at h
  unfold Oper.wp
  generalize (execOp a.eval o).run P w = r at *
  cases r with
  | ok n w' =>
    cases n <;> simp only [relUpon] at h <;> simp only [Oper.upon]
    case value u => exact hK _ _ h
    case skip => exact hK _ _ h
    case enter f args => exact Calls.mono h fun e w'' ⟨v, he, hv⟩ => by subst he; exact hK _ _ hv
  | halt x w' => simp only [relUpon] at h

def predsOf (o : Oper) : List Nat := (o.after.toList.filter (Region.binds .any)).map (·.on)
def dstNe (x y : Oper) : Bool := match x.dst with | some d => y.dst != some d | none => true
def dstIn (size : Nat) (x : Oper) : Bool := match x.dst with | some d => Nat.blt d size | none => true
def relAp (l : List Oper) (k : Nat) (o oj : Oper) : Bool := dstNe o oj && ((predsOf oj).contains k || o.apart l.toArray oj)
/-- What an operation waits for, at last. -/
inductive Anc (l : List Oper) : Nat → Nat → Prop
  | one {i k : Nat} {o : Oper} : l[k]? = some o → i ∈ predsOf o → Anc l i k
  | step {i m k : Nat} {o : Oper} : l[k]? = some o → m ∈ predsOf o → Anc l i m → Anc l i k
def ancRow (t : List (List Nat)) (o : Oper) : List Nat := (predsOf o ++ (predsOf o).flatMap (fun m => t.getD m [])).eraseDups
def ancTab : List Oper → List (List Nat) → List (List Nat)
  | [], t => t
  | o :: r, t => ancTab r (t ++ [ancRow t o])
theorem ancTab_ok (l : List Oper) : ∀ (r p : List Oper) (t : List (List Nat)), l = p ++ r → t.length = p.length → (∀ k i, i ∈ t.getD k [] → Anc l i k) → ∀ k i, i ∈ (ancTab r t).getD k [] → Anc l i k
  | [], p, t, _, _, h => h
  | o :: r, p, t, hl, hn, h => by
    refine ancTab_ok l r (p ++ [o]) (t ++ [ancRow t o]) (by simp [hl]) (by simp [hn]) (fun k i hi => ?_)
    rcases Nat.lt_trichotomy k t.length with hk | hk | hk
    · refine h k i ?_
      rw [List.getD_eq_getElem?_getD, List.getElem?_append_left hk] at hi
      rw [List.getD_eq_getElem?_getD]; exact hi
    · have ho : l[k]? = some o := by rw [hl, hk, hn]; simp
      rw [List.getD_eq_getElem?_getD, List.getElem?_append_right (by omega), hk] at hi
      simp only [Nat.sub_self, List.getElem?_cons_zero, Option.getD_some] at hi
      unfold ancRow at hi
      rw [List.mem_eraseDups] at hi
      rcases List.mem_append.1 hi with h1 | h1
      · exact .one ho h1
      · obtain ⟨m, hm, him⟩ := List.mem_flatMap.1 h1
        exact .step ho hm (h m i him)
    · rw [List.getD_eq_getElem?_getD, List.getElem?_append_right (by omega)] at hi
      have : (k - t.length) ≥ 1 := by omega
      simp [List.getElem?_eq_none (show ([ancRow t o] : List (List Nat)).length ≤ k - t.length by simp; omega)] at hi
theorem ancTab_anc {l : List Oper} {k i : Nat} (h : i ∈ (ancTab l []).getD k []) : Anc l i k :=
  ancTab_ok l l [] [] rfl rfl (fun k i hi => by simp at hi) k i h
/-- It reads nothing and writes nothing. -/
def isPure (o : Oper) : Bool := match o.op with | .move _ => true | .assign _ => true | .extract _ _ => true | _ => false
def relB (n : Nat) (l : List Oper) (size : Nat) : Bool :=
  Region.noSelect l.toArray && Nat.ble n l.length && ((List.range n).all fun k => match l[k]? with
    | none => false
    | some o => dstIn size o && (List.range n).all fun j => Nat.ble j k || (match l[j]? with | none => false | some oj => relAp l k o oj)) &&
  ((List.range l.length).all fun k => match l[k]? with | none => false | some o => (predsOf o).all (fun i => Nat.blt i k)) &&
  (let t := ancTab l []
   (List.range l.length).all fun k => Nat.blt k n || (match l[k]? with | none => false | some o => (List.range k).all fun j => (predsOf o).contains j || (match l[j]? with | none => false | some oj => (Nat.blt j n && isPure oj && oj.apart l.toArray o) || (!isPure oj && (t.getD k []).contains j))))
/-- The first n operations may come up in many orders; each of the others waits for all ahead of it (but for such as read and write nothing). -/
structure RelOk (n : Nat) (l : List Oper) (size : Nat) : Prop where
  sel : Region.noSelect l.toArray = true
  le : n ≤ l.length
  pre : ∀ (k : Nat) (o : Oper), l[k]? = some o → ∀ i ∈ predsOf o, i < k
  fit : ∀ (k : Nat) (o : Oper) (d : Tmp), k < n → l[k]? = some o → o.dst = some d → d < size
  ne : ∀ (k j : Nat) (o oj : Oper), k < j → j < n → l[k]? = some o → l[j]? = some oj → ∀ d, o.dst = some d → oj.dst ≠ some d
  ap : ∀ (k j : Nat) (o oj : Oper), k < j → j < n → l[k]? = some o → l[j]? = some oj → k ∈ predsOf oj ∨ o.apart l.toArray oj = true
  tail : ∀ (k : Nat) (o : Oper), n ≤ k → l[k]? = some o → ∀ j, j < k → j ∈ predsOf o ∨ (j < n ∧ ∃ oj, l[j]? = some oj ∧ isPure oj = true ∧ oj.apart l.toArray o = true) ∨ ((∃ oj, l[j]? = some oj ∧ isPure oj = false) ∧ Anc l j k)
theorem relOk_of {n : Nat} {l : List Oper} {size : Nat} (h : relB n l size = true) : RelOk n l size := by
  unfold relB at h
  simp only [Bool.and_eq_true, List.all_eq_true, List.mem_range] at h
  obtain ⟨⟨⟨⟨hs, hle⟩, h⟩, hpre⟩, ht⟩ := h
  have hle := Nat.le_of_ble_eq_true hle
  have hk : ∀ (k : Nat) (o : Oper), l[k]? = some o → k < l.length := fun k o e => (List.getElem?_eq_some_iff.1 e).1
  have h1 : ∀ (k : Nat) (o : Oper), k < n → l[k]? = some o → dstIn size o = true ∧ ∀ (j : Nat) (oj : Oper), k < j → j < n → l[j]? = some oj → relAp l k o oj = true := by
    intro k o hkn e
    have := h k hkn
    simp only [e, Bool.and_eq_true, List.all_eq_true, List.mem_range] at this
    obtain ⟨x2, x3⟩ := this
    refine ⟨x2, fun j oj hkj hjn ej => ?_⟩
    have := x3 j hjn
    simp only [ej, Bool.or_eq_true] at this
    rcases this with h2 | h2
    · have := Nat.le_of_ble_eq_true h2; omega
    · exact h2
  refine ⟨hs, hle, fun k o e i hi => ?_, fun k o d hkn e ed => ?_, fun k j o oj hkj hjn e ej d ed => ?_, fun k j o oj hkj hjn e ej => ?_, fun k o hnk e j hj => ?_⟩
  · have := hpre k (hk k o e)
    simp only [e, List.all_eq_true] at this
    simpa using this i hi
  · have := (h1 k o hkn e).1
    unfold dstIn at this
    rw [ed] at this
    simpa using this
  · have := (h1 k o (by omega) e).2 j oj hkj hjn ej
    simp only [relAp, Bool.and_eq_true] at this
    have := this.1
    unfold dstNe at this
    rw [ed] at this
    simpa using this
  · have := (h1 k o (by omega) e).2 j oj hkj hjn ej
    simp only [relAp, Bool.and_eq_true, Bool.or_eq_true] at this
    rcases this.2 with h2 | h2
    · exact .inl (by simpa using h2)
    · exact .inr h2
  · have := ht k (hk k o e)
    simp only [e, Bool.or_eq_true, List.all_eq_true, List.mem_range] at this
    rcases this with h2 | h2
    · simp at h2; omega
    · have h3 := h2 j hj
      rcases h3 with h3 | h3
      · exact .inl (by simpa using h3)
      · cases hj2 : l[j]? with
        | none => rw [hj2] at h3; cases h3
        | some oj =>
          rw [hj2] at h3
          simp only [Bool.or_eq_true, Bool.and_eq_true] at h3
          rcases h3 with ⟨⟨h4, h5⟩, h6⟩ | ⟨h4, h5⟩
          · exact .inr (.inl ⟨by simpa using h4, oj, rfl, h5, h6⟩)
          · exact .inr (.inr ⟨⟨oj, rfl, by simpa using h4⟩, ancTab_anc (by simpa using h5)⟩)
theorem Anc.lt {n size : Nat} {l : List Oper} (hB : RelOk n l size) {i k : Nat} (h : Anc l i k) : i < k := by
  induction h with
  | one h1 h2 => exact hB.pre _ _ h1 _ h2
  | step h1 h2 _ ih => have := hB.pre _ _ h1 _ h2; omega
/-- What has come up has all that it waits for behind it. -/
theorem Anc.listed {l : List Oper} {listed : Array Bool} (hcl : ∀ (j : Nat) (o : Oper), l[j]? = some o → listed.getD j false = true → ∀ i ∈ predsOf o, listed.getD i false = true) {i k : Nat} (h : Anc l i k) (hk : listed.getD k false = true) : listed.getD i false = true := by
  induction h with
  | one h1 h2 => exact hcl _ _ h1 hk _ h2
  | step h1 h2 _ ih => exact ih (hcl _ _ h1 hk _ h2)

def putOps : List Oper → (Nat → Value) → Nat → Act → Act
  | [], _, _, a => a
  | o :: l, vs, k, a => putOps l vs (k + 1) (a.put o.dst (vs k))
theorem put_size (a : Act) (d : Option Tmp) (v : Value) : (a.put d v).tmps.size = a.tmps.size := by cases d <;> simp [Act.put]
theorem put_def (a : Act) (d : Option Tmp) (v : Value) : (a.put d v).defers = a.defers := by cases d <;> rfl
theorem eval_put_same {a : Act} {d : Tmp} {v : Value} (h : d < a.tmps.size) : (a.put (some d) v).eval (.tmp d) = v := by simp [Act.eval, Act.put, h]
theorem eval_put_ne {a : Act} {x : Option Tmp} {s : Tmp} {v : Value} (h : x ≠ some s) : (a.put x v).eval (.tmp s) = a.eval (.tmp s) := Act.eval_put fun d hd e => by cases e; exact h hd
theorem putOps_size (l : List Oper) : ∀ (vs : Nat → Value) (k : Nat) (a : Act), (putOps l vs k a).tmps.size = a.tmps.size ∧ (putOps l vs k a).defers = a.defers := by
  induction l with
  | nil => intro vs k a; exact ⟨rfl, rfl⟩
  | cons o l ih => intro vs k a; have := ih vs (k + 1) (a.put o.dst (vs k)); exact ⟨this.1.trans (put_size _ _ _), this.2.trans (put_def _ _ _)⟩
theorem putOps_not (l : List Oper) : ∀ (vs : Nat → Value) (k : Nat) (a : Act) (s : Tmp), (∀ o ∈ l, o.dst ≠ some s) → (putOps l vs k a).eval (.tmp s) = a.eval (.tmp s) := by
  induction l with
  | nil => intro vs k a s _; rfl
  | cons o l ih => intro vs k a s h; exact (ih vs (k + 1) (a.put o.dst (vs k)) s (fun o' ho => h o' (List.mem_cons_of_mem _ ho))).trans (eval_put_ne (h o List.mem_cons_self))
theorem putOps_at (l : List Oper) : ∀ (vs : Nat → Value) (k : Nat) (a : Act) (s : Tmp) (j : Nat) (o : Oper), l[j]? = some o → o.dst = some s → s < a.tmps.size → (∀ (j' : Nat) (o' : Oper), j < j' → l[j']? = some o' → o'.dst ≠ some s) → (putOps l vs k a).eval (.tmp s) = vs (k + j) := by
  induction l with
  | nil => intro vs k a s j o h; simp at h
  | cons x l ih =>
    intro vs k a s j o h hd hs hn
    cases j with
    | zero =>
      simp only [List.getElem?_cons_zero, Option.some.injEq] at h
      subst h
      show (putOps l vs (k + 1) (a.put x.dst (vs k))).eval (.tmp s) = _
      rw [putOps_not l vs (k + 1) _ s (fun o' ho => by
        obtain ⟨j', hj', e⟩ := List.mem_iff_getElem.1 ho
        exact hn (j' + 1) o' (by omega) (by simp [hj', e])), hd, eval_put_same hs]; rfl
    | succ j =>
      have := ih vs (k + 1) (a.put x.dst (vs k)) s j o (by simpa using h) hd (by rw [put_size]; exact hs) (fun j' o' hj e => hn (j' + 1) o' (by omega) (by simpa using e))
      rw [show k + (j + 1) = k + 1 + j from by omega]
      exact this

section
variable {P : Program} {l : List Oper} {γ : Type} {a0 : Act} {C : γ → World → Prop} {I : Nat → γ → World → Prop} {R : Nat → Value → γ → World → Prop}
/-- What is known when the operations of 'listed' have come up. -/
structure RegInv (n : Nat) (l : List Oper) (a0 : Act) (C : γ → World → Prop) (I : Nat → γ → World → Prop) (R : Nat → Value → γ → World → Prop) (listed : Array Bool) (a : Act) (g : γ) (w : World) : Prop where
  c : C g w
  i : ∀ k, listed.getD k true = false → I k g w
  vs : ∃ vs : Nat → Value, ∀ (j : Nat) (o : Oper), l[j]? = some o → listed.getD j false = true → R j (vs j) g w ∧ ∀ s, o.dst = some s → a.eval (.tmp s) = vs j
  rest : ∀ s, (∀ (j : Nat) (o : Oper), l[j]? = some o → listed.getD j false = true → o.dst ≠ some s) → a.eval (.tmp s) = a0.eval (.tmp s)
  cl : ∀ (j : Nat) (o : Oper), l[j]? = some o → listed.getD j false = true → ∀ i ∈ predsOf o, listed.getD i false = true
  size : a.tmps.size = a0.tmps.size
  defers : a.defers = a0.defers
  len : listed.size = l.length
  tl : ∀ j, n ≤ j → listed.getD j false = false
/-- Is the operation wanted? Read off its guard's slot. -/
def wantE (l : List Oper) (o : Oper) (a : Act) : Bool := match o.guard with
  | none => true
  | some (j, want) => match (l[j]?).bind (·.dst) with
    | some d => (match a.eval (.tmp d) with | .bool b => b == want | _ => false)
    | none => false
theorem wantE_eq (l : List Oper) (o : Oper) (a : Act) : Region.wanted o (yielded l.toArray a.tmps) = wantE l o a := by
  unfold Region.wanted wantE
  cases hg : o.guard with
  | none => rfl
  | some gw =>
    obtain ⟨j, want⟩ := gw
    simp only [yielded, List.getElem?_toArray, Act.eval]
    cases hd : (l[j]?).bind (·.dst) with
    | none => simp
    | some d =>
      simp only [Option.bind_some, Array.getD_eq_getD_getElem?]
      cases ht : a.tmps[d]? with
      | none => simp [undef]
      | some v => cases v <;> simp
/-- What is to be shown of operation k. -/
def opGoal (P : Program) (l : List Oper) (a0 : Act) (C : γ → World → Prop) (I : Nat → γ → World → Prop) (R : Nat → Value → γ → World → Prop) (T : Nat → γ → World → γ → World → Prop) (k : Nat) (o : Oper) : Prop :=
  ∀ (a : Act) (g : γ) (w : World) (vs : Nat → Value), C g w → I k g w → (∀ j ∈ predsOf o, R j (vs j) g w ∧ ∀ s, (l[j]?).bind (·.dst) = some s → a.eval (.tmp s) = vs j) →
    (∀ s ∈ o.looksAt l.toArray, (∀ j ∈ predsOf o, (l[j]?).bind (·.dst) ≠ some s) → a.eval (.tmp s) = a0.eval (.tmp s)) →
    if wantE l o a = true then relAt P o a w (fun v w' => ∃ g', T k g w g' w' ∧ R k v g' w') else R k undef g w
def AllOps (Φ : Nat → Oper → Prop) : Nat → List Oper → Prop
  | _, [] => True
  | k, o :: l => Φ k o ∧ AllOps Φ (k + 1) l
theorem AllOps.get {Φ : Nat → Oper → Prop} : ∀ {l : List Oper} {k : Nat}, AllOps Φ k l → ∀ (j : Nat) (o : Oper), l[j]? = some o → Φ (k + j) o
  | [], _, _, j, o, h => by simp at h
  | x :: l, k, h, 0, o, e => by simp only [List.getElem?_cons_zero, Option.some.injEq] at e; subst e; exact h.1
  | x :: l, k, h, j + 1, o, e => by have := AllOps.get h.2 j o (by simpa using e); rw [show k + (j + 1) = k + 1 + j from by omega]; exact this
variable {T : Nat → γ → World → γ → World → Prop}
theorem getD_in {listed : Array Bool} {k : Nat} (h : k < listed.size) (d d' : Bool) : listed.getD k d = listed.getD k d' := by simp [h]
/-- One operation more. -/
theorem RegInv.next {n : Nat} (hB : RelOk n l a0.tmps.size) {k : Nat} {o : Oper} (hkn : k < n) (ho : l[k]? = some o) {listed : Array Bool} {a : Act} {g g' : γ} {w w' : World} (h : RegInv n l a0 C I R listed a g w) (hpre : ∀ i ∈ predsOf o, listed.getD i false = true)
    (v : Value) (c1 : C g' w') (c2 : ∀ j, j ≠ k → listed.getD j true = false → I j g' w') (c3 : ∀ j v, j ≠ k → R j v g w → R j v g' w') (c4 : R k v g' w') : RegInv n l a0 C I R (listed.setIfInBounds k true) (a.put o.dst v) g' w' := by
  have hkl : k < listed.size := by rw [h.len]; exact (List.getElem?_eq_some_iff.1 ho).1
  obtain ⟨vs, hvs⟩ := h.vs
  have hset : ∀ j, j ≠ k → ∀ d, (listed.setIfInBounds k true).getD j d = listed.getD j d := fun j hj d => getD_set_ne d (Ne.symm hj)
  refine ⟨c1, fun j hj => ?_, ⟨fun j => if j = k then v else vs j, fun j oj hoj hlj => ?_⟩, fun s hs => ?_, fun j oj hoj hlj i hi => ?_, (put_size _ _ _).trans h.size, (put_def _ _ _).trans h.defers, by simp [h.len], fun j hj => by rw [hset j (by omega)]; exact h.tl j hj⟩
  · by_cases hjk : j = k
    · subst hjk; rw [show (listed.setIfInBounds j true).getD j true = true from by simp [hkl]] at hj; cases hj
    · rw [hset j hjk] at hj; exact c2 j hjk hj
  · by_cases hjk : j = k
    · subst hjk
      have : oj = o := by simpa [ho] using hoj.symm
      subst this
      simp only [if_true]
      exact ⟨c4, fun s hs => by rw [hs]; exact eval_put_same (by rw [h.size]; exact hB.fit j oj s hkn ho hs)⟩
    · rw [hset j hjk] at hlj
      simp only [hjk, if_false]
      have h1 := hvs j oj hoj hlj
      refine ⟨c3 j _ hjk h1.1, fun s hs => ?_⟩
      rw [eval_put_ne, h1.2 s hs]
      have hjn : j < n := Nat.lt_of_not_le (fun hn => by rw [h.tl j hn] at hlj; cases hlj)
      rcases Nat.lt_or_gt_of_ne hjk with h2 | h2
      · exact hB.ne j k oj o h2 hkn hoj ho s hs
      · intro e; exact hB.ne k j o oj h2 hjn ho hoj s e hs
  · rw [eval_put_ne]
    · refine h.rest s (fun j oj hoj hlj => hs j oj hoj ?_)
      by_cases hjk : j = k
      · subst hjk; simp [hkl]
      · rw [hset j hjk]; exact hlj
    · exact hs k o ho (by simp [hkl])
  · by_cases hjk : j = k
    · subst hjk
      have : oj = o := by simpa [ho] using hoj.symm
      subst this
      exact getD_set_true (hpre i hi)
    · rw [hset j hjk] at hlj
      exact getD_set_true (h.cl j oj hoj hlj i hi)
theorem RegInv.pre {n : Nat} (hB : RelOk n l a0.tmps.size) {k : Nat} {o : Oper} (hkn : k < n) (ho : l[k]? = some o) {listed : Array Bool} {a : Act} {g : γ} {w : World} (h : RegInv n l a0 C I R listed a g w) (hk : k ∈ Region.ready .any l.toArray listed) :
    listed.getD k true = false ∧ (∀ i ∈ predsOf o, listed.getD i false = true) ∧ ∃ vs : Nat → Value, (∀ j ∈ predsOf o, R j (vs j) g w ∧ ∀ s, (l[j]?).bind (·.dst) = some s → a.eval (.tmp s) = vs j) ∧
    (∀ s ∈ o.looksAt l.toArray, (∀ j ∈ predsOf o, (l[j]?).bind (·.dst) ≠ some s) → a.eval (.tmp s) = a0.eval (.tmp s)) := by
  obtain ⟨hun, o', ho', hall⟩ := mem_ready.1 hk
  have : o' = o := by simpa [ho] using ho'.symm
  subst this
  have hkl : k < listed.size := by rw [h.len]; exact (List.getElem?_eq_some_iff.1 ho).1
  have hunf : listed.getD k false = false := by rw [getD_in hkl false true]; exact hun
  have hpre : ∀ i ∈ predsOf o', listed.getD i false = true := by
    intro i hi
    obtain ⟨e, he, rfl⟩ := List.mem_map.1 hi
    obtain ⟨he1, he2⟩ := List.mem_filter.1 he
    exact hall e (by simpa using he1) he2
  obtain ⟨vs, hvs⟩ := h.vs
  have hget : ∀ i ∈ predsOf o', ∃ oi, l[i]? = some oi := by
    intro i hi
    have h1 := hB.pre k o' ho i hi
    have h2 := (List.getElem?_eq_some_iff.1 ho).1
    exact ⟨_, List.getElem?_eq_getElem (by omega)⟩
  refine ⟨hun, hpre, vs, fun j hj => ?_, fun s hs hn => ?_⟩
  · obtain ⟨oj, hoj⟩ := hget j hj
    have := hvs j oj hoj (hpre j hj)
    exact ⟨this.1, fun s hs => this.2 s (by simpa [hoj] using hs)⟩
  · refine h.rest s (fun j oj hoj hlj hd => ?_)
    have hjn : j < n := Nat.lt_of_not_le (fun hn => by rw [h.tl j hn] at hlj; cases hlj)
    rcases Nat.lt_trichotomy j k with hjk | hjk | hjk
    · rcases hB.ap j k oj o' hjk hkn hoj ho with h1 | h1
      · exact hn j h1 (by simp [hoj, hd])
      · exact (Oper.apart_spec h1).1 s hd hs
    · subst hjk; rw [hunf] at hlj; cases hlj
    · rcases hB.ap k j o' oj hjk hjn ho hoj with h1 | h1
      · have := h.cl j oj hoj hlj k h1; rw [hunf] at this; cases this
      · exact (Oper.apart_spec h1).2.2 s hd hs
theorem RegInv.step {n : Nat} (hB : RelOk n l a0.tmps.size) (hC : ∀ k g w g' w', C g w → T k g w g' w' → C g' w') (hI : ∀ k j g w g' w', k ≠ j → C g w → I j g w → T k g w g' w' → I j g' w') (hR : ∀ k j v g w g' w', k ≠ j → C g w → R j v g w → T k g w g' w' → R j v g' w')
    {k : Nat} {o : Oper} (hkn : k < n) (ho : l[k]? = some o) (hop : opGoal P l a0 C I R T k o) {listed : Array Bool} {a : Act} {g : γ} {w : World} (h : RegInv n l a0 C I R listed a g w) (hk : k ∈ Region.ready .any l.toArray listed) {Q : Exit → Act → World → Prop} :
    wpOp P l.toArray Q k (fun a' w' => ∃ g', RegInv n l a0 C I R (listed.setIfInBounds k true) a' g' w') a w := by
  obtain ⟨hun, hpre, vs, hp, h0⟩ := RegInv.pre hB hkn ho h hk
  have hgo := hop a g w vs h.c (h.i k hun) hp h0
  unfold wpOp
  simp only [List.getElem?_toArray, ho]
  rw [wantE_eq]
  split
  · rename_i hw
    rw [if_pos hw] at hgo
    exact .inl (wp_of_rel hgo fun v w' ⟨g', hT, hv⟩ => ⟨g', h.next hB hkn ho hpre v (hC k g w g' w' h.c hT) (fun j hj hl => hI k j g w g' w' (Ne.symm hj) h.c (h.i j hl) hT) (fun j v hj hr => hR k j v g w g' w' (Ne.symm hj) h.c hr hT) hv⟩)
  · rename_i hw
    rw [if_neg hw] at hgo
    exact ⟨g, h.next hB hkn ho hpre undef h.c (fun j _ hl => h.i j hl) (fun _ _ _ hr => hr) hgo⟩
theorem pure_run {o : Oper} (ho : isPure o = true) {a : Act} {w : World} {Φ : Value → World → Prop} (h : relAt P o a w Φ) : ∃ v, Φ v w ∧ ∀ u, (execOp a.eval o).run P u = .ok (.value v) u := by
  unfold isPure at ho
  unfold relAt at h
  split at ho
  · rename_i x hx
    rw [BigFrame.run_move x hx] at h
    exact ⟨_, h, fun u => BigFrame.run_move x hx u⟩
  · rename_i x hx
    rw [BigFrame.run_assign x hx] at h
    exact ⟨_, h, fun u => BigFrame.run_assign x hx u⟩
  · rename_i x i hx
    unfold execOp at h ⊢
    rw [hx] at h ⊢
    dsimp only at h ⊢
    generalize a.eval x = y at h ⊢
    unfold Instr.extract at h ⊢
    cases y with
    | tuple vs =>
      dsimp only at h ⊢
      cases hv : vs[i]? with
      | none => rw [hv] at h; simp [go_sem, relUpon, stuck] at h
      | some v => rw [hv] at h; exact ⟨v, by simpa [go_sem, relUpon] using h, fun u => by simp [go_sem]⟩
    | _ => simp [go_sem, relUpon, stuck] at h
  · cases ho
theorem apart_symm {ops : Array Oper} {x y : Oper} (h : x.apart ops y = true) : y.apart ops x = true := by
  obtain ⟨h1, h2, h3⟩ := Oper.apart_spec h
  unfold Oper.apart
  cases hx : x.dst <;> cases hy : y.dst <;> simp [hx, hy] at h1 h2 h3 ⊢ <;> first | exact ⟨h3, fun e => h2 e.symm, h1⟩ | exact h3 | exact h1 | (refine ⟨⟨?_, ?_⟩, ?_⟩ <;> first | exact h3 | exact h1 | (intro e; exact h2 e.symm) | exact fun e => h2 (by simp [e]))
/-- If no operation of the head may come up, all have. -/
theorem head_done {n size : Nat} (hB : RelOk n l size) {listed : Array Bool} (hlen : listed.size = l.length) (hr : ∀ j, j < n → j ∉ Region.ready .any l.toArray listed) : ∀ j, j < n → listed.getD j false = true := by
  intro j
  induction j using Nat.strongRecOn with
  | _ j ih =>
    intro hj
    have hjl : j < l.length := Nat.lt_of_lt_of_le hj hB.le
    by_cases hl : listed.getD j false = true
    · exact hl
    · refine absurd ?_ (hr j hj)
      rw [mem_ready]
      refine ⟨by rw [getD_in (by omega) true false]; simpa using hl, l[j], by simp [hjl], fun e he hb => ?_⟩
      have h1 := hB.pre j l[j] (by simp [hjl]) e.on (List.mem_map.2 ⟨e, List.mem_filter.2 ⟨by simpa using he, hb⟩, rfl⟩)
      exact ih e.on h1 (by omega)
theorem mem_preds {o : Oper} {i : Nat} (h : i ∈ predsOf o) : ∃ e ∈ o.after, Region.binds .any e = true ∧ e.on = i := by
  obtain ⟨e, he, rfl⟩ := List.mem_map.1 h
  obtain ⟨h1, h2⟩ := List.mem_filter.1 he
  exact ⟨e, by simpa using h1, h2, rfl⟩
/-- The tail, one behind the other. -/
theorem wpAny_seq {n size : Nat} (hB : RelOk n l size) {Q : Exit → Act → World → Prop} : ∀ (fuel k : Nat) (listed : Array Bool) (a : Act) (w : World), n ≤ k → l.length - k ≤ fuel → listed.size = l.length → (∀ j, j < k → j < l.length → listed.getD j false = true) → (∀ j, k ≤ j → listed.getD j false = false) →
    wpList P l.toArray Q (l.drop k) a w → wpAny P .any l.toArray Q fuel listed a w := by
  have hone : ∀ (k : Nat) (listed : Array Bool), n ≤ k → listed.size = l.length → (∀ j, j < k → j < l.length → listed.getD j false = true) → (∀ j, k ≤ j → listed.getD j false = false) → ∀ i ∈ Region.ready .any l.toArray listed, i = k ∧ k < l.length := by
    intro k listed hnk hlen h1 h2 i hi
    obtain ⟨g1, o, ho, g2⟩ := mem_ready.1 hi
    have hil : i < l.length := by simpa using (Array.getElem?_eq_some_iff.1 ho).1
    have hki : k ≤ i := Nat.le_of_not_lt (fun hlt => by have := h1 i hlt hil; rw [getD_in (by omega) false true, g1] at this; cases this)
    rcases Nat.eq_or_lt_of_le hki with h3 | h3
    · exact ⟨h3.symm, by omega⟩
    · rcases hB.tail i o (by omega) (by simpa using ho) k h3 with h4 | h4 | ⟨_, hanc⟩
      · obtain ⟨e, he, hb, rfl⟩ := mem_preds h4
        have := g2 e he hb
        rw [h2 e.on (Nat.le_refl _)] at this; cases this
      · have := h4.1; omega
      · exfalso
        cases hanc with
        | one h5 h6 =>
          have e7 := h5.symm.trans (show l[i]? = some o by simpa using ho)
          cases e7
          obtain ⟨e, he, hb, rfl⟩ := mem_preds h6
          have := g2 e he hb
          rw [h2 e.on (Nat.le_refl _)] at this; cases this
        | step h5 h6 h8 =>
          have e7 := h5.symm.trans (show l[i]? = some o by simpa using ho)
          cases e7
          obtain ⟨e, he, hb, rfl⟩ := mem_preds h6
          have h9 := g2 e he hb
          have h10 := h8.lt hB
          rw [h2 e.on (by omega)] at h9; cases h9
  intro fuel
  induction fuel with
  | zero =>
    intro k listed a w hnk hf hlen h1 h2 hw
    have hd : l.drop k = [] := List.drop_eq_nil_of_le (by omega)
    rw [hd] at hw
    refine ⟨List.eq_nil_iff_forall_not_mem.2 (fun i hi => ?_), hw⟩
    have := hone k listed hnk hlen h1 h2 i hi
    omega
  | succ fuel ih =>
    intro k listed a w hnk hf hlen h1 h2 hw
    by_cases hk : k < l.length
    · have hd : l.drop k = l[k] :: l.drop (k + 1) := List.drop_eq_getElem_cons hk
      rw [hd] at hw
      have hrdy : k ∈ Region.ready .any l.toArray listed := by
        rw [mem_ready]
        refine ⟨by rw [getD_in (by omega) true false]; exact h2 k (Nat.le_refl _), l[k], by simp [hk], fun e he hb => ?_⟩
        have he2 := hB.pre k l[k] (by simp [hk]) e.on (List.mem_map.2 ⟨e, List.mem_filter.2 ⟨by simpa using he, hb⟩, rfl⟩)
        exact h1 e.on he2 (by omega)
      refine ⟨fun hr => (by rw [hr] at hrdy; cases hrdy), fun i hi => ?_⟩
      obtain ⟨hik, -⟩ := hone k listed hnk hlen h1 h2 i hi
      subst hik
      have hwo : wpOp P l.toArray Q i (wpList P l.toArray Q (l.drop (i + 1))) a w := by unfold wpOp; simp only [List.getElem?_toArray, List.getElem?_eq_getElem hk]; exact hw
      refine wpOp_mono (fun a' w' h' => ih (i + 1) _ a' w' (by omega) (by omega) (by simp [hlen]) (fun j hj hjl => ?_) (fun j hj => ?_) h') hwo
      · by_cases hji : j = i
        · subst hji; simp [hlen, hk]
        · rw [getD_set_ne false (Ne.symm hji)]; exact h1 j (by omega) hjl
      · rw [getD_set_ne false (by omega)]; exact h2 j (by omega)
    · have hd : l.drop k = [] := List.drop_eq_nil_of_le (by omega)
      rw [hd] at hw
      refine ⟨fun _ => hw, fun i hi => ?_⟩
      have := hone k listed hnk hlen h1 h2 i hi
      omega
def unl (listed : Array Bool) : Nat := (listed.toList.filter (fun b => !b)).length
theorem unl_set_aux : ∀ (l : List Bool) (k : Nat), l[k]? = some false → ((l.set k true).filter (fun b => !b)).length + 1 = (l.filter (fun b => !b)).length
  | [], k, h => by simp at h
  | b :: l, 0, h => by simp only [List.getElem?_cons_zero, Option.some.injEq] at h; subst h; simp
  | b :: l, k + 1, h => by
    have := unl_set_aux l k (by simpa using h)
    cases b <;> simp [List.filter_cons] <;> omega
theorem unl_set {listed : Array Bool} {k : Nat} (h : listed.getD k true = false) : unl (listed.setIfInBounds k true) + 1 = unl listed := by
  unfold unl
  rw [Array.toList_setIfInBounds]
  refine unl_set_aux _ k ?_
  rcases Nat.lt_or_ge k listed.size with h1 | h1
  · simp only [Array.getD_eq_getD_getElem?, Array.getElem?_eq_getElem h1, Option.getD_some] at h
    simp [h1, h]
  · simp [Array.getElem?_eq_none h1] at h
theorem unl_zero {listed : Array Bool} (h : unl listed = 0) (j : Nat) (hj : j < listed.size) : listed.getD j false = true := by
  unfold unl at h
  have h1 := List.eq_nil_of_length_eq_zero h
  have h2 := List.filter_eq_nil_iff.1 h1 listed[j] (by simp)
  simp [hj]
  simpa using h2
theorem cnt_tail : ∀ (l : List Bool) (n : Nat), (∀ j, n ≤ j → l[j]?.getD false = false) → l.length - n ≤ (l.filter (fun b => !b)).length
  | [], n, _ => by simp
  | b :: l, 0, h => by
    have h0 : b = false := by have := h 0 (Nat.le_refl _); simpa using this
    subst h0
    have := cnt_tail l 0 (fun j _ => by have := h (j + 1) (by omega); simpa using this)
    simp [List.filter_cons]; omega
  | b :: l, n + 1, h => by
    have := cnt_tail l n (fun j hj => by have := h (j + 1) (by omega); simpa using this)
    cases b <;> simp [List.filter_cons] <;> omega
theorem unl_tail {n m : Nat} {listed : Array Bool} (hl : listed.size = m) (h : ∀ j, n ≤ j → listed.getD j false = false) : m - n ≤ unl listed := by
  have := cnt_tail listed.toList n (fun j hj => by have := h j hj; simpa using this)
  unfold unl
  rw [← hl]; simpa using this
/-- All operations of the head have come up. -/
theorem rel_done {n : Nat} (hB : RelOk n l a0.tmps.size) {Q : Exit → Act → World → Prop} (hend : ∀ (vs : Nat → Value) g w, C g w → (∀ j, j < n → R j (vs j) g w) → wpList P l.toArray Q (l.drop n) (putOps (l.take n) vs 0 a0) w) {listed : Array Bool} {a : Act} {g : γ} {w : World} (h : RegInv n l a0 C I R listed a g w) (hl : ∀ j, j < n → listed.getD j false = true) : wpList P l.toArray Q (l.drop n) a w := by
  have htk : ∀ (j : Nat) (o : Oper), (l.take n)[j]? = some o → j < n ∧ l[j]? = some o := by
    intro j o h
    have h1 := (List.getElem?_eq_some_iff.1 h).1
    rw [List.length_take] at h1
    refine ⟨by omega, ?_⟩
    rw [List.getElem?_take_of_lt (by omega)] at h
    exact h
  have hle := hB.le
  obtain ⟨vs, hvs⟩ := h.vs
  have h1 := hend vs g w h.c (fun j hj => (hvs j l[j] (by simp [Nat.lt_of_lt_of_le hj hle]) (hl j hj)).1)
  have hev : ∀ s, s < a0.tmps.size → a.eval (.tmp s) = (putOps (l.take n) vs 0 a0).eval (.tmp s) := by
    intro s hs
    by_cases hw : ∃ (j : Nat) (o : Oper), (l.take n)[j]? = some o ∧ o.dst = some s
    · obtain ⟨j, o, ho, hd⟩ := hw
      obtain ⟨hj, ho'⟩ := htk j o ho
      rw [(hvs j o ho' (hl j hj)).2 s hd, putOps_at (l.take n) vs 0 a0 s j o ho hd hs (fun j' o' hj' ho2 => by obtain ⟨h2, h3⟩ := htk j' o' ho2; exact hB.ne j j' o o' hj' h2 ho' h3 s hd), Nat.zero_add]
    · have hw' : ∀ (j : Nat) (o : Oper), (l.take n)[j]? = some o → o.dst ≠ some s := fun j o ho hd => hw ⟨j, o, ho, hd⟩
      rw [h.rest s (fun j o ho hlj hd => by
        have hjn : j < n := Nat.lt_of_not_le (fun hn => by rw [h.tl j hn] at hlj; cases hlj)
        exact hw' j o (by rw [List.getElem?_take_of_lt hjn]; exact ho) hd), putOps_not (l.take n) vs 0 a0 s (fun o ho => by
        obtain ⟨j, hj, e⟩ := List.mem_iff_getElem.1 ho
        exact hw' j o (by rw [List.getElem?_eq_getElem hj, e]))]
  have he : a = putOps (l.take n) vs 0 a0 := by
    have hs1 := putOps_size (l.take n) vs 0 a0
    have e1 : a.tmps = (putOps (l.take n) vs 0 a0).tmps := by
      refine Array.ext (by rw [h.size, hs1.1]) (fun s h2 h3 => ?_)
      have := hev s (by rw [← h.size]; exact h2)
      simpa [Act.eval, h2, h3] using this
    have e2 : a.defers = (putOps (l.take n) vs 0 a0).defers := h.defers.trans hs1.2.symm
    revert e1 e2
    generalize putOps (l.take n) vs 0 a0 = b
    intro e1 e2
    cases a; cases b
    simp only at e1 e2
    subst e1 e2
    rfl
  rw [← he] at h1
  exact h1
theorem wpAny_rel {n : Nat} (hB : RelOk n l a0.tmps.size) (hC : ∀ k g w g' w', C g w → T k g w g' w' → C g' w') (hI : ∀ k j g w g' w', k ≠ j → C g w → I j g w → T k g w g' w' → I j g' w') (hR : ∀ k j v g w g' w', k ≠ j → C g w → R j v g w → T k g w g' w' → R j v g' w')
    (hop : AllOps (opGoal P l a0 C I R T) 0 (l.take n)) {Q : Exit → Act → World → Prop} (hQ : ∀ (d : Tmp) v c a w, Q (.panic c) (Act.put a (some d) v) w → Q (.panic c) a w) (hend : ∀ (vs : Nat → Value) g w, C g w → (∀ j, j < n → R j (vs j) g w) → wpList P l.toArray Q (l.drop n) (putOps (l.take n) vs 0 a0) w) :
    ∀ (fuel : Nat) (listed : Array Bool) (a : Act) (g : γ) (w : World), unl listed ≤ fuel → RegInv n l a0 C I R listed a g w → wpAny P .any l.toArray Q fuel listed a w := by
  have hdone : ∀ (fuel : Nat) (listed : Array Bool) (a : Act) (g : γ) (w : World), l.length - n ≤ fuel → RegInv n l a0 C I R listed a g w → (∀ j, j < n → listed.getD j false = true) → wpAny P .any l.toArray Q fuel listed a w := by
    intro fuel listed a g w hf h hl
    exact wpAny_seq hB fuel n listed a w (Nat.le_refl _) hf h.len (fun j hj _ => hl j hj) h.tl (rel_done hB hend h hl)
  intro fuel
  induction fuel with
  | zero =>
    intro listed a g w hf h
    have hle := hB.le
    have hl : ∀ j, j < l.length → listed.getD j false = true := fun j hj => unl_zero (by omega) j (by rw [h.len]; exact hj)
    refine hdone 0 listed a g w ?_ h (fun j hj => hl j (by omega))
    by_cases hn : n < l.length
    · have := hl n hn; rw [h.tl n (Nat.le_refl _)] at this; cases this
    · omega
  | succ fuel ih =>
    intro listed a g w hf h
    have hle := hB.le
    have hgo : ∀ k o, k < n → l[k]? = some o → opGoal P l a0 C I R T k o := fun k o hkn ho' => by
      have hg := AllOps.get hop k o (by rw [List.getElem?_take_of_lt hkn]; exact ho')
      rwa [Nat.zero_add] at hg
    by_cases hall : ∀ j, j < n → listed.getD j false = true
    · refine hdone (fuel + 1) listed a g w ?_ h hall
      refine Nat.le_trans ?_ hf
      exact unl_tail h.len h.tl
    · by_cases hpu : ∀ j o, j < n → l[j]? = some o → isPure o = false → listed.getD j false = true
      · -- those that are left read and write nothing: the first of them comes first
        obtain ⟨k, hkn, hkl, hmin⟩ : ∃ k, k < n ∧ listed.getD k false = false ∧ ∀ j, j < k → listed.getD j false = true := by
          have hex : ∃ k, k < n ∧ listed.getD k false = false := by
            refine Classical.byContradiction (fun hne => hall (fun j hj => ?_))
            cases hl : listed.getD j false
            · exact absurd ⟨j, hj, hl⟩ hne
            · rfl
          obtain ⟨k, hk⟩ := hex
          induction k using Nat.strongRecOn with
          | _ k ihk =>
            by_cases hm : ∀ j, j < k → listed.getD j false = true
            · exact ⟨k, hk.1, hk.2, hm⟩
            · obtain ⟨j, hj⟩ := Classical.not_forall.1 hm
              obtain ⟨hj1, hj2⟩ := Classical.not_imp.1 hj
              exact ihk j hj1 ⟨by omega, by simpa using hj2⟩
        have hkl2 : k < l.length := by omega
        have ho : l[k]? = some l[k] := List.getElem?_eq_getElem hkl2
        have hpk : isPure l[k] = true := by
          cases hp : isPure l[k]
          · have := hpu k l[k] hkn ho hp; rw [hkl] at this; cases this
          · rfl
        have hrdy : k ∈ Region.ready .any l.toArray listed := by
          rw [mem_ready]
          refine ⟨by rw [getD_in (by rw [h.len]; exact hkl2) true false]; exact hkl, l[k], by simp [hkl2], fun e he hb => ?_⟩
          exact hmin e.on (hB.pre k l[k] ho e.on (List.mem_map.2 ⟨e, List.mem_filter.2 ⟨by simpa using he, hb⟩, rfl⟩))
        obtain ⟨hun, hpre, vs, hp, h0⟩ := RegInv.pre hB hkn ho h hrdy
        have hg := hgo k l[k] hkn ho a g w vs h.c (h.i k hun) hp h0
        have hfree : ∀ (j : Nat) (oj : Oper), l.toArray[j]? = some oj → j ≠ k → listed.getD j true = false → (∀ e ∈ oj.after, Region.binds .any e = true → e.on ≠ k) → l[k].apart l.toArray oj = true := by
          intro j oj hoj hjk hlj hno
          have hoj' : l[j]? = some oj := by simpa using hoj
          have hnp : k ∉ predsOf oj := fun hm => by obtain ⟨e, he, hb, he2⟩ := mem_preds hm; exact hno e he hb he2
          have hjl : j < l.length := (List.getElem?_eq_some_iff.1 hoj').1
          have hljf : listed.getD j false = false := by rw [getD_in (by rw [h.len]; exact hjl) false true]; exact hlj
          have hkj : k < j := Nat.lt_of_not_le (fun hle2 => by have := hmin j (by omega); rw [hljf] at this; cases this)
          by_cases hjn : j < n
          · exact (hB.ap k j l[k] oj hkj hjn ho hoj').resolve_left hnp
          · rcases hB.tail j oj (by omega) hoj' k hkj with h1 | ⟨_, ok, hok, _, hap⟩ | ⟨⟨ok, hok, hnpk⟩, _⟩
            · exact absurd h1 hnp
            · rw [ho] at hok; cases hok; exact hap
            · rw [ho] at hok; cases hok; rw [hpk] at hnpk; cases hnpk
        have hfin : ∀ v g', T k g w g' w ∨ g' = g → R k v g' w → wpAny P .any l.toArray Q fuel (listed.setIfInBounds k true) (a.put l[k].dst v) w := by
          intro v g' hT hv
          have h2 : RegInv n l a0 C I R (listed.setIfInBounds k true) (a.put l[k].dst v) g' w := by
            rcases hT with hT | rfl
            · exact h.next hB hkn ho hpre v (hC k g w g' w h.c hT) (fun j hj hl => hI k j g w g' w (Ne.symm hj) h.c (h.i j hl) hT) (fun j v hj hr => hR k j v g w g' w (Ne.symm hj) h.c hr hT) hv
            · exact h.next hB hkn ho hpre v h.c (fun j _ hl => h.i j hl) (fun _ _ _ hr => hr) hv
          refine ih _ _ g' w ?_ h2
          have := unl_set hun
          omega
        have hQ2 : ∀ (d : Option Tmp) (v : Value) c a w, Q (.panic c) (Act.put a d v) w → Q (.panic c) a w := fun d v c a w hh => by cases d with | none => exact hh | some d => exact hQ d v c a w hh
        by_cases hw : wantE l l[k] a = true
        · rw [if_pos hw] at hg
          obtain ⟨v, ⟨g', hT, hv⟩, hrun⟩ := pure_run hpk hg
          exact wpAny_first (by simp [hkl2]) (Region.noSelect_spec hB.sel) (hQ2 l[k].dst _) fuel listed a w hfree hrdy (.inl ⟨by rw [wantE_eq]; exact hw, hrun⟩) (hfin v g' (.inl hT) hv)
        · rw [if_neg hw] at hg
          exact wpAny_first (by simp [hkl2]) (Region.noSelect_spec hB.sel) (hQ2 l[k].dst _) fuel listed a w hfree hrdy (.inr ⟨by rw [wantE_eq]; simpa using hw, rfl⟩) (hfin undef g (.inr rfl) hg)
      · have hready : ∀ k ∈ Region.ready .any l.toArray listed, k < n := by
          intro k hk
          obtain ⟨g1, o, ho, g2⟩ := mem_ready.1 hk
          refine Nat.lt_of_not_le (fun hnk => hpu (fun j oj hj hoj hnp => ?_))
          rcases hB.tail k o hnk (by simpa using ho) j (by omega) with h1 | ⟨_, oj', hoj', hp', _⟩ | ⟨_, hanc⟩
          · obtain ⟨e, he, hb, rfl⟩ := mem_preds h1
            exact g2 e he hb
          · rw [hoj] at hoj'; cases hoj'; rw [hnp] at hp'; cases hp'
          · cases hanc with
            | one h5 h6 =>
              have e7 := h5.symm.trans (show l[k]? = some o by simpa using ho)
              cases e7
              obtain ⟨e, he, hb, rfl⟩ := mem_preds h6
              exact g2 e he hb
            | step h5 h6 h8 =>
              have e7 := h5.symm.trans (show l[k]? = some o by simpa using ho)
              cases e7
              obtain ⟨e, he, hb, rfl⟩ := mem_preds h6
              exact h8.listed h.cl (g2 e he hb)
        refine ⟨fun hr => absurd (head_done hB h.len (fun j _ hj => by rw [hr] at hj; cases hj)) hall, fun k hk => ?_⟩
        obtain ⟨h1, o, ho, -⟩ := mem_ready.1 hk
        have ho' : l[k]? = some o := by simpa using ho
        have hkn := hready k hk
        refine wpOp_mono (fun a' w' ⟨g', h'⟩ => ih _ a' g' w' ?_ h') (RegInv.step hB hC hI hR hkn ho' (hgo k o hkn ho') h hk)
        have := unl_set h1
        omega
/-- The same operations in the order of the text. -/
theorem wpList_rel {n : Nat} (hB : RelOk n l a0.tmps.size) (hC : ∀ k g w g' w', C g w → T k g w g' w' → C g' w') (hI : ∀ k j g w g' w', k ≠ j → C g w → I j g w → T k g w g' w' → I j g' w') (hR : ∀ k j v g w g' w', k ≠ j → C g w → R j v g w → T k g w g' w' → R j v g' w')
    (hop : AllOps (opGoal P l a0 C I R T) 0 (l.take n)) {Q : Exit → Act → World → Prop} (hend : ∀ (vs : Nat → Value) g w, C g w → (∀ j, j < n → R j (vs j) g w) → wpList P l.toArray Q (l.drop n) (putOps (l.take n) vs 0 a0) w) :
    ∀ (m k : Nat) (listed : Array Bool) (a : Act) (g : γ) (w : World), k + m = n → RegInv n l a0 C I R listed a g w → (∀ j, j < k → listed.getD j false = true) → (∀ j, k ≤ j → listed.getD j false = false) → wpList P l.toArray Q (l.drop k) a w := by
  intro m
  induction m with
  | zero =>
    intro k listed a g w hk h h1 h2
    obtain rfl : k = n := by omega
    exact rel_done hB hend h h1
  | succ m ih =>
    intro k listed a g w hk h h1 h2
    have hle := hB.le
    have hkl : k < l.length := by omega
    have ho : l[k]? = some l[k] := List.getElem?_eq_getElem hkl
    have hrdy : k ∈ Region.ready .any l.toArray listed := by
      rw [mem_ready]
      refine ⟨by rw [getD_in (by rw [h.len]; exact hkl) true false]; exact h2 k (Nat.le_refl _), l[k], by simp [hkl], fun e he hb => ?_⟩
      exact h1 e.on (hB.pre k l[k] ho e.on (List.mem_map.2 ⟨e, List.mem_filter.2 ⟨by simpa using he, hb⟩, rfl⟩))
    have hg := AllOps.get hop k l[k] (by rw [List.getElem?_take_of_lt (by omega)]; exact ho)
    rw [Nat.zero_add] at hg
    have hs := RegInv.step (Q := Q) hB hC hI hR (by omega) ho hg h hrdy
    rw [List.drop_eq_getElem_cons hkl]
    have hw : wpOp P l.toArray Q k (wpList P l.toArray Q (l.drop (k + 1))) a w := by
      refine wpOp_mono (fun a' w' ⟨g', h'⟩ => ih (k + 1) _ a' g' w' (by omega) h' (fun j hj => ?_) (fun j hj => ?_)) hs
      · by_cases hjk : j = k
        · subst hjk; simp [h.len, hkl]
        · rw [getD_set_ne false (Ne.symm hjk)]; exact h1 j (by omega)
      · rw [getD_set_ne false (by omega)]; exact h2 j (by omega)
    unfold wpOp at hw
    simp only [List.getElem?_toArray, ho] at hw
    exact hw
theorem unl_rep (n : Nat) : unl (Array.replicate n false) = n := by unfold unl; simp
/-- A region (whether it draws its order or not), by what each operation leaves; those from number n on wait for all ahead of them. -/
theorem region_rel {id : Nat} {b : Bool} {Q : Exit → Act → World → Prop} {w : World} (n : Nat) (T : Nat → γ → World → γ → World → Prop) (C : γ → World → Prop) (I : Nat → γ → World → Prop) (R : Nat → Value → γ → World → Prop) (g0 : γ) (hQ : ∀ (d : Tmp) v c a w, Q (.panic c) (Act.put a (some d) v) w → Q (.panic c) a w) (hm : P.follows .mixedOrders = true) (hB : relB n l a0.tmps.size = true)
    (hC : ∀ k g w g' w', C g w → T k g w g' w' → C g' w') (hI : ∀ k j g w g' w', k ≠ j → C g w → I j g w → T k g w g' w' → I j g' w') (hR : ∀ k j v g w g' w', k ≠ j → C g w → R j v g w → T k g w g' w' → R j v g' w')
    (hc0 : ∀ w', w' = w ∨ w' = w.drew → C g0 w') (hi0 : ∀ w', w' = w ∨ w' = w.drew → ∀ k, I k g0 w') (hop : AllOps (opGoal P l a0 C I R T) 0 (l.take n)) (hend : ∀ (vs : Nat → Value) g w, C g w → (∀ j, j < n → R j (vs j) g w) → wpList P l.toArray Q (l.drop n) (putOps (l.take n) vs 0 a0) w) : (Code.region id l.toArray b).wp P Q a0 w := by
  have hB' := relOk_of hB
  have hstart : ∀ w', w' = w ∨ w' = w.drew → RegInv n l a0 C I R (Array.replicate l.toArray.size false) a0 g0 w' := by
    intro w' hw'
    refine ⟨hc0 w' hw', fun k _ => hi0 w' hw' k, ⟨fun _ => undef, fun j o ho hl => ?_⟩, fun s _ => rfl, fun j o ho hl => ?_, rfl, rfl, by simp, fun j _ => ?_⟩
    · have : j < l.length := (List.getElem?_eq_some_iff.1 ho).1
      simp [this] at hl
    · have : j < l.length := (List.getElem?_eq_some_iff.1 ho).1
      simp [this] at hl
    · by_cases hj : j < l.length <;> simp [hj]
  cases b with
  | true =>
    refine wp_region_any hm ?_
    exact wpAny_rel hB' hC hI hR hop hQ hend l.toArray.size _ a0 g0 w.drew (by rw [unl_rep]; exact Nat.le_refl _) (hstart _ (.inr rfl))
  | false =>
    refine wp_region_lit ?_
    exact wpList_rel hB' hC hI hR hop hend n 0 _ a0 g0 w (by omega) (hstart _ (.inl rfl)) (fun j hj => absurd hj (by omega)) (fun j _ => by by_cases hj : j < l.length <;> simp [hj])
end
section
variable {P : Program} {l : List Oper}
def preB (o : Oper) (j : Nat) : Bool := (predsOf o).contains j
def readB (l : List Oper) (o : Oper) (s : Tmp) : Bool := (o.looksAt l.toArray).contains s && (predsOf o).all (fun j => (l[j]?).bind (·.dst) != some s)
/-- What an operation finds in its frame. -/
structure OpAt (l : List Oper) (a0 : Act) (R : Nat → Value → List Nat → World → Prop) (o : Oper) (a : Act) (g : List Nat) (w : World) : Prop where
  at_ : ∀ j d, preB o j = true → (l[j]?).bind (·.dst) = some d → R j (a.eval (.tmp d)) g w
  ini : ∀ s, readB l o s = true → a.eval (.tmp s) = a0.eval (.tmp s)
  got : ∀ j, preB o j = true → ∃ v, R j v g w
theorem OpAt.of {a0 : Act} {R : Nat → Value → List Nat → World → Prop} {o : Oper} {a : Act} {g : List Nat} {w : World} {vs : Nat → Value} (hp : ∀ j ∈ predsOf o, R j (vs j) g w ∧ ∀ s, (l[j]?).bind (·.dst) = some s → a.eval (.tmp s) = vs j)
    (h0 : ∀ s ∈ o.looksAt l.toArray, (∀ j ∈ predsOf o, (l[j]?).bind (·.dst) ≠ some s) → a.eval (.tmp s) = a0.eval (.tmp s)) : OpAt l a0 R o a g w := by
  have hm : ∀ j, preB o j = true → j ∈ predsOf o := fun j h => by simpa [preB] using h
  refine ⟨fun j d hj hd => ?_, fun s hs => ?_, fun j hj => ⟨_, (hp j (hm j hj)).1⟩⟩
  · obtain ⟨h1, h2⟩ := hp j (hm j hj)
    rw [h2 d hd]; exact h1
  · simp only [readB, Bool.and_eq_true, List.all_eq_true] at hs
    exact h0 s (by simpa using hs.1) (fun j hj => by simpa using hs.2 j hj)
theorem eval_tmp (a : Act) (s : Tmp) : a.eval (.tmp s) = a.tmps[s]?.getD undef := by simp [Act.eval]
theorem OpAt.tm {a0 : Act} {R : Nat → Value → List Nat → World → Prop} {o : Oper} {a : Act} {g : List Nat} {w : World} (h : OpAt l a0 R o a g w) (j : Nat) (d : Tmp) (hj : preB o j = true) (hd : (l[j]?).bind (·.dst) = some d) : R j (a.tmps[d]?.getD undef) g w := by
  have := h.at_ j d hj hd; rwa [eval_tmp] at this
theorem OpAt.inm {a0 : Act} {R : Nat → Value → List Nat → World → Prop} {o : Oper} {a : Act} {g : List Nat} {w : World} (h : OpAt l a0 R o a g w) (s : Tmp) {v : Value} (hs : readB l o s = true) (hv : a0.eval (.tmp s) = v) : a.tmps[s]?.getD undef = v := by
  have := h.ini s hs; rw [eval_tmp, hv] at this; exact this
theorem AllOps.mono {Φ Ψ : Nat → Oper → Prop} (h : ∀ k o, Φ k o → Ψ k o) : ∀ {l : List Oper} {k : Nat}, AllOps Φ k l → AllOps Ψ k l
  | [], _, _ => trivial
  | _ :: _, _, hh => ⟨h _ _ hh.1, AllOps.mono h hh.2⟩
theorem rel_mono {o : Oper} {a : Act} {w : World} {Φ Ψ : Value → World → Prop} (h : ∀ v w', Φ v w' → Ψ v w') (hh : relAt P o a w Φ) : relAt P o a w Ψ := by
  unfold relAt at *
  generalize (execOp a.eval o).run P w = r at *
  cases r with
  | ok n w' =>
    cases n <;> simp only [relUpon] at hh ⊢
    case value u => exact h _ _ hh
    case skip => exact h _ _ hh
    case enter f args => exact Calls.mono hh fun e w'' ⟨v, he, hv⟩ => ⟨v, he, h _ _ hv⟩
  | halt x w' => simp only [relUpon] at hh
/-- What stays known of boxes that a region makes: the world has grown, new boxes lie in new blocks. -/
structure StepG (g : List Nat) (w : World) (g' : List Nat) (w' : World) : Prop where
  b : Below w.heap.size w w'
  n : ∀ b ∈ g', b ∈ g ∨ w.heap.size ≤ b
  o : ∀ b ∈ g, b ∈ g'
  l : ∀ b ∈ g', b < w'.heap.size
/-- The boxes made so far. -/
def Boxes (w0 : World) (g : List Nat) (w : World) : Prop := ∀ b ∈ g, w0.heap.size ≤ b ∧ b < w.heap.size
/-- One operation of a region that keeps what was there. -/
def opB (P : Program) (l : List Oper) (a0 : Act) (w0 : World) (R : Nat → Value → List Nat → World → Prop) (k : Nat) (o : Oper) : Prop :=
  ∀ (a : Act) (g : List Nat) (w : World), Below w0.heap.size w0 w → Boxes w0 g w → OpAt l a0 R o a g w → if wantE l o a = true then relAt P o a w (fun v w' => ∃ g', StepG g w g' w' ∧ R k v g' w') else R k undef g w
theorem okP {w0 w : World} {g : List Nat} {R : List Nat → World → Prop} (hg : Boxes w0 g w) (h : R g w) : ∃ g', StepG g w g' w ∧ R g' w := ⟨g, ⟨Below.refl _ _, fun _ h => .inl h, fun _ h => h, fun b h => (hg b h).2⟩, h⟩
theorem okB {w0 w w' : World} {g : List Nat} {R : List Nat → World → Prop} (hg : Boxes w0 g w) (hb : Below w.heap.size w w') (h : R g w') : ∃ g', StepG g w g' w' ∧ R g' w' := ⟨g, ⟨hb, fun _ h => .inl h, fun _ h => h, fun b h => Nat.lt_of_lt_of_le (hg b h).2 hb.size⟩, h⟩
theorem okA {w0 w : World} {g : List Nat} {R : List Nat → World → Prop} (o : Obj) (hg : Boxes w0 g w) (h : R (w.heap.size :: g) (w.alloc o)) : ∃ g', StepG g w g' (w.alloc o) ∧ R g' (w.alloc o) :=
  ⟨w.heap.size :: g, ⟨(Below.refl _ _).alloc (Nat.le_refl _) _, fun b h => by rcases List.mem_cons.1 h with rfl | h; exact .inr (Nat.le_refl _); exact .inl h, fun _ h => List.mem_cons_of_mem _ h, fun b h => by rcases List.mem_cons.1 h with rfl | h; simp; exact (by have := (hg b h).2; simp; omega)⟩, h⟩
/-- A call that makes a box that is to stand apart. -/
theorem okG {w0 w w' : World} {g : List Nat} {R : List Nat → World → Prop} (x : Nat) (hg : Boxes w0 g w) (hb : Below w.heap.size w w') (h1 : w.heap.size ≤ x) (h2 : x < w'.heap.size) (h : R (x :: g) w') : ∃ g', StepG g w g' w' ∧ R g' w' :=
  ⟨x :: g, ⟨hb, fun b h => by rcases List.mem_cons.1 h with rfl | h; exact .inr h1; exact .inl h, fun _ h => List.mem_cons_of_mem _ h, fun b h => by rcases List.mem_cons.1 h with rfl | h; exact h2; exact Nat.lt_of_lt_of_le (hg b h).2 hb.size⟩, h⟩
/-- A region that draws its order, whose operations read and make memory. -/
theorem region_below {id : Nat} {b : Bool} {Q : Exit → Act → World → Prop} {a0 : Act} {w : World} (n : Nat) (R : Nat → Value → List Nat → World → Prop) (hQ : ∀ (d : Tmp) v c a w, Q (.panic c) (Act.put a (some d) v) w → Q (.panic c) a w) (hm : P.follows .mixedOrders = true) (hB : relB n l a0.tmps.size = true)
    (hR : ∀ k v g w g' w', R k v g w → StepG g w g' w' → R k v g' w') (hop : AllOps (opB P l a0 w R) 0 (l.take n)) (hend : ∀ (vs : Nat → Value) g w', Below w.heap.size w w' → Boxes w g w' → (∀ j, j < n → R j (vs j) g w') → wpList P l.toArray Q (l.drop n) (putOps (l.take n) vs 0 a0) w') : (Code.region id l.toArray b).wp P Q a0 w := by
  refine region_rel (γ := List Nat) n (fun _ g u g' u' => Below w.heap.size w u → StepG g u g' u') (fun g u => Below w.heap.size w u ∧ Boxes w g u) (fun _ _ _ => True) R [] hQ hm hB (fun k g u g' u' hc hT => ?_) (fun _ _ _ _ _ _ _ _ _ _ => trivial) (fun k j v g u g' u' _ hc hr hT => hR j v g u g' u' hr (hT hc.1)) (fun w' hw' => ⟨by rcases hw' with rfl | rfl; exact Below.refl _ _; exact (Below.refl _ _).drew, fun b hb => by cases hb⟩) (fun _ _ _ => trivial) (AllOps.mono (fun k o h => ?_) hop) (fun vs g u hc hr => hend vs g u hc.1 hc.2 hr)
  · have hs := hT hc.1
    refine ⟨Below.next hc.1 hs.b hc.1.size, fun b hb => ⟨?_, hs.l b hb⟩⟩
    rcases hs.n b hb with h1 | h1
    · exact (hc.2 b h1).1
    · exact Nat.le_trans hc.1.size h1
  · intro a g u vs hc _ hp h0
    have := h a g u hc.1 hc.2 (OpAt.of hp h0)
    split
    · rename_i hw
      rw [if_pos hw] at this
      exact rel_mono (fun v w' ⟨g', h1, h2⟩ => ⟨g', fun _ => h1, h2⟩) this
    · rename_i hw
      rw [if_neg hw] at this
      exact this
/-- Is it wanted? -/
theorem opFree {o : Oper} {a : Act} {X Y : Prop} (hg : o.guard = none) (h : X) : if wantE l o a = true then X else Y := by
  rw [if_pos (by unfold wantE; rw [hg])]; exact h
theorem opWant {o : Oper} {a : Act} {X Y : Prop} (j : Nat) (d : Tmp) {b : Bool} (hg : o.guard = some (j, b)) (hd : (l[j]?).bind (·.dst) = some d) (he : a.tmps[d]?.getD undef = .bool b) (h : X) : if wantE l o a = true then X else Y := by
  rw [if_pos (by unfold wantE; simp only [hg, hd, eval_tmp, he]; simp)]; exact h
theorem opSkip {o : Oper} {a : Act} {X Y : Prop} (j : Nat) (d : Tmp) {b b' : Bool} (hg : o.guard = some (j, b')) (hd : (l[j]?).bind (·.dst) = some d) (he : a.tmps[d]?.getD undef = .bool b) (hn : (b == b') = false) (h : Y) : if wantE l o a = true then X else Y := by
  rw [if_neg (by unfold wantE; simp only [hg, hd, eval_tmp, he]; simp [hn])]; exact h
theorem relMoveT {o : Oper} {a : Act} {w : World} {Φ : Value → World → Prop} (s : Tmp) {v : Value} (h : o.op = .move (.tmp s)) (hx : a.tmps[s]?.getD undef = v) (hk : Φ v w) : relAt P o a w Φ := by
  unfold relAt; rw [BigFrame.run_move _ h, eval_tmp, hx]; exact hk
theorem relAssignT {o : Oper} {a : Act} {w : World} {Φ : Value → World → Prop} (s : Tmp) {v : Value} (h : o.op = .assign (.tmp s)) (hx : a.tmps[s]?.getD undef = v) (hk : Φ v w) : relAt P o a w Φ := by
  unfold relAt; rw [BigFrame.run_assign _ h, eval_tmp, hx]; exact hk
theorem relMoveC {o : Oper} {a : Act} {w : World} {Φ : Value → World → Prop} (v : Value) (h : o.op = .move (.const v)) (hk : Φ v w) : relAt P o a w Φ := by
  unfold relAt; rw [BigFrame.run_move _ h]; exact hk
theorem relAssignC {o : Oper} {a : Act} {w : World} {Φ : Value → World → Prop} (v : Value) (h : o.op = .assign (.const v)) (hk : Φ v w) : relAt P o a w Φ := by
  unfold relAt; rw [BigFrame.run_assign _ h]; exact hk
theorem relRun {o : Oper} {a : Act} {w w' : World} {Φ : Value → World → Prop} {v : Value} (h : (execOp a.eval o).run P w = .ok (.value v) w') (hk : Φ v w') : relAt P o a w Φ := by
  unfold relAt; rw [h]; exact hk
theorem relCall {o : Oper} {a : Act} {w : World} {Φ : Value → World → Prop} {f : FuncId} {args : Array Value} (h : (execOp a.eval o).run P w = .ok (.enter f args) w) (hk : Calls P f args w (fun e w'' => ∃ v, e = .returned v ∧ Φ v w'')) : relAt P o a w Φ := by
  unfold relAt; rw [h]; exact hk
/-- What an operation leaves, and keeps through all that is only added. -/
structure Sp where
  r : Value → List Nat → World → Prop
  st : ∀ v g w g' w', r v g w → StepG g w g' w' → r v g' w'
def Sp.eq (x : Value) : Sp := ⟨fun v _ _ => v = x, fun _ _ _ _ _ h _ => h⟩
def Sp.any : Sp := ⟨fun _ _ _ => True, fun _ _ _ _ _ _ _ => trivial⟩
/-- A fact that hangs on no box. -/
def Sp.of (r : Value → World → Prop) (st : ∀ v w w', r v w → Below w.heap.size w w' → r v w') : Sp := ⟨fun v _ w => r v w, fun v _ w _ w' h hs => st v w w' h hs.b⟩
/-- A box. -/
def Sp.box (T : TypeId) (cs : List Value) : Sp := ⟨fun v g w => ∃ b, v = .pointer (some ⟨b, 0, none⟩) ∧ b ∈ g ∧ pts w b cs T, fun v g w g' w' ⟨b, h1, h2, h3⟩ hs => ⟨b, h1, hs.o b h2, h3.below hs.b⟩⟩
def tabR (tab : List Sp) (k : Nat) : Value → List Nat → World → Prop := (tab.getD k Sp.any).r
theorem region_tab {id : Nat} {b : Bool} {Q : Exit → Act → World → Prop} {a0 : Act} {w : World} (n : Nat) (tab : List Sp) (hQ : ∀ (d : Tmp) v c a w, Q (.panic c) (Act.put a (some d) v) w → Q (.panic c) a w) (hm : P.follows .mixedOrders = true) (hB : relB n l a0.tmps.size = true)
    (hop : AllOps (opB P l a0 w (tabR tab)) 0 (l.take n)) (hend : ∀ (vs : Nat → Value) g w', Below w.heap.size w w' → Boxes w g w' → (∀ j, j < n → tabR tab j (vs j) g w') → wpList P l.toArray Q (l.drop n) (putOps (l.take n) vs 0 a0) w') : (Code.region id l.toArray b).wp P Q a0 w :=
  region_below n (tabR tab) hQ hm hB (fun k v g w g' w' h hb => (tab.getD k Sp.any).st v g w g' w' h hb) hop hend
/-- As StepG; operation kI may turn blocks of M. -/
def StepC (M : Nat → Prop) (kI k : Nat) (g : List Nat) (w : World) (g' : List Nat) (w' : World) : Prop := if k = kI then g' = g ∧ Chg M w w' ∧ (∀ b ∈ g', b < w'.heap.size) else StepG g w g' w'
/-- One operation of a region of whose operations number kI turns blocks of M; it finds I. -/
def opC (P : Program) (l : List Oper) (a0 : Act) (w0 : World) (M : Nat → Prop) (kI : Nat) (I : World → Prop) (R : Nat → Value → List Nat → World → Prop) (k : Nat) (o : Oper) : Prop :=
  ∀ (a : Act) (g : List Nat) (w : World), Chg M w0 w → Boxes w0 g w → (k = kI → I w) → OpAt l a0 R o a g w → if wantE l o a = true then relAt P o a w (fun v w' => ∃ g', StepC M kI k g w g' w' ∧ R k v g' w') else R k undef g w
theorem okPc {w0 w : World} {g : List Nat} {R : List Nat → World → Prop} {k kI : Nat} {M : Nat → Prop} (hk : (k == kI) = false) (hg : Boxes w0 g w) (h : R g w) : ∃ g', StepC M kI k g w g' w ∧ R g' w := by
  obtain ⟨g', h1, h2⟩ := okP hg h
  exact ⟨g', by unfold StepC; rw [if_neg (by simpa using hk)]; exact h1, h2⟩
theorem okBc {w0 w w' : World} {g : List Nat} {R : List Nat → World → Prop} {k kI : Nat} {M : Nat → Prop} (hk : (k == kI) = false) (hg : Boxes w0 g w) (hb : Below w.heap.size w w') (h : R g w') : ∃ g', StepC M kI k g w g' w' ∧ R g' w' := by
  obtain ⟨g', h1, h2⟩ := okB hg hb h
  exact ⟨g', by unfold StepC; rw [if_neg (by simpa using hk)]; exact h1, h2⟩
theorem okAc {w0 w : World} {g : List Nat} {R : List Nat → World → Prop} {k kI : Nat} {M : Nat → Prop} (hk : (k == kI) = false) (o : Obj) (hg : Boxes w0 g w) (h : R (w.heap.size :: g) (w.alloc o)) : ∃ g', StepC M kI k g w g' (w.alloc o) ∧ R g' (w.alloc o) := by
  obtain ⟨g', h1, h2⟩ := okA o hg h
  exact ⟨g', by unfold StepC; rw [if_neg (by simpa using hk)]; exact h1, h2⟩
theorem okC {w0 w w' : World} {g : List Nat} {R : List Nat → World → Prop} {k : Nat} {M : Nat → Prop} (hg : Boxes w0 g w) (hc : Chg M w w') (h : R g w') : ∃ g', StepC M k k g w g' w' ∧ R g' w' :=
  ⟨g, by unfold StepC; rw [if_pos rfl]; exact ⟨rfl, hc, fun b h => Nat.lt_of_lt_of_le (hg b h).2 hc.size⟩, h⟩
/-- A region that draws its order, one of whose operations turns blocks of M. -/
theorem region_chg {id : Nat} {b : Bool} {Q : Exit → Act → World → Prop} {a0 : Act} {w : World} (n : Nat) (M : Nat → Prop) (kI : Nat) (I : World → Prop) (tab : List Sp) (hQ : ∀ (d : Tmp) v c a w, Q (.panic c) (Act.put a (some d) v) w → Q (.panic c) a w) (hm : P.follows .mixedOrders = true) (hB : relB n l a0.tmps.size = true)
    (hI0 : I w) (hI : ∀ w w', I w → Below w.heap.size w w' → I w') (hM : ∀ j, j ≠ kI → ∀ v g u u', tabR tab j v g u → Chg M u u' → tabR tab j v g u')
    (hop : AllOps (opC P l a0 w M kI I (tabR tab)) 0 (l.take n)) (hend : ∀ (vs : Nat → Value) g w', Chg M w w' → Boxes w g w' → (∀ j, j < n → tabR tab j (vs j) g w') → wpList P l.toArray Q (l.drop n) (putOps (l.take n) vs 0 a0) w') : (Code.region id l.toArray b).wp P Q a0 w := by
  refine region_rel (γ := List Nat) n (fun k g u g' u' => StepC M kI k g u g' u') (fun g u => Chg M w u ∧ Boxes w g u) (fun k _ u => k = kI → I u) (tabR tab) [] hQ hm hB (fun k g u g' u' hc hT => ?_) (fun k j g u g' u' hkj hc hi hT hj => ?_) (fun k j v g u g' u' hkj hc hr hT => ?_) (fun w' hw' => ⟨by rcases hw' with rfl | rfl; exact Chg.refl _ _; exact Chg.of_below (Below.refl _ _).drew, fun b hb => by cases hb⟩) (fun w' hw' _ _ => by rcases hw' with rfl | rfl; exact hI0; exact hI _ _ hI0 (Below.refl _ _).drew) (AllOps.mono (fun k o h => ?_) hop) (fun vs g u hc hr => hend vs g u hc.1 hc.2 hr)
  · unfold StepC at hT
    split at hT
    · obtain ⟨rfl, hT, hl⟩ := hT
      exact ⟨hc.1.trans hT (fun i h => .inl h), fun b hb => ⟨(hc.2 b hb).1, hl b hb⟩⟩
    · refine ⟨hc.1.below hT.b, fun b hb => ⟨?_, hT.l b hb⟩⟩
      rcases hT.n b hb with h1 | h1
      · exact (hc.2 b h1).1
      · exact Nat.le_trans hc.1.size h1
  · have hk : k ≠ kI := fun e => hkj (e.trans hj.symm)
    unfold StepC at hT
    rw [if_neg hk] at hT
    exact hI _ _ (hi hj) hT.b
  · unfold StepC at hT
    split at hT
    · rename_i hk
      obtain ⟨rfl, hT, hl⟩ := hT
      exact hM j (fun e => hkj (hk.trans e.symm)) v g' u u' hr hT
    · exact (tab.getD j Sp.any).st v g u g' u' hr hT
  · intro a g u vs hc hi hp h0
    exact h a g u hc.1 hc.2 hi (OpAt.of hp h0)
end
end Go.Proofs.Ytnlmkllhmldgiaa.K
