/- DERIVED. Plain words on wheels: the waiting keys in their row, and how Set, Cancel and Due turn it. No statement is proved here. -/
import Derived.Test.YtnlmkllhmldgiaaWheelK
import Derived.Lib.SlKeysI
namespace Go.Proofs.Ytnlmkllhmldgiaa.Wh
set_option linter.unusedVariables false
set_option linter.unusedSimpArgs false
open Go.RowKit Go.Maps Go.Proofs.Ytnlmkllhmldgiaa.K Go.Proofs.Ytnlmkllhmldgiaa.Lb
/-- A key, until when it waits, how many were set ahead. -/
structure Ent where
  k : Int
  u : Int
  s : Int
def keysE (l : List Ent) : List Int := l.map (·.k)
def ltE (a b : Ent) : Prop := a.u < b.u ∨ a.u = b.u ∧ a.s < b.s
def rmE (k : Int) (l : List Ent) : List Ent := l.filter (fun e => !(e.k == k))
def insE (e : Ent) : List Ent → List Ent
  | [] => [e]
  | x :: t => if x.u ≤ e.u then x :: insE e t else e :: x :: t
def setE (l : List Ent) (k u s : Int) : List Ent := insE ⟨k, u, s⟩ (rmE k l)
def hasE (l : List Ent) (k : Int) : Bool := l.any (·.k == k)
def untilE (l : List Ent) (k : Int) : Int := match l.find? (·.k == k) with | some e => e.u | none => 0
/-- How a wheel's map reads as a row. -/
structure WRel (D : DataW Unit) (s : Int) (l : List Ent) : Prop where
  tidy : Tidy D
  nd : (keysE l).Nodup
  srt : l.Pairwise ltE
  mem : ∀ k, Maps.has D (.int .i64 k) = hasE l k
  at_ : ∀ e ∈ l, D.atKey (.int .i64 e.k) (waitD 0 0) = waitD e.u e.s
  bd : ∀ e ∈ l, isInt e.k ∧ (0 ≤ e.u ∧ e.u ≤ 4611686018427387904) ∧ 1 ≤ e.s ∧ e.s ≤ s
theorem hasE_iff (l : List Ent) (k : Int) : hasE l k = true ↔ k ∈ keysE l := by
  unfold hasE keysE
  simp only [List.any_eq_true, List.mem_map, beq_iff_eq]
theorem hasE_mem {l : List Ent} {e : Ent} (h : e ∈ l) : hasE l e.k = true := (hasE_iff l e.k).2 (List.mem_map.2 ⟨e, h, rfl⟩)
theorem mem_rmE {k : Int} {l : List Ent} {e : Ent} : e ∈ rmE k l ↔ e ∈ l ∧ e.k ≠ k := by unfold rmE; simp [List.mem_filter]
theorem mem_insE {e x : Ent} : ∀ {l : List Ent}, x ∈ insE e l ↔ x = e ∨ x ∈ l
  | [] => by simp [insE]
  | y :: t => by
    unfold insE
    split
    · simp only [List.mem_cons, mem_insE (l := t)]
      constructor
      · rintro (h | h | h)
        · exact .inr (.inl h)
        · exact .inl h
        · exact .inr (.inr h)
      · rintro (h | h | h)
        · exact .inr (.inl h)
        · exact .inl h
        · exact .inr (.inr h)
    · simp only [List.mem_cons]
theorem insE_perm (e : Ent) : ∀ l : List Ent, (insE e l).Perm (e :: l)
  | [] => List.Perm.refl _
  | y :: t => by
    unfold insE
    split
    · exact ((insE_perm e t).cons y).trans (List.Perm.swap e y t)
    · exact List.Perm.refl _
theorem insE_srt {e : Ent} : ∀ {l : List Ent}, l.Pairwise ltE → (∀ x ∈ l, x.s < e.s) → (insE e l).Pairwise ltE
  | [], _, _ => by simp [insE]
  | y :: t, h, hs => by
    unfold insE
    have h1 := List.pairwise_cons.1 h
    split
    · rename_i hle
      refine List.pairwise_cons.2 ⟨fun x hx => ?_, insE_srt h1.2 (fun x hx => hs x (List.mem_cons_of_mem _ hx))⟩
      rcases mem_insE.1 hx with rfl | hx
      · have := hs y List.mem_cons_self
        unfold ltE; omega
      · exact h1.1 x hx
    · rename_i hle
      refine List.pairwise_cons.2 ⟨fun x hx => ?_, h⟩
      rcases List.mem_cons.1 hx with rfl | hx
      · unfold ltE; omega
      · have := h1.1 x hx
        unfold ltE at *; omega
theorem nodup_rmE {k : Int} {l : List Ent} (h : (keysE l).Nodup) : (keysE (rmE k l)).Nodup := by
  unfold keysE rmE
  exact List.Nodup.sublist (List.filter_sublist.map _) h
theorem not_mem_rmE (k : Int) (l : List Ent) : k ∉ keysE (rmE k l) := by
  unfold keysE
  rw [List.mem_map]
  rintro ⟨e, he, rfl⟩
  exact (mem_rmE.1 he).2 rfl
theorem keysE_ins (e : Ent) (l : List Ent) : (keysE (insE e l)).Perm (e.k :: keysE l) := (insE_perm e l).map _
theorem hasE_rm (k j : Int) (l : List Ent) : hasE (rmE k l) j = (hasE l j && !(j == k)) := by
  apply Bool.eq_iff_iff.2
  rw [Bool.and_eq_true, hasE_iff, hasE_iff]
  unfold keysE
  rw [List.mem_map, List.mem_map]
  constructor
  · rintro ⟨e, he, rfl⟩
    have := mem_rmE.1 he
    exact ⟨⟨e, this.1, rfl⟩, by simpa using this.2⟩
  · rintro ⟨⟨e, he, rfl⟩, hne⟩
    exact ⟨e, mem_rmE.2 ⟨he, by simpa using hne⟩, rfl⟩
theorem hasE_ins (e : Ent) (j : Int) (l : List Ent) : hasE (insE e l) j = (e.k == j || hasE l j) := by
  apply Bool.eq_iff_iff.2
  rw [Bool.or_eq_true, hasE_iff, hasE_iff, (keysE_ins e l).mem_iff, List.mem_cons, beq_iff_eq]
  constructor
  · rintro (h | h); exact .inl h.symm; exact .inr h
  · rintro (h | h); exact .inl h.symm; exact .inr h
theorem litK (k : Int) : WideAt.IsKeyLit (.int .i64 k) := by unfold WideAt.IsKeyLit; trivial
theorem litNe {a b : Int} (h : a ≠ b) : (Lit.int .i64 a) ≠ .int .i64 b := fun e => h (by simpa using e)
theorem WRel.start : WRel (.map []) 0 [] := ⟨tidy_empty, by simp [keysE], List.Pairwise.nil, fun k => rfl, fun e h => (by cases h), fun e h => (by cases h)⟩
theorem WRel.del {D : DataW Unit} {s : Int} {l : List Ent} (h : WRel D s l) (k : Int) : WRel (D.del (.int .i64 k)) s (rmE k l) := by
  refine ⟨h.tidy.del _, nodup_rmE h.nd, h.srt.filter _, fun j => ?_, fun e he => ?_, fun e he => h.bd e (mem_rmE.1 he).1⟩
  · rw [hasE_rm]
    by_cases e : j = k
    · subst e; rw [has_del_same]; simp
    · rw [has_del_other (litNe e), h.mem]; simp [e]
  · have := mem_rmE.1 he
    rw [atKey_del_other (litNe this.2)]; exact h.at_ e this.1
theorem WRel.put {D : DataW Unit} {s : Int} {l : List Ent} (h : WRel D s l) {k u : Int} (hk : isInt k) (hu : 0 ≤ u ∧ u ≤ 4611686018427387904) (hs : 0 ≤ s) : WRel (D.put (.int .i64 k) (waitD u (s + 1))) (s + 1) (setE l k u (s + 1)) := by
  have hbd : ∀ e ∈ rmE k l, e.s < s + 1 := fun e he => by have := (h.bd e (mem_rmE.1 he).1).2.2.2; omega
  refine ⟨h.tidy.put (litK k) _, ?_, insE_srt (h.srt.filter _) hbd, fun j => ?_, fun e he => ?_, fun e he => ?_⟩
  · exact (keysE_ins ⟨k, u, s + 1⟩ (rmE k l)).nodup_iff.2 (List.nodup_cons.2 ⟨not_mem_rmE k l, nodup_rmE h.nd⟩)
  · unfold setE
    rw [hasE_ins, hasE_rm]
    by_cases e : j = k
    · subst e; rw [has_put_same h.tidy.isMap (litK j)]; simp
    · have e1 : (k == j) = false := beq_eq_false_iff_ne.2 (Ne.symm e)
      have e2 : (j == k) = false := beq_eq_false_iff_ne.2 e
      rw [has_put_other (litNe e), h.mem, e1, e2]; simp
  · rcases mem_insE.1 he with rfl | he
    · exact atKey_put_same h.tidy.isMap (litK k) _ _
    · have := mem_rmE.1 he
      rw [atKey_put_other (litNe this.2)]; exact h.at_ e this.1
  · rcases mem_insE.1 he with rfl | he
    · exact ⟨hk, hu, by show 1 ≤ s + 1; omega, Int.le_refl _⟩
    · have := h.bd e (mem_rmE.1 he).1
      exact ⟨this.1, this.2.1, this.2.2.1, by have := this.2.2.2; omega⟩
theorem WRel.until_mem {D : DataW Unit} {s : Int} {l : List Ent} (h : WRel D s l) {e : Ent} (he : e ∈ l) : untilD D e.k = e.u ∧ setD D e.k = e.s := by
  unfold untilD setD
  rw [h.at_ e he]
  exact ⟨rfl, rfl⟩
theorem find_of_mem {l : List Ent} (h : (keysE l).Nodup) {e : Ent} (he : e ∈ l) : l.find? (·.k == e.k) = some e := by
  induction l with
  | nil => cases he
  | cons x t ih =>
    have hn : x.k ∉ keysE t ∧ (keysE t).Nodup := List.nodup_cons.1 h
    rw [List.find?_cons]
    rcases List.mem_cons.1 he with rfl | he'
    · simp
    · have : x.k ≠ e.k := fun e1 => hn.1 (e1 ▸ List.mem_map.2 ⟨e, he', rfl⟩)
      rw [show (x.k == e.k) = false by simpa using this]
      exact ih hn.2 he'
theorem untilE_mem {l : List Ent} (h : (keysE l).Nodup) {e : Ent} (he : e ∈ l) : untilE l e.k = e.u := by unfold untilE; rw [find_of_mem h he]
theorem untilE_none {l : List Ent} {k : Int} (h : hasE l k = false) : untilE l k = 0 := by
  unfold untilE
  have : l.find? (·.k == k) = none := by
    rw [List.find?_eq_none]
    intro e he hk
    have e1 : e.k = k := by simpa using hk
    rw [← e1, hasE_mem he] at h; cases h
  rw [this]
theorem WRel.until_eq {D : DataW Unit} {s : Int} {l : List Ent} (h : WRel D s l) (k : Int) : untilD D k = untilE l k := by
  cases hh : hasE l k with
  | true =>
    obtain ⟨e, he, rfl⟩ := List.mem_map.1 ((hasE_iff l k).1 hh)
    rw [(h.until_mem he).1, untilE_mem h.nd he]
  | false =>
    rw [untilE_none hh]
    unfold untilD
    rw [atKey_of_not_has (by rw [h.mem, hh])]
    rfl
theorem intKeys_mem {D : DataW Unit} {s : Int} {l : List Ent} (h : WRel D s l) (hk : ∀ es, D = .map es → ∀ p ∈ es, ∃ x, p.1 = .int .i64 x) : (keysE l).Perm (intKeys D) := by
  obtain ⟨es, rfl, hp⟩ := h.tidy
  exact perm_intKeys hp (hk es rfl) h.nd (fun x => by rw [h.mem, hasE_iff])
/-- Two rows of the same things, each by one strict order: they are one. -/
theorem perm_rows {α : Type} {R : α → α → Prop} (hR : ∀ a b, R a b → ¬ R b a) : ∀ {l1 l2 : List α}, l1.Perm l2 → l1.Pairwise R → l2.Pairwise R → l1 = l2
  | [], l2, h, _, _ => (List.nil_perm.1 h).symm ▸ rfl
  | a :: t1, [], h, _, _ => absurd h.length_eq (by simp)
  | a :: t1, b :: t2, h, h1, h2 => by
    have p1 := List.pairwise_cons.1 h1
    have p2 := List.pairwise_cons.1 h2
    rcases List.mem_cons.1 (h.mem_iff.1 List.mem_cons_self) with rfl | ha
    · rw [perm_rows hR ((List.perm_cons a).1 h) p1.2 p2.2]
    · rcases List.mem_cons.1 (h.mem_iff.2 List.mem_cons_self) with rfl | hb
      · rw [perm_rows hR ((List.perm_cons b).1 h) p1.2 p2.2]
      · exact absurd (p1.1 b hb) (hR _ _ (p2.1 a ha))
theorem WRel.lt_iff {D : DataW Unit} {s : Int} {l : List Ent} (h : WRel D s l) {a b : Ent} (ha : a ∈ l) (hb : b ∈ l) : ltW D a.k b.k ↔ ltE a b := by
  unfold ltW ltE
  rw [(h.until_mem ha).1, (h.until_mem ha).2, (h.until_mem hb).1, (h.until_mem hb).2]
/-- The keys in the row by which they are sorted. -/
theorem WRel.keys_row {D : DataW Unit} {s : Int} {l : List Ent} (h : WRel D s l) (hk : ∀ es, D = .map es → ∀ p ∈ es, ∃ x, p.1 = .int .i64 x) {ss : List Int} (hp : ss.Perm (intKeys D)) (hs : ss.Pairwise (fun x y => ¬ ltW D y x)) : ss = keysE l := by
  have hpk : ss.Perm (keysE l) := hp.trans (intKeys_mem h hk).symm
  have hnd : ss.Nodup := hpk.nodup_iff.2 h.nd
  refine perm_rows (R := ltW D) (fun a b => by unfold ltW; omega) hpk ?_ ?_
  · have h2 : ss.Pairwise (fun x y => ¬ ltW D y x ∧ x ≠ y) := by
      rw [List.pairwise_and_iff]; exact ⟨hs, hnd⟩
    refine h2.imp_of_mem fun {x y} hx hy hxy => ?_
    obtain ⟨a, ha, rfl⟩ := List.mem_map.1 (hpk.mem_iff.1 hx)
    obtain ⟨b, hb, rfl⟩ := List.mem_map.1 (hpk.mem_iff.1 hy)
    rw [h.lt_iff ha hb]
    have hn := hxy.1
    rw [h.lt_iff hb ha] at hn
    have htot : a = b ∨ ltE a b ∨ ltE b a := by
      have hsr := h.srt
      clear h2 hs hpk hnd hxy hx hy hn hp
      induction l with
      | nil => cases ha
      | cons c t ih =>
        have h1 := List.pairwise_cons.1 hsr
        rcases List.mem_cons.1 ha with rfl | ha' <;> rcases List.mem_cons.1 hb with rfl | hb'
        · exact .inl rfl
        · exact .inr (.inl (h1.1 _ hb'))
        · exact .inr (.inr (h1.1 _ ha'))
        · clear ih
          have : ∀ (l : List Ent), l.Pairwise ltE → a ∈ l → b ∈ l → a = b ∨ ltE a b ∨ ltE b a := by
            intro l
            induction l with
            | nil => intro _ h; cases h
            | cons c t ih =>
              intro hsr ha hb
              have h1 := List.pairwise_cons.1 hsr
              rcases List.mem_cons.1 ha with rfl | ha' <;> rcases List.mem_cons.1 hb with rfl | hb'
              · exact .inl rfl
              · exact .inr (.inl (h1.1 _ hb'))
              · exact .inr (.inr (h1.1 _ ha'))
              · exact ih h1.2 ha' hb'
          exact this t h1.2 ha' hb'
    rcases htot with e | h3 | h3
    · exact absurd (congrArg Ent.k e) hxy.2
    · exact h3
    · exact absurd h3 hn
  · exact List.pairwise_map.2 (h.srt.imp_of_mem fun {a b} ha hb hab => (h.lt_iff ha hb).2 hab)
end Go.Proofs.Ytnlmkllhmldgiaa.Wh
