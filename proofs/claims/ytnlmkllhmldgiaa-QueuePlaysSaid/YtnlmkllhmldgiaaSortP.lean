/- DERIVED. Plain words on lists that are sorted by a key, those of one key left in their row. No program is in sight; no statement is proved here. -/
import Derived.Test.YtnlmkllhmldgiaaK0
namespace Go.Proofs.Ytnlmkllhmldgiaa.Sp
set_option linter.unusedVariables false
set_option linter.unusedSimpArgs false
section
variable {α : Type} {key : α → Int}
/-- The same elements; those of one key in the same row. -/
structure Stab (key : α → Int) (u v : List α) : Prop where
  len : u.length = v.length
  row : ∀ k, u.filter (fun p => key p == k) = v.filter (fun p => key p == k)
theorem Stab.refl (u : List α) : Stab key u u := ⟨rfl, fun _ => rfl⟩
theorem Stab.trans {u v x : List α} (h : Stab key u v) (h' : Stab key v x) : Stab key u x := ⟨h.len.trans h'.len, fun k => (h.row k).trans (h'.row k)⟩
theorem Stab.symm {u v : List α} (h : Stab key u v) : Stab key v u := ⟨h.len.symm, fun k => (h.row k).symm⟩
theorem Stab.app {u v x y : List α} (h : Stab key u v) (h' : Stab key x y) : Stab key (u ++ x) (v ++ y) := ⟨by simp [h.len, h'.len], fun k => by rw [List.filter_append, List.filter_append, h.row, h'.row]⟩
theorem Stab.mem {u v : List α} (h : Stab key u v) {p : α} : p ∈ u ↔ p ∈ v := by
  have e : ∀ l : List α, p ∈ l ↔ p ∈ l.filter (fun q => key q == key p) := fun l => by simp
  rw [e u, e v, h.row]
theorem Stab.swap {u v : List α} (h : ∀ a ∈ u, ∀ b ∈ v, key b < key a) : Stab key (u ++ v) (v ++ u) := by
  refine ⟨by simp [Nat.add_comm], fun k => ?_⟩
  rw [List.filter_append, List.filter_append]
  by_cases hu : ∃ a ∈ u, key a = k
  · obtain ⟨a, ha, hk⟩ := hu
    have : v.filter (fun p => key p == k) = [] := by
      rw [List.filter_eq_nil_iff]
      intro b hb; have := h a ha b hb
      simp; omega
    rw [this]; simp
  · have : u.filter (fun p => key p == k) = [] := by
      rw [List.filter_eq_nil_iff]
      intro b hb; simp
      exact fun e => hu ⟨b, hb, e⟩
    rw [this]; simp
def Srt (key : α → Int) (u : List α) : Prop := u.Pairwise (fun a b => key a ≤ key b)
theorem Srt.nil : Srt key ([] : List α) := List.Pairwise.nil
theorem Srt.one (a : α) : Srt key [a] := List.pairwise_singleton _ _
theorem Srt.app {u v : List α} (hu : Srt key u) (hv : Srt key v) (h : ∀ a ∈ u, ∀ b ∈ v, key a ≤ key b) : Srt key (u ++ v) := List.pairwise_append.2 ⟨hu, hv, h⟩
theorem Srt.left {u v : List α} (h : Srt key (u ++ v)) : Srt key u := (List.pairwise_append.1 h).1
theorem Srt.right {u v : List α} (h : Srt key (u ++ v)) : Srt key v := (List.pairwise_append.1 h).2.1
theorem Srt.cross {u v : List α} (h : Srt key (u ++ v)) : ∀ a ∈ u, ∀ b ∈ v, key a ≤ key b := (List.pairwise_append.1 h).2.2
theorem Srt.at_ {u : List α} (h : Srt key u) {i j : Nat} (hi : i < u.length) (hj : j < u.length) (hij : i ≤ j) : key u[i] ≤ key u[j] := by
  rcases Nat.lt_or_ge i j with h1 | h1
  · exact List.pairwise_iff_getElem.1 h i j hi hj h1
  · obtain rfl : i = j := by omega
    exact Int.le_refl _
theorem Srt.sub {u : List α} (h : Srt key u) (f : α → Bool) : Srt key (u.filter f) := List.Pairwise.filter f h
/-- Sorted, and the same elements, those of one key in their row: there is but one such row. -/
theorem Srt.uniq : ∀ {u v : List α}, Srt key u → Srt key v → Stab key u v → u = v
  | [], v, _, _, h => (List.eq_nil_of_length_eq_zero h.len.symm).symm
  | a :: u, [], _, _, h => by have := h.len; simp at this
  | a :: u, b :: v, hu, hv, h => by
    have ha : a ∈ b :: v := h.mem.1 (by simp)
    have hb : b ∈ a :: u := h.mem.2 (by simp)
    have h1 : key b ≤ key a := by rcases List.mem_cons.1 ha with e | e; rw [e]; exact Int.le_refl _; exact (List.pairwise_cons.1 hv).1 a e
    have h2 : key a ≤ key b := by rcases List.mem_cons.1 hb with e | e; rw [e]; exact Int.le_refl _; exact (List.pairwise_cons.1 hu).1 b e
    have hk : key a = key b := by omega
    have hr := h.row (key a)
    simp only [List.filter_cons, hk, BEq.rfl, ↓reduceIte, List.cons.injEq] at hr
    obtain ⟨hab, hr⟩ := hr
    subst hab
    have h3 : Stab key u v := ⟨by have := h.len; simpa using this, fun k => by
      have := h.row k
      simp only [List.filter_cons] at this
      split at this
      · simpa using this
      · exact this⟩
    rw [Srt.uniq (List.pairwise_cons.1 hu).2 (List.pairwise_cons.1 hv).2 h3]
/-- e behind all that are no greater. -/
def insL (key : α → Int) (e : α) (l : List α) : List α := l.takeWhile (fun p => decide (key p ≤ key e)) ++ e :: l.dropWhile (fun p => decide (key p ≤ key e))
theorem drop_gt {e : α} {l : List α} (h : Srt key l) : ∀ p ∈ l.dropWhile (fun p => decide (key p ≤ key e)), key e < key p := by
  induction l with
  | nil => simp
  | cons a l ih =>
    rw [List.dropWhile_cons]
    split
    · exact ih (List.pairwise_cons.1 h).2
    · rename_i hn
      intro p hp
      have ha : key e < key a := by simpa using hn
      rcases List.mem_cons.1 hp with rfl | hp
      · exact ha
      · have := (List.pairwise_cons.1 h).1 p hp; omega
theorem take_le (e : α) (l : List α) : ∀ p ∈ l.takeWhile (fun p => decide (key p ≤ key e)), key p ≤ key e := fun p hp => by
  induction l with
  | nil => simp at hp
  | cons a l ih =>
    rw [List.takeWhile_cons] at hp
    split at hp
    · rename_i h1
      rcases List.mem_cons.1 hp with rfl | hp
      · simpa using h1
      · exact ih hp
    · simp at hp
theorem insL_stab {e : α} {l : List α} (h : Srt key l) : Stab key (l ++ [e]) (insL key e l) := by
  unfold insL
  have h1 : l.takeWhile (fun p => decide (key p ≤ key e)) ++ l.dropWhile (fun p => decide (key p ≤ key e)) = l := List.takeWhile_append_dropWhile
  have h2 : Stab key (l.dropWhile (fun p => decide (key p ≤ key e)) ++ [e]) ([e] ++ l.dropWhile (fun p => decide (key p ≤ key e))) := Stab.swap (fun a ha b hb => by simp at hb; subst hb; exact drop_gt h a ha)
  have h3 := (Stab.refl (key := key) (l.takeWhile (fun p => decide (key p ≤ key e)))).app h2
  rw [← List.append_assoc, h1] at h3
  simpa using h3
theorem insL_srt {e : α} {l : List α} (h : Srt key l) : Srt key (insL key e l) := by
  unfold insL
  have h1 : l.takeWhile (fun p => decide (key p ≤ key e)) ++ l.dropWhile (fun p => decide (key p ≤ key e)) = l := List.takeWhile_append_dropWhile
  have h0 := h
  rw [← h1] at h0
  refine h0.left.app (List.pairwise_cons.2 ⟨fun b hb => Int.le_of_lt (drop_gt h b hb), h0.right⟩) (fun a ha b hb => ?_)
  rcases List.mem_cons.1 hb with rfl | hb
  · exact take_le _ _ a ha
  · exact h0.cross a ha b hb
/-- A row sorted. -/
def sortL (key : α → Int) (u : List α) : List α := u.foldl (fun acc e => insL key e acc) []
theorem sortL_snoc (u : List α) (e : α) : sortL key (u ++ [e]) = insL key e (sortL key u) := by simp [sortL]
theorem sortL_ok (u : List α) : Stab key u (sortL key u) ∧ Srt key (sortL key u) := by
  have key' : ∀ (r l acc : List α), Stab key l acc → Srt key acc → Stab key (l ++ r) (r.foldl (fun acc e => insL key e acc) acc) ∧ Srt key (r.foldl (fun acc e => insL key e acc) acc) := by
    intro r
    induction r with
    | nil => intro l acc h1 h2; simpa using ⟨h1, h2⟩
    | cons e r ih =>
      intro l acc h1 h2
      have h3 := ih (l ++ [e]) (insL key e acc) ((h1.app (Stab.refl [e])).trans (insL_stab h2)) (insL_srt h2)
      simpa using h3
  have := key' u [] [] (Stab.refl _) Srt.nil
  rw [List.nil_append] at this
  exact this
theorem sortL_stab (u : List α) : Stab key u (sortL key u) := (sortL_ok u).1
theorem sortL_srt (u : List α) : Srt key (sortL key u) := (sortL_ok u).2
theorem sortL_of {u v : List α} (h : Stab key u v) (hs : Srt key v) : v = sortL key u := Srt.uniq hs (sortL_srt u) (h.symm.trans (sortL_stab u))
theorem sortL_srt_id {u : List α} (h : Srt key u) : sortL key u = u := (sortL_of (Stab.refl u) h).symm
theorem sortL_len (u : List α) : (sortL key u).length = u.length := (sortL_stab u).len.symm
theorem sortL_mem (u : List α) (p : α) : p ∈ sortL key u ↔ p ∈ u := (sortL_stab u).mem.symm
theorem sortL_row (u : List α) (k : Int) : (sortL key u).filter (fun p => key p == k) = u.filter (fun p => key p == k) := ((sortL_stab u).row k).symm
/-- One step of insertion: e ahead of l, if l is greater. -/
theorem ins_stop {d1 d2 : List α} {e : α} (h : Srt key (d1 ++ d2)) (h2 : ∀ p ∈ d2, key e < key p) (h1 : d1 = [] ∨ ∃ d l, d1 = d ++ [l] ∧ key l ≤ key e) : Srt key (d1 ++ e :: d2) ∧ Stab key (d1 ++ d2 ++ [e]) (d1 ++ e :: d2) := by
  refine ⟨h.left.app (List.pairwise_cons.2 ⟨fun b hb => Int.le_of_lt (h2 b hb), h.right⟩) (fun a ha b hb => ?_), ?_⟩
  · rcases List.mem_cons.1 hb with rfl | hb
    · rcases h1 with rfl | ⟨d, l, rfl, hl⟩
      · cases ha
      · have hs := h.left
        rcases List.mem_append.1 ha with ha | ha
        · have := hs.cross a ha l (by simp); omega
        · simp at ha; subst ha; exact hl
    · exact h.cross a ha b hb
  · rw [List.append_assoc]
    exact (Stab.refl d1).app (by simpa using (Stab.swap (key := key) (u := d2) (v := [e]) (fun a ha b hb => by simp at hb; subst hb; exact h2 a ha)))
/-- The joining of two sorted rows: parts that are exchanged, each part then joined. -/
theorem sym_join {u1 u2 v1 v2 z1 z2 : List α} (hu : Srt key (u1 ++ u2)) (hv : Srt key (v1 ++ v2)) (h1 : ∀ a ∈ u2, ∀ b ∈ v1, key b < key a) (h2 : ∀ a ∈ u1, ∀ b ∈ v2, key a ≤ key b) (hz1 : Stab key (u1 ++ v1) z1) (hs1 : Srt key z1) (hz2 : Stab key (u2 ++ v2) z2) (hs2 : Srt key z2) :
    Stab key (u1 ++ u2 ++ (v1 ++ v2)) (z1 ++ z2) ∧ Srt key (z1 ++ z2) := by
  constructor
  · have e : Stab key (u1 ++ (u2 ++ v1) ++ v2) (u1 ++ (v1 ++ u2) ++ v2) := ((Stab.refl u1).app (Stab.swap h1)).app (Stab.refl v2)
    have e2 : u1 ++ u2 ++ (v1 ++ v2) = u1 ++ (u2 ++ v1) ++ v2 := by simp
    have e3 : u1 ++ (v1 ++ u2) ++ v2 = (u1 ++ v1) ++ (u2 ++ v2) := by simp
    rw [e2]
    exact e.trans (e3 ▸ hz1.app hz2)
  · refine hs1.app hs2 (fun a ha b hb => ?_)
    rcases List.mem_append.1 (hz1.mem.2 ha) with ha | ha <;> rcases List.mem_append.1 (hz2.mem.2 hb) with hb | hb
    · exact hu.cross a ha b hb
    · exact h2 a ha b hb
    · exact Int.le_of_lt (h1 b hb a ha)
    · exact hv.cross a ha b hb
end
end Go.Proofs.Ytnlmkllhmldgiaa.Sp
