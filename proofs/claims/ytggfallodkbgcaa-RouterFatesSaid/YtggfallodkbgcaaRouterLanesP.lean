/- DERIVED. Plain words for the statement RouterLanes: a gate's messages by lanes and as they were sent, through offers and steps. No statement is proved here. -/
import Derived.Test.YtggfallodkbgcaaRoutL
import Derived.Test.YtggfallodkbgcaaGoodKP
namespace Go.Proofs.Ytggfallodkbgcaa.Ro
set_option linter.unusedVariables false
set_option linter.unusedSimpArgs false
open Go.RowKit Go.Proofs.Ytggfallodkbgcaa.K Go.Proofs.Ytggfallodkbgcaa.Lb Go.Proofs.Ytggfallodkbgcaa.La Go.Proofs.Ytggfallodkbgcaa.Cf Go.Proofs.Ytggfallodkbgcaa.Gt Go.Proofs.Ytggfallodkbgcaa.Qu Go.Proofs.Ytggfallodkbgcaa.Wh
/-- Each lane's messages are as they were sent; none has a number that wasn't given yet. -/
def LRow (g : Gte) : Prop := g.ms.Pairwise (fun a b => a.lane = b.lane → a.seq < b.seq) ∧ ∀ m ∈ g.ms, m.seq ≤ g.seq
theorem pair_of_rows {α : Type} {key : α → Int} {R : α → α → Prop} : ∀ {l : List α}, (∀ k, (l.filter (fun p => key p == k)).Pairwise R) → l.Pairwise (fun a b => key a = key b → R a b)
  | [], _ => List.Pairwise.nil
  | x :: t, h => by
    refine List.Pairwise.cons (fun b hb e => ?_) (pair_of_rows (l := t) (fun k => ?_))
    · have h1 := h (key x)
      rw [List.filter_cons_of_pos (by simp)] at h1
      exact (List.pairwise_cons.1 h1).1 b (List.mem_filter.2 ⟨hb, by simp [e]⟩)
    · have h1 := h k
      by_cases hk : key x = k
      · rw [List.filter_cons_of_pos (by simp [hk])] at h1
        exact (List.pairwise_cons.1 h1).2
      · rw [List.filter_cons_of_neg (by simp [hk])] at h1
        exact h1
theorem rows_of_pair {α : Type} {key : α → Int} {R : α → α → Prop} {l : List α} (h : l.Pairwise (fun a b => key a = key b → R a b)) (k : Int) : (l.filter (fun p => key p == k)).Pairwise R := by
  refine (List.Pairwise.filter _ h).imp_of_mem (fun {a b} ha hb hab => hab ?_)
  have h1 := (List.mem_filter.1 ha).2
  have h2 := (List.mem_filter.1 hb).2
  simp at h1 h2
  rw [h1, h2]
/-- All messages, in the row of all: by lanes, and by numbers. -/
def before (a b : Msg) : Prop := a.lane < b.lane ∨ (a.lane = b.lane ∧ a.seq < b.seq)
theorem LRow.sorted {g : Gte} (h : LRow g) : (sortM g.ms).Pairwise before := by
  have h1 := Sp.sortL_srt (key := lane1) g.ms
  have h2 : (sortM g.ms).Pairwise (fun a b => lane1 a = lane1 b → a.seq < b.seq) := pair_of_rows (fun k => by
    rw [show (sortM g.ms).filter (fun p => lane1 p == k) = g.ms.filter (fun p => lane1 p == k) from Sp.sortL_row g.ms k]
    exact rows_of_pair (key := lane1) h.1 k)
  refine List.Pairwise.imp₂ (fun a b ha hb => ?_) h1 h2
  have ha : lane1 a ≤ lane1 b := ha
  rcases Int.lt_or_eq_of_le ha with h3 | h3
  · exact .inl h3
  · exact .inr ⟨h3, hb h3⟩
theorem LRow.new (k : Chan) (b : Bk) : LRow ⟨k, [], b, 0⟩ := ⟨List.Pairwise.nil, fun m hm => by cases hm⟩
theorem LRow.offer {g : Gte} (h : LRow g) (mode lane now round : Int) (ws : List Int) : LRow (offerT g mode lane ws now round).1 := by
  unfold offerT
  split
  · exact h
  · split
    · exact h
    · split
      · exact h
      · refine ⟨List.pairwise_append.2 ⟨h.1, List.pairwise_singleton _ _, fun a ha b hb _ => ?_⟩, fun m hm => ?_⟩
        · simp at hb; subst hb
          have := h.2 a ha
          simp only; omega
        · rcases List.mem_append.1 hm with hm | hm
          · have := h.2 m hm; simp only; omega
          · simp at hm; subst hm; simp
theorem offer_seq (g : Gte) (mode lane now round : Int) (ws : List Int) : (offerT g mode lane ws now round).1.seq ≤ g.seq + 1 := by
  unfold offerT
  split
  · simp only; omega
  · split
    · simp only; omega
    · split
      · simp only; omega
      · simp
theorem step_seq (g : Gte) (p : Prt) (now : Int) : (stepR g p now).1.seq = g.seq := by unfold stepR; split <;> rfl
theorem LRow.step {g : Gte} (h : LRow g) (p : Prt) (now : Int) : LRow (stepR g p now).1 := by
  have hs : (restT now g.ms).Pairwise before := List.Pairwise.filter _ h.sorted
  have hm : ∀ m ∈ restT now g.ms, m.seq ≤ g.seq := fun m hm => h.2 m ((Sp.sortL_mem (key := lane1) g.ms m).1 (List.mem_filter.1 hm).1)
  unfold stepR
  split
  · exact ⟨List.Pairwise.nil, fun m hm => by cases hm⟩
  · rename_i m r hr
    rw [hr] at hs hm
    exact ⟨(List.pairwise_cons.1 hs).2.imp (fun {a b} hab e => by rcases hab with h | h; exact absurd e (by omega); exact h.2), fun x hx => hm x (List.mem_cons_of_mem _ hx)⟩
theorem kindP_ne (r : Prt × Int × Bool × Int) : kindP r ≠ 0 := by unfold kindP; split <;> (try split) <;> decide
/-- While a message is there that isn't late, a step takes one, and no later one. -/
theorem LRow.first {g : Gte} (h : LRow g) (p : Prt) (now : Int) : ∀ x ∈ sortM g.ms, lateT now x.late = false → (stepR g p now).2.2.1 ≠ 0 ∧ ¬ x.lane < (stepR g p now).2.2.2.2.lane ∧ ¬ (x.lane = (stepR g p now).2.2.2.2.lane ∧ x.seq < (stepR g p now).2.2.2.2.seq) := by
  intro x hx hl
  have hs : (restT now g.ms).Pairwise before := List.Pairwise.filter _ h.sorted
  have hxr : x ∈ restT now g.ms := List.mem_filter.2 ⟨hx, by simp [hl]⟩
  unfold stepR
  split
  · rename_i hr; rw [hr] at hxr; cases hxr
  · rename_i m r hr
    rw [hr] at hxr hs
    refine ⟨kindP_ne _, ?_⟩
    simp only
    rcases List.mem_cons.1 hxr with rfl | hxr
    · exact ⟨by omega, fun hh => by omega⟩
    · rcases (List.pairwise_cons.1 hs).1 x hxr with h1 | h1
      · exact ⟨by omega, fun hh => by omega⟩
      · exact ⟨by omega, fun hh => by omega⟩
theorem tick_of {x r m : Int} (hm : m = 3 ∨ m = 4) (h : 0 ≤ r ∧ r ≤ 1000) : ∃ d, 0 ≤ d ∧ d < m ∧ wrap64 (r + wrap64 ((IntKind.u64.wrap x).tmod m)) = r + d := by
  refine ⟨(x % 18446744073709551616) % m, by rcases hm with rfl | rfl <;> omega, by rcases hm with rfl | rfl <;> omega, ?_⟩
  rw [IntKind.wrap_u64, Int.tmod_eq_emod_of_nonneg (by omega)]
  rcases hm with rfl | rfl <;> (unfold wrap64; omega)
end Go.Proofs.Ytggfallodkbgcaa.Ro
