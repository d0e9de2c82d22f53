/- DERIVED. Plain words for the statement RouterFits: how many steps do something, and what is left. No statement is proved here. -/
import Derived.Test.YtggfallodkbgcaaRoutS
import Derived.Test.YtggfallodkbgcaaRouterLanesP
namespace Go.Proofs.Ytggfallodkbgcaa.Ro
set_option linter.unusedVariables false
set_option linter.unusedSimpArgs false
open Go.RowKit Go.Proofs.Ytggfallodkbgcaa.K Go.Proofs.Ytggfallodkbgcaa.Lb Go.Proofs.Ytggfallodkbgcaa.La Go.Proofs.Ytggfallodkbgcaa.Cf Go.Proofs.Ytggfallodkbgcaa.Gt Go.Proofs.Ytggfallodkbgcaa.Qu Go.Proofs.Ytggfallodkbgcaa.Wh
theorem restT_tail {now : Int} {ms : List Msg} {m : Msg} {r : List Msg} (h : restT now ms = m :: r) : restT now r = r := by
  have hs : Sp.Srt lane1 (m :: r) := by rw [← h]; exact Sp.Srt.sub (Sp.sortL_srt (key := lane1) ms) _
  have hr : Sp.Srt lane1 r := (List.pairwise_cons.1 hs).2
  have h1 : sortM r = r := Sp.sortL_srt_id hr
  unfold restT
  rw [h1, List.filter_eq_self]
  intro x hx
  have : x ∈ restT now ms := by rw [h]; exact List.mem_cons_of_mem _ hx
  exact (List.mem_filter.1 this).2
theorem stepR_nil {g : Gte} {p : Prt} {now : Int} (h : g.ms = []) : stepR g p now = (g, p, 0, 0, La.zeroM) := by
  obtain ⟨gk, gm, gb, gs⟩ := g
  simp only at h
  subst h
  rfl
theorem stepsR_all (now : Int) : ∀ (N : Nat) (g : Gte) (p : Prt), (restT now g.ms).length < N → (stepsR now N g p).2.2.length = (restT now g.ms).length ∧ (stepsR now N g p).1.ms = []
  | 0, g, p, h => by omega
  | n + 1, g, p, h => by
    unfold stepsR
    cases hr : restT now g.ms with
    | nil =>
      have e : stepR g p now = ({ g with ms := [] }, p, 0, 0, La.zeroM) := by unfold stepR; rw [hr]
      rw [e]; simp
    | cons m r =>
      have e : stepR g p now = ({ g with ms := r }, (putP p m).1, kindP (putP p m), (putP p m).2.1, m) := by unfold stepR; rw [hr]
      rw [e]
      simp only
      rw [if_neg (kindP_ne _)]
      have ht := restT_tail hr
      have ih := stepsR_all now n { g with ms := r } (putP p m).1 (by show (restT now r).length < n; rw [ht]; rw [hr] at h; simp at h; omega)
      simp only at ih
      rw [ht] at ih
      simp [ih.1, ih.2]
theorem putP_hold (p : Prt) (m : Msg) : (putP p m).1.hold = p.hold := by unfold putP; split; rfl; split <;> rfl
theorem stepR_hold (g : Gte) (p : Prt) (now : Int) : (stepR g p now).2.1.hold = p.hold := by unfold stepR; split; rfl; exact putP_hold _ _
theorem stepsR_hold (now : Int) : ∀ (N : Nat) (g : Gte) (p : Prt), (stepsR now N g p).2.1.hold = p.hold
  | 0, g, p => rfl
  | n + 1, g, p => by
    unfold stepsR
    split
    · exact stepR_hold g p now
    · simp only; rw [stepsR_hold now n]; exact stepR_hold g p now
theorem rest_len {now : Int} {g : Gte} (h : g.ms.length ≤ 24) : (restT now g.ms).length ≤ 24 := Nat.le_trans (List.length_filter_le _ _) (by rw [sortM_len]; exact h)
end Go.Proofs.Ytggfallodkbgcaa.Ro
