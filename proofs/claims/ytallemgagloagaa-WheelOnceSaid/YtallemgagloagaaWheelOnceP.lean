/- DERIVED. Plain words for the statement WheelOnce: keys 0, 1, .., each set once; who is told. No program is in sight; no statement is proved here. -/
import Derived.Test.YtallemgagloagaaWheelAgainP
import Derived.Test.YtallemgagloagaaWheelH
import Derived.Laws.OwnMore
namespace Go.Proofs.Ytallemgagloagaa.Wh
set_option linter.unusedVariables false
set_option linter.unusedSimpArgs false
open Go.RowKit Go.Maps Go.Proofs.Ytallemgagloagaa.K Go.Proofs.Ytallemgagloagaa.Lb
/-- Until when key i waits. -/
def uO (xs : List Int) (i : Nat) : Int := (xs.getD i 0 % 18446744073709551616) % 500
theorem uO_in (xs : List Int) (i : Nat) : 0 ≤ uO xs i ∧ uO xs i < 500 := by unfold uO; omega
theorem uO_eq {xs : List Int} {i : Nat} (h : i < xs.length) : wrap64 ((IntKind.u64.wrap xs[i]).tmod 500) = uO xs i := by
  unfold uO
  rw [IntKind.wrap_u64, Int.tmod_eq_emod_of_nonneg (by omega), List.getD_eq_getElem?_getD, List.getElem?_eq_getElem h]
  unfold wrap64; simp only [Option.getD_some]; omega
theorem cut60 {x : Int} : ∃ d, 0 ≤ d ∧ d < 60 ∧ wrap64 ((IntKind.u64.wrap x).tmod 60) = d := by
  refine ⟨(x % 18446744073709551616) % 60, by omega, by omega, ?_⟩
  rw [IntKind.wrap_u64, Int.tmod_eq_emod_of_nonneg (by omega)]; unfold wrap64; omega
/-- Each waits as it was set. -/
def OnceL (xs : List Int) (n : Nat) (c : List Ent) : Prop := ∀ e ∈ c, ∃ i : Nat, i < n ∧ e = ⟨i, uO xs i, i + 1⟩
/-- Who has been told: those that wait no more. -/
def seenB (c : List Ent) (n : Nat) : List Value := (List.range n).map (fun (i : Nat) => Value.bool (!hasE c (i : Int)))
theorem seenB_get {c : List Ent} {n i : Nat} (h : i < n) : (seenB c n)[i]? = some (.bool (!hasE c (i : Int))) := by unfold seenB; simp [h]
theorem seenB_len (c : List Ent) (n : Nat) : (seenB c n).length = n := by unfold seenB; simp
theorem hasE_cons (e : Ent) (c : List Ent) (k : Int) : hasE (e :: c) k = (e.k == k || hasE c k) := by unfold hasE; simp
theorem seenB_set {e : Ent} {c : List Ent} {n i : Nat} (hn : (keysE (e :: c)).Nodup) (hk : e.k = i) (hi : i < n) : (seenB (e :: c) n).set i (.bool true) = seenB c n := by
  have h0 : hasE c (i : Int) = false := by
    cases h : hasE c (i : Int) with
    | false => rfl
    | true =>
      have := (hasE_iff c i).1 h
      rw [← hk] at this
      exact absurd this (List.nodup_cons.1 hn).1
  apply List.ext_getElem?
  intro j
  rw [List.getElem?_set, seenB_len]
  by_cases hj : i = j
  · subst hj
    rw [if_pos rfl, if_pos hi, seenB_get hi, h0]; rfl
  · rw [if_neg hj]
    by_cases hjn : j < n
    · rw [seenB_get hjn, seenB_get hjn, hasE_cons]
      have : (e.k == (j : Int)) = false := beq_eq_false_iff_ne.2 (by rw [hk]; omega)
      rw [this, Bool.false_or]
    · rw [List.getElem?_eq_none (by rw [seenB_len]; omega), List.getElem?_eq_none (by rw [seenB_len]; omega)]
theorem hasE_append (a b : List Ent) (k : Int) : hasE (a ++ b) k = (hasE a k || hasE b k) := by unfold hasE; rw [List.any_append]
theorem split_perm (p : Ent → Bool) (c : List Ent) : (c.filter p ++ c.filter (fun e => !p e)).Perm c := List.filter_append_perm p c
theorem hasE_perm {a b : List Ent} (h : a.Perm b) (k : Int) : hasE a k = hasE b k := by
  apply Bool.eq_iff_iff.2
  rw [hasE_iff, hasE_iff]
  exact (h.map _).mem_iff
theorem seenB_perm {a b : List Ent} (h : a.Perm b) (n : Nat) : seenB a n = seenB b n := by unfold seenB; simp only [hasE_perm h]
theorem OnceL.set {xs : List Int} {i : Nat} {c : List Ent} (h : OnceL xs i c) (hn : (keysE c).Nodup) (hl : c.length = i) : OnceL xs (i + 1) (setE c i (uO xs i) (i + 1)) ∧ (setE c i (uO xs i) ((i : Int) + 1)).length = i + 1 := by
  have hh : hasE c (i : Int) = false := by
    cases h1 : hasE c (i : Int) with
    | false => rfl
    | true =>
      obtain ⟨e, he, hk⟩ := List.mem_map.1 ((hasE_iff c i).1 h1)
      obtain ⟨j, hj, rfl⟩ := h e he
      simp only at hk
      omega
  have hr : rmE (i : Int) c = c := by
    unfold rmE
    rw [List.filter_eq_self]
    intro e he
    have : e.k ≠ (i : Int) := fun e1 => by rw [← e1, hasE_mem he] at hh; cases hh
    simpa using this
  constructor
  · intro e he
    rcases mem_set.1 he with rfl | ⟨h1, -⟩
    · exact ⟨i, by omega, rfl⟩
    · obtain ⟨j, hj, e1⟩ := h e h1
      exact ⟨j, by omega, e1⟩
  · unfold setE
    rw [hr, (insE_perm _ _).length_eq, List.length_cons, hl]
theorem late_iff {xs : List Int} {n : Nat} {c : List Ent} (h : OnceL xs n c) {now : Int} (h0 : 0 ≤ now ∧ now ≤ 500) {e : Ent} (he : e ∈ c) : lateE now e = true ↔ e.u ≤ now := by
  obtain ⟨i, hi, rfl⟩ := h e he
  have := uO_in xs i
  unfold lateE lateT cutT
  simp only [decide_eq_true_eq]
  omega
/-- What is told next: its tick is come to, and not ahead of those told. -/
theorem next_told {xs : List Int} {n : Nat} {out : List Ent} (h : OnceL xs n out) (hs : out.Pairwise ltE) {k : Nat} (hk : k + 1 < out.length) : out[k].u ≤ out[k + 1].u ∧ (out[k + 1].u = out[k].u → out[k].k < out[k + 1].k) := by
  have h1 := List.pairwise_iff_getElem.1 hs k (k + 1) (by omega) hk (by omega)
  obtain ⟨i, hi, e1⟩ := h out[k] (List.getElem_mem _)
  obtain ⟨j, hj, e2⟩ := h out[k + 1] (List.getElem_mem _)
  unfold ltE at h1
  rw [e1, e2] at h1 ⊢
  simp only at h1 ⊢
  omega
end Go.Proofs.Ytallemgagloagaa.Wh
