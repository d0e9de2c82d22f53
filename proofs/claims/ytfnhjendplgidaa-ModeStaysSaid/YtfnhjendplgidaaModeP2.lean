/- DERIVED. What a step does to the modes of partitions, as plain lists. -/
import Derived.Test.YtfnhjendplgidaaModeP
namespace Go.Proofs.Ytfnhjendplgidaa.Md
open Go.RowKit
/-- What a step does to the partitions. -/
def stepM (s : List Part) (kd p : Int) : List Part := if kd = 0 then (faultM s p).1 else if kd = 1 then (againM s p).1 else (upM s p).1
theorem stepM_form (s : List Part) (hwf : ∀ x ∈ s, x.wf) (kd p : Int) (hkd : kd = 0 ∨ kd = 1 ∨ kd = 2) :
    stepM s kd p = s ∨ ∃ (k : Nat) (hk : k < s.length) (y : Part), p = k ∧ stepM s kd p = s.set k y ∧ ((s[k].m = 0 ∧ (y.m = 0 ∨ y.m = 1 ∨ y.m = 2)) ∨ (kd = 2 ∧ s[k].m = 1 ∧ y.m = 0 ∧ y.s = wrap64 (s[k].s + 1))) := by
  rcases cases s p with h | ⟨k, rfl, hk⟩
  · left
    have e := at?_out h
    unfold stepM faultM againM upM
    rw [e]; simp
  · have e := at?_in hk
    have hm := (hwf _ (List.getElem_mem hk))
    rcases hkd with rfl | rfl | rfl
    · by_cases h0 : s[k].m = 0
      · refine .inr ⟨k, hk, { s[k] with m := s[k].a }, rfl, ?_, .inl ⟨h0, hm.1⟩⟩
        unfold stepM faultM; rw [e]; simp [h0]
      · left; unfold stepM faultM; rw [e]; simp [h0]
    · by_cases h2 : s[k].m = 2
      · left; unfold stepM againM; rw [e]; simp [h2]
      · by_cases h1 : s[k].m = 1
        · left; unfold stepM againM; rw [e]; simp [h1]
        · refine .inr ⟨k, hk, { s[k] with m := 1 }, rfl, ?_, .inl ⟨by have := hm.2; omega, by simp⟩⟩
          unfold stepM againM; rw [e]; simp [h2, h1]
    · by_cases h1 : s[k].m = 1
      · refine .inr ⟨k, hk, { s[k] with m := 0, s := wrap64 (s[k].s + 1) }, rfl, ?_, .inr ⟨rfl, h1, rfl, rfl⟩⟩
        unfold stepM upM; rw [e]; simp [h1]
      · left; unfold stepM upM; rw [e]; simp [h1]
theorem stepM_len (s : List Part) (hwf : ∀ x ∈ s, x.wf) (kd p : Int) (hkd : kd = 0 ∨ kd = 1 ∨ kd = 2) : (stepM s kd p).length = s.length := by
  rcases stepM_form s hwf kd p hkd with h | ⟨k, hk, y, _, h, _⟩ <;> rw [h] <;> simp
theorem stepM_at (s : List Part) (hwf : ∀ x ∈ s, x.wf) (kd p : Int) (hkd : kd = 0 ∨ kd = 1 ∨ kd = 2) (j : Nat) (hj : j < s.length) (hj' : j < (stepM s kd p).length) :
    (stepM s kd p)[j].m = s[j].m ∨ (p = j ∧ s[j].m = 0 ∧ ((stepM s kd p)[j].m = 1 ∨ (stepM s kd p)[j].m = 2)) ∨ (p = j ∧ kd = 2 ∧ s[j].m = 1 ∧ (stepM s kd p)[j].m = 0 ∧ (stepM s kd p)[j].s = wrap64 (s[j].s + 1)) := by
  rcases stepM_form s hwf kd p hkd with h | ⟨k, hk, y, hp, h, hy⟩
  · left; simp only [h]
  · simp only [h, List.getElem_set]
    by_cases hkj : k = j
    · subst hkj
      simp only [if_true]
      rcases hy with ⟨h0, h1⟩ | ⟨h0, h1, h2, h3⟩
      · rcases h1 with h1 | h1
        · left; rw [h1, h0]
        · right; left; exact ⟨hp, h0, h1⟩
      · right; right; exact ⟨hp, h0, h1, h2, h3⟩
    · simp only [hkj, if_false]; exact .inl trivial
/-- The ways in which a partition's mode may turn. -/
def Turns (P : Int) (j : Nat) (kd mw mn sw sn : Int) : Prop :=
  (mw = 0 ∧ mn = 0) ∨ (mw = 1 ∧ mn = 1) ∨ (mw = 2 ∧ mn = 2) ∨ (P = j ∧ mw = 0 ∧ mn = 1) ∨ (P = j ∧ mw = 0 ∧ mn = 2) ∨ (P = j ∧ kd = 2 ∧ mw = 1 ∧ mn = 0 ∧ sn = wrap64 (sw + 1))
theorem stepM_turns (s : List Part) (hwf : ∀ x ∈ s, x.wf) (kd p : Int) (hkd : kd = 0 ∨ kd = 1 ∨ kd = 2) (j : Nat) (hj : j < s.length) (hj' : j < (stepM s kd p).length) :
    Turns p j kd s[j].m (stepM s kd p)[j].m s[j].s (stepM s kd p)[j].s := by
  have h := stepM_at s hwf kd p hkd j hj hj'
  have hm := (hwf _ (List.getElem_mem hj)).2
  unfold Turns
  rcases h with h | ⟨h1, h2, h3 | h3⟩ | ⟨h1, h2, h3, h4, h5⟩
  · rw [h]; rcases hm with hm | hm | hm <;> simp [hm]
  · right; right; right; left; exact ⟨h1, h2, h3⟩
  · right; right; right; right; left; exact ⟨h1, h2, h3⟩
  · right; right; right; right; right; exact ⟨h1, h2, h3, h4, h5⟩
end Go.Proofs.Ytfnhjendplgidaa.Md
