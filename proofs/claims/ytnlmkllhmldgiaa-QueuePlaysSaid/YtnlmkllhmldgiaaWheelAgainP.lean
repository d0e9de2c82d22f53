/- DERIVED. Plain words for the statement WheelAgain: keys set again, every other key cancelled. No program is in sight; no statement is proved here. -/
import Derived.Test.YtnlmkllhmldgiaaWheelP
namespace Go.Proofs.Ytnlmkllhmldgiaa.Wh
set_option linter.unusedVariables false
set_option linter.unusedSimpArgs false
open Go.RowKit Go.Maps Go.Proofs.Ytnlmkllhmldgiaa.K Go.Proofs.Ytnlmkllhmldgiaa.Lb
theorem has_set (l : List Ent) (k u s j : Int) : hasE (setE l k u s) j = (k == j || hasE l j) := by
  unfold setE
  rw [hasE_ins, hasE_rm]
  by_cases e : j = k
  · subst e; simp
  · have e1 : (k == j) = false := beq_eq_false_iff_ne.2 (Ne.symm e)
    have e2 : (j == k) = false := beq_eq_false_iff_ne.2 e
    simp [e1, e2]
theorem set_len {l : List Ent} {k u s : Int} (hn : (keysE l).Nodup) (hn2 : (keysE (setE l k u s)).Nodup) (hh : hasE l k = true) : (setE l k u s).length = l.length := by
  have hp : (keysE (setE l k u s)).Perm (keysE l) := by
    refine (List.perm_ext_iff_of_nodup hn2 hn).2 fun j => ?_
    rw [← hasE_iff, ← hasE_iff, has_set]
    by_cases e : k = j
    · subst e; simp [hh]
    · simp [e]
  have := hp.length_eq
  unfold keysE at this
  simpa using this
theorem mem_set {l : List Ent} {k u s : Int} {e : Ent} : e ∈ setE l k u s ↔ e = ⟨k, u, s⟩ ∨ (e ∈ l ∧ e.k ≠ k) := by unfold setE; rw [mem_insE, mem_rmE]
theorem set_le (l : List Ent) (k u s : Int) : (setE l k u s).length ≤ l.length + 1 := by
  unfold setE
  rw [(insE_perm _ _).length_eq, List.length_cons]
  have : (rmE k l).length ≤ l.length := List.length_filter_le _ _
  omega
def odds : List Ent → List Ent
  | [] => []
  | [_] => []
  | _ :: b :: t => b :: odds t
theorem odds_len : ∀ l : List Ent, (odds l).length = l.length / 2
  | [] => rfl
  | [_] => by simp [odds]
  | a :: b :: t => by
    simp only [odds, List.length_cons]
    rw [odds_len t]; omega
theorem odds_get : ∀ (l : List Ent) (i : Nat), (odds l)[i]? = l[2 * i + 1]?
  | [], i => by simp [odds]
  | [a], i => by simp [odds]
  | a :: b :: t, 0 => by simp [odds]
  | a :: b :: t, i + 1 => by
    simp only [odds, List.getElem?_cons_succ]
    rw [odds_get t i, show 2 * (i + 1) = 2 * i + 1 + 1 by omega]
    simp
theorem odds_next : ∀ (j : Nat) (l : List Ent), odds (l.take (2 * j + 2)) = odds (l.take (2 * j)) ++ (l.drop (2 * j + 1)).take 1
  | 0, [] => rfl
  | 0, [a] => rfl
  | 0, a :: b :: t => by simp [odds]
  | j + 1, [] => by simp [odds]
  | j + 1, [a] => by
    rw [show 2 * (j + 1) + 2 = 2 * j + 3 + 1 by omega, show 2 * (j + 1) = 2 * j + 1 + 1 by omega]
    simp [odds]
  | j + 1, a :: b :: t => by
    have ih := odds_next j t
    rw [show 2 * (j + 1) + 2 = 2 * j + 2 + 1 + 1 by omega, show 2 * (j + 1) = 2 * j + 1 + 1 by omega]
    simp only [List.take_succ_cons, odds, List.drop_succ_cons, List.cons_append]
    rw [ih]
theorem odds_step (j : Nat) (l : List Ent) : odds (l.take (2 * j)) ++ l.drop (2 * j + 1) = odds (l.take (2 * j + 2)) ++ l.drop (2 * j + 2) := by
  rw [odds_next, List.append_assoc]
  congr 1
  have : l.drop (2 * j + 2) = (l.drop (2 * j + 1)).drop 1 := by rw [List.drop_drop]
  rw [this, List.take_append_drop]
theorem rm_mid {a b : List Ent} {e : Ent} (hn : (keysE (a ++ e :: b)).Nodup) : rmE e.k (a ++ e :: b) = a ++ b := by
  unfold keysE at hn
  rw [List.map_append, List.map_cons] at hn
  have h1 := List.nodup_append.1 hn
  have h2 := List.nodup_cons.1 h1.2.1
  unfold rmE
  rw [List.filter_append, List.filter_cons]
  have ea : a.filter (fun x => !(x.k == e.k)) = a := by
    rw [List.filter_eq_self]
    intro x hx
    have : x.k ≠ e.k := h1.2.2 x.k (List.mem_map.2 ⟨x, hx, rfl⟩) e.k List.mem_cons_self
    simpa using this
  have eb : b.filter (fun x => !(x.k == e.k)) = b := by
    rw [List.filter_eq_self]
    intro x hx
    have : x.k ≠ e.k := fun e1 => h2.1 (e1 ▸ List.mem_map.2 ⟨x, hx, rfl⟩)
    simpa using this
  rw [ea, eb]
  simp
theorem rm_rm (k : Int) (l : List Ent) : rmE k (rmE k l) = rmE k l := by unfold rmE; rw [List.filter_filter]; simp
theorem cut100 {n : Int} : wrap64 ((IntKind.u64.wrap n).tmod 100) = (n % 18446744073709551616) % 100 := by
  rw [IntKind.wrap_u64, Int.tmod_eq_emod_of_nonneg (by omega)]; unfold wrap64; omega
end Go.Proofs.Ytnlmkllhmldgiaa.Wh
