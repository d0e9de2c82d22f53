/- DERIVED. The modes of partitions as plain lists: what each call does. -/
import Derived.RowKit
namespace Go.Proofs.Ytfnhjendplgidaa.Md
open Go.RowKit
/-- a partition: its action, its mode, how often it was up. -/
structure Part where
  a : Int
  m : Int
  s : Int
def Part.wf (x : Part) : Prop := (x.a = 0 ∨ x.a = 1 ∨ x.a = 2) ∧ (x.m = 0 ∨ x.m = 1 ∨ x.m = 2)
def at? (s : List Part) (i : Int) : Option Part := if 0 ≤ i then s[i.toNat]? else none
def faultM (s : List Part) (i : Int) : List Part × Int × Int :=
  match at? s i with
  | none => (s, 0, 7)
  | some x => if x.m = 0 then (s.set i.toNat { x with m := x.a }, x.a, 0) else (s, 0, 5)
def againM (s : List Part) (i : Int) : List Part × Int :=
  match at? s i with
  | none => (s, 7)
  | some x => if x.m = 2 then (s, 5) else if x.m = 1 then (s, 1) else (s.set i.toNat { x with m := 1 }, 0)
def upM (s : List Part) (i : Int) : List Part × Bool :=
  match at? s i with
  | none => (s, false)
  | some x => if x.m = 1 then (s.set i.toNat { x with m := 0, s := wrap64 (x.s + 1) }, true) else (s, false)
def modeM (s : List Part) (i : Int) : Int × Bool := match at? s i with | none => (0, false) | some x => (x.m, true)
def startsM (s : List Part) (i : Int) : Int := match at? s i with | none => 0 | some x => x.s
theorem map_a_m {s : List Part} {k : Nat} (hk : k < s.length) (v : Int) : (s.set k { s[k] with m := v }).map Part.a = s.map Part.a := by rw [List.map_set]; apply List.ext_getElem <;> simp [List.getElem_set]; intro i h1 h2; subst h2; rfl
theorem map_s_m {s : List Part} {k : Nat} (hk : k < s.length) (v : Int) : (s.set k { s[k] with m := v }).map Part.s = s.map Part.s := by rw [List.map_set]; apply List.ext_getElem <;> simp [List.getElem_set]; intro i h1 h2; subst h2; rfl
theorem map_a_ms {s : List Part} {k : Nat} (hk : k < s.length) (v u : Int) : (s.set k { s[k] with m := v, s := u }).map Part.a = s.map Part.a := by rw [List.map_set]; apply List.ext_getElem <;> simp [List.getElem_set]; intro i h1 h2; subst h2; rfl
theorem at?_out {s : List Part} {i : Int} (h : i < 0 ∨ (s.length : Int) ≤ i) : at? s i = none := by
  unfold at?; split
  · rw [List.getElem?_eq_none]; omega
  · rfl
theorem at?_in {s : List Part} {k : Nat} (h : k < s.length) : at? s (k : Int) = some s[k] := by
  unfold at?; rw [if_pos (by omega)]; simp [h]
theorem cases (s : List Part) (i : Int) : (i < 0 ∨ (s.length : Int) ≤ i) ∨ ∃ k : Nat, i = k ∧ k < s.length := by
  by_cases h : i < 0 ∨ (s.length : Int) ≤ i
  · exact .inl h
  · exact .inr ⟨i.toNat, by omega, by omega⟩
theorem wf_set {s : List Part} (h : ∀ x ∈ s, x.wf) {k : Nat} {y : Part} (hy : y.wf) : ∀ x ∈ s.set k y, x.wf := by
  intro x hx
  rcases List.mem_or_eq_of_mem_set hx with h1 | h1
  · exact h x h1
  · exact h1 ▸ hy
end Go.Proofs.Ytfnhjendplgidaa.Md
