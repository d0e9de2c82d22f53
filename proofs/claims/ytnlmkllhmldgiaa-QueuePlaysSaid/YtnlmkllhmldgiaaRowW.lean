/- DERIVED. Arguments of the statements opened: slices of ints, slices of structs of ints. No statement is proved here. -/
import Derived.Test.YtnlmkllhmldgiaaK0
import Derived.Deep.Slices
import Derived.ChangeSame
import Derived.ChangeSlices
namespace Go.Proofs.Ytnlmkllhmldgiaa.K
set_option linter.unusedVariables false
set_option linter.unusedSimpArgs false
open Go.RowKit Go.ChangeShapes Go.WideShapes
section
variable {H : Type} {enc : TypeId × Value → H} {P : Program} {w : World}

/-- What is below the heap's end: a block with a cell. -/
theorem cell_lt {w : World} {a : Addr} {v : Value} (h : w.cell? a = some v) : a.block < w.heap.size ∧ a.spot = none := by
  unfold World.cell? at h
  split at h
  · rename_i c e f hh
    refine ⟨(Array.getElem?_eq_some_iff.1 hh).1, ?_⟩
    split at h
    · cases h
    · rename_i hs; simpa using hs
  · cases h
theorem add_spot {a : Addr} (h : a.spot = none) (n : Nat) : a.add n = ⟨a.block, a.off + n, none⟩ := by
  cases a; simp only at h; subst h
  unfold Addr.add; split <;> simp_all

/-- An argument that is a slice of ints reads as ints. -/
theorem ints_open {t e : TypeId} (ht : P.underlying t = some (.slice e)) (he : P.underlying e = some (.int .i64)) (hc : P.cellsOf e = 1) {ao : Option Addr} {n cap : Nat} {d : DataW H} {ps : List MemPlace}
    (h : DataW.Trod enc P w 0 (fun _ => true) true t (.slice ao n cap) d ps) : ∃ xs, IntsAt (fun _ => True) w (.slice ao n cap) xs := by
  obtain ⟨fuel, hf⟩ := h
  rcases open_ints ht he hc hf with ⟨hcs, _⟩ | ⟨x, l, c, zs, hcs, _, hl, hm, hz, _, hcell, _⟩
  · simp [Value.cells] at hcs
    obtain ⟨rfl, rfl, rfl⟩ := hcs
    exact ⟨[], IntsAt.nil _ _⟩
  · simp [Value.cells] at hcs
    obtain ⟨rfl, rfl, rfl⟩ := hcs
    simp only [if_true] at hz
    have hle : (zs.take n).length = n := by rw [List.length_take]; omega
    refine ⟨zs.take n, some x, cap, by rw [hle], ⟨by omega, hm, fun h => by cases h⟩, ?_⟩
    by_cases h0 : n = 0
    · exact .inl (by simp [h0])
    · have h1 := cell_lt (hcell 0 (by omega))
      have hs : x.spot = none := by simpa [Addr.add] using h1.2
      refine .inr ⟨x.block, x.off, by cases x; simp only at hs; subst hs; rfl, trivial, by simpa [Addr.add] using h1.1, fun i hi => ?_⟩
      rw [hle] at hi
      have h2 := hcell i (by omega)
      rw [add_spot hs] at h2
      rw [h2]
      simp [List.getD_eq_getElem?_getD, List.getElem?_eq_getElem (show i < zs.length by omega)]

/-- An argument that is a slice of structs of n ints: every cell is an int. -/
theorem recs_open {t e : TypeId} {fs : Array Field} (ht : P.underlying t = some (.slice e)) (he : P.underlying e = some (.struct fs)) (hC : P.cellsOf e = fs.size)
    (hF : ∀ (j : Nat) (f : Field), fs[j]? = some f → P.underlying f.type = some (.int .i64) ∧ f.offset = j ∧ P.cellsOf f.type = 1) (h0 : 0 < fs.size)
    {ao : Option Addr} {n cap : Nat} {d : DataW H} {ps : List MemPlace} (h : DataW.Trod enc P w 0 (fun _ => true) true t (.slice ao n cap) d ps) :
    ∃ Z : Nat → Nat → Int, n ≤ cap ∧ cap ≤ maxLen ∧ (n = 0 ∨ ∃ g o, ao = some ⟨g, o, none⟩ ∧ g < w.heap.size ∧ ∀ i, i < n → ∀ j, j < fs.size → w.cell? ⟨g, o + (i * fs.size + j), none⟩ = some (.int .i64 (Z i j))) := by
  obtain ⟨fuel, hf⟩ := h
  rcases Go.Deep.open_slice ht hf with ⟨hcs, _⟩ | ⟨x, l, c, m, n', D, Pl, hcs, _, hl, hm, hmm, _, hall⟩
  · simp [Value.cells] at hcs
    obtain ⟨rfl, rfl, rfl⟩ := hcs
    exact ⟨fun _ _ => 0, Nat.le_refl _, by simp [maxLen], .inl rfl⟩
  · simp [Value.cells] at hcs
    obtain ⟨rfl, rfl, rfl⟩ := hcs
    simp only [if_true] at hmm
    rw [hmm] at hall; clear hmm
    have key : ∀ i, i < cap → ∀ j, j < fs.size → ∃ z, w.cell? (x.add (i * fs.size + j)) = some (.int .i64 z) := by
      intro i hi j hj
      obtain ⟨cs', hc, hr⟩ := hall i hi
      rw [hC] at hc
      obtain ⟨_, hlen, hget⟩ := World.cells?_some hc
      obtain ⟨ys, n2, _, _, _, hyl, hfs⟩ := DataW.trod_struct he hr
      obtain ⟨hu, ho, hk⟩ := hF j fs[j] (by simp [hj])
      have h3 := hfs j fs[j] (by simp [hj])
      rw [ho, hk, List.getElem?_eq_getElem (by omega)] at h3
      obtain ⟨z, hz, _⟩ := DataW.trod_int hu h3
      have h4 := hget j hj
      have e1 : cs'[j]? = some (.int .i64 z) := by
        have := congrArg (fun l => l[0]?) hz
        simpa [List.getElem?_take, List.getElem?_drop] using this
      have e2 : (x.add (i * fs.size)).add j = x.add (i * fs.size + j) := by
        unfold Addr.add; split <;> split <;> simp_all <;> omega
      exact ⟨z, by rw [← e2, h4, e1]⟩
    refine ⟨fun i j => match w.cell? (x.add (i * fs.size + j)) with | some (.int _ z) => z | _ => 0, hl, hm, ?_⟩
    by_cases hn : n = 0
    · exact .inl hn
    · obtain ⟨z, hz⟩ := key 0 (by omega) 0 h0
      have h1 := cell_lt hz
      simp only [Nat.zero_mul, Nat.add_zero] at h1
      have hs : x.spot = none := by simpa [Addr.add] using h1.2
      refine .inr ⟨x.block, x.off, by cases x; simp only at hs; subst hs; rfl, by simpa [Addr.add] using h1.1, fun i hi j hj => ?_⟩
      obtain ⟨z, hz⟩ := key i (by omega) j hj
      simp only [hz]
      rw [add_spot hs] at hz
      exact hz
end
end Go.Proofs.Ytnlmkllhmldgiaa.K
