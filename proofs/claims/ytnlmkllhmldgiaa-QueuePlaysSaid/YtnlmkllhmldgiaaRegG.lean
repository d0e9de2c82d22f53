/- DERIVED. A region that draws its order and only draws and lays blocks of its own, walked once: its world is told exactly, as a sort asks of its order. No statement is proved here. -/
import Derived.Test.YtnlmkllhmldgiaaRegR
import Derived.Sort.Grow
namespace Go.Proofs.Ytnlmkllhmldgiaa.K
set_option linter.unusedVariables false
set_option linter.unusedSimpArgs false
open Go.RowKit Go.Sort
/-- So many draws, these blocks behind. -/
def Gr (u u' : World) : Prop := ∃ q os, u' = grow (u.drewN q) os
theorem Gr.refl (u : World) : Gr u u := ⟨0, #[], by rw [grow_empty]; rfl⟩
theorem Gr.trans {a b c : World} (h : Gr a b) (k : Gr b c) : Gr a c := by
  obtain ⟨q, os, rfl⟩ := h
  obtain ⟨q', os', rfl⟩ := k
  exact ⟨q + q', os ++ os', by show grow (grow ((a.drewN q).drewN q') os) os' = _; rw [grow_grow, World.drewN_drewN]⟩
theorem Gr.below {u u' : World} (h : Gr u u') : Below u.heap.size u u' := by
  obtain ⟨q, os, rfl⟩ := h
  refine ⟨rfl, rfl, rfl, by simp [grow, World.drewN], fun k hk => ?_⟩
  simp only [grow, World.drewN]
  rw [Array.getElem?_append_left hk]
theorem Gr.drew (u : World) : Gr u u.drew := ⟨1, #[], by rw [grow_empty]; rfl⟩
theorem Gr.alloc (u : World) (o : Obj) : Gr u (u.alloc o) := ⟨0, #[o], by rw [alloc_eq_grow]; rfl⟩
section
variable {P : Program} {l : List Oper}
/-- One operation of a region that only draws and lays. -/
def opGr (P : Program) (l : List Oper) (a0 : Act) (w0 : World) (R : Nat → Value → List Nat → World → Prop) (k : Nat) (o : Oper) : Prop :=
  ∀ (a : Act) (w : World), Gr w0 w → OpAt l a0 R o a [] w → if wantE l o a = true then relAt P o a w (fun v w' => Gr w w' ∧ R k v [] w') else R k undef [] w
theorem okG0 {w : World} {R : World → Prop} (h : R w) : Gr w w ∧ R w := ⟨Gr.refl w, h⟩
theorem region_gr {id : Nat} {b : Bool} {Q : Exit → Act → World → Prop} {a0 : Act} {w : World} (n : Nat) (tab : List Sp) (hQ : ∀ (d : Tmp) v c a w, Q (.panic c) (Act.put a (some d) v) w → Q (.panic c) a w) (hm : P.follows .mixedOrders = true) (hB : relB n l a0.tmps.size = true)
    (hop : AllOps (opGr P l a0 w (tabR tab)) 0 (l.take n)) (hend : ∀ (vs : Nat → Value) w', Gr w w' → (∀ j, j < n → tabR tab j (vs j) [] w') → wpList P l.toArray Q (l.drop n) (putOps (l.take n) vs 0 a0) w') : (Code.region id l.toArray b).wp P Q a0 w := by
  refine region_rel (γ := List Nat) n (fun _ g u g' u' => g' = g ∧ Gr u u') (fun g u => g = [] ∧ Gr w u) (fun _ _ _ => True) (tabR tab) [] hQ hm hB (fun k g u g' u' hc hT => ⟨hT.1.trans hc.1, hc.2.trans hT.2⟩) (fun _ _ _ _ _ _ _ _ _ _ => trivial) (fun k j v g u g' u' _ hc hr hT => ?_) (fun w' hw' => ⟨rfl, by rcases hw' with rfl | rfl; exact Gr.refl _; exact Gr.drew _⟩) (fun _ _ _ => trivial) (AllOps.mono (fun k o h => ?_) hop) (fun vs g u hc hr => ?_)
  · obtain ⟨rfl, hg⟩ := hT
    obtain ⟨rfl, -⟩ := hc
    exact (tab.getD j Sp.any).st v [] u [] u' hr ⟨hg.below, fun _ h => (by cases h), fun _ h => h, fun _ h => (by cases h)⟩
  · intro a g u vs hc _ hp h0
    obtain ⟨rfl, hg⟩ := hc
    have h1 := h a u hg (OpAt.of hp h0)
    split
    · rename_i hw
      rw [if_pos hw] at h1
      exact rel_mono (fun v w' hh => ⟨[], ⟨rfl, hh.1⟩, hh.2⟩) h1
    · rename_i hw
      rw [if_neg hw] at h1
      exact h1
  · obtain ⟨rfl, hg⟩ := hc
    exact hend vs u hg hr
end
end Go.Proofs.Ytnlmkllhmldgiaa.K
