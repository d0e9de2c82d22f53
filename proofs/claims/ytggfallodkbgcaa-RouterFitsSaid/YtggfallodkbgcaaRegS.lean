/- DERIVED. As RegJ's region_chgJ, where several operations (those that S tells) turn blocks of M: a fact J of the world is handed to every operation; those of S give it anew. No statement is proved here. -/
import Derived.Test.YtggfallodkbgcaaRegJ
namespace Go.Proofs.Ytggfallodkbgcaa.K
set_option linter.unusedVariables false
set_option linter.unusedSimpArgs false
open Go.RowKit
section
variable {P : Program} {l : List Oper}
def StepS (M : Nat → Prop) (S : Nat → Bool) (J : World → Prop) (k : Nat) (g : List Nat) (w : World) (g' : List Nat) (w' : World) : Prop := if S k = true then g' = g ∧ Chg M w w' ∧ (∀ b ∈ g', b < w'.heap.size) ∧ J w' else StepG g w g' w'
def opS (P : Program) (l : List Oper) (a0 : Act) (w0 : World) (M : Nat → Prop) (S : Nat → Bool) (J : World → Prop) (R : Nat → Value → List Nat → World → Prop) (k : Nat) (o : Oper) : Prop :=
  ∀ (a : Act) (g : List Nat) (w : World), Chg M w0 w → Boxes w0 g w → J w → OpAt l a0 R o a g w → if wantE l o a = true then relAt P o a w (fun v w' => ∃ g', StepS M S J k g w g' w' ∧ R k v g' w') else R k undef g w
theorem okPs {w0 w : World} {g : List Nat} {R : List Nat → World → Prop} {k : Nat} {S : Nat → Bool} {M : Nat → Prop} {J : World → Prop} (hk : S k = false) (hg : Boxes w0 g w) (h : R g w) : ∃ g', StepS M S J k g w g' w ∧ R g' w := by
  obtain ⟨g', h1, h2⟩ := okP hg h
  exact ⟨g', by unfold StepS; rw [if_neg (by simp [hk])]; exact h1, h2⟩
theorem okBs {w0 w w' : World} {g : List Nat} {R : List Nat → World → Prop} {k : Nat} {S : Nat → Bool} {M : Nat → Prop} {J : World → Prop} (hk : S k = false) (hg : Boxes w0 g w) (hb : Below w.heap.size w w') (h : R g w') : ∃ g', StepS M S J k g w g' w' ∧ R g' w' := by
  obtain ⟨g', h1, h2⟩ := okB hg hb h
  exact ⟨g', by unfold StepS; rw [if_neg (by simp [hk])]; exact h1, h2⟩
theorem okS {w0 w w' : World} {g : List Nat} {R : List Nat → World → Prop} {k : Nat} {S : Nat → Bool} {M : Nat → Prop} {J : World → Prop} (hk : S k = true) (hg : Boxes w0 g w) (hc : Chg M w w') (hj : J w') (h : R g w') : ∃ g', StepS M S J k g w g' w' ∧ R g' w' :=
  ⟨g, by unfold StepS; rw [if_pos hk]; exact ⟨rfl, hc, fun b h => Nat.lt_of_lt_of_le (hg b h).2 hc.size, hj⟩, h⟩
theorem region_chgS {id : Nat} {b : Bool} {Q : Exit → Act → World → Prop} {a0 : Act} {w : World} (n : Nat) (M : Nat → Prop) (S : Nat → Bool) (J : World → Prop) (tab : List Sp) (hQ : ∀ (d : Tmp) v c a w, Q (.panic c) (Act.put a (some d) v) w → Q (.panic c) a w) (hm : P.follows .mixedOrders = true) (hB : relB n l a0.tmps.size = true)
    (hJ0 : J w) (hJ : ∀ w w', J w → Below w.heap.size w w' → J w') (hM : ∀ j, ∀ v g u u', tabR tab j v g u → Chg M u u' → tabR tab j v g u')
    (hop : AllOps (opS P l a0 w M S J (tabR tab)) 0 (l.take n)) (hend : ∀ (vs : Nat → Value) g w', Chg M w w' ∧ J w' → Boxes w g w' → (∀ j, j < n → tabR tab j (vs j) g w') → wpList P l.toArray Q (l.drop n) (putOps (l.take n) vs 0 a0) w') : (Code.region id l.toArray b).wp P Q a0 w := by
  refine region_rel (γ := List Nat) n (fun k g u g' u' => StepS M S J k g u g' u') (fun g u => (Chg M w u ∧ J u) ∧ Boxes w g u) (fun _ _ _ => True) (tabR tab) [] hQ hm hB (fun k g u g' u' hc hT => ?_) (fun _ _ _ _ _ _ _ _ _ _ => trivial) (fun k j v g u g' u' hkj hc hr hT => ?_) (fun w' hw' => ⟨by rcases hw' with rfl | rfl; exact ⟨Chg.refl _ _, hJ0⟩; exact ⟨Chg.of_below (Below.refl _ _).drew, hJ _ _ hJ0 (Below.refl _ _).drew⟩, fun b hb => by cases hb⟩) (fun w' hw' _ => trivial) (AllOps.mono (fun k o h => ?_) hop) (fun vs g u hc hr => hend vs g u hc.1 hc.2 hr)
  · unfold StepS at hT
    split at hT
    · obtain ⟨rfl, hT, hl, hj⟩ := hT
      exact ⟨⟨hc.1.1.trans hT (fun i h => .inl h), hj⟩, fun b hb => ⟨(hc.2 b hb).1, hl b hb⟩⟩
    · refine ⟨⟨hc.1.1.below hT.b, hJ _ _ hc.1.2 hT.b⟩, fun b hb => ⟨?_, hT.l b hb⟩⟩
      rcases hT.n b hb with h1 | h1
      · exact (hc.2 b h1).1
      · exact Nat.le_trans hc.1.1.size h1
  · unfold StepS at hT
    split at hT
    · obtain ⟨rfl, hT, hl, -⟩ := hT
      exact hM j v g' u u' hr hT
    · exact (tab.getD j Sp.any).st v g u g' u' hr hT
  · intro a g u vs hc hi hp h0
    exact h a g u hc.1.1 hc.2 hc.1.2 (OpAt.of hp h0)
end
end Go.Proofs.Ytggfallodkbgcaa.K
