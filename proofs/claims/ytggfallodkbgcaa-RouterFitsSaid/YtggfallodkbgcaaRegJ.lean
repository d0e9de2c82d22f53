/- DERIVED. As RegR's region_chg: a fact J of the world is handed to every operation; the operation that turns blocks of M gives it anew. No statement is proved here. -/
import Derived.Test.YtggfallodkbgcaaRegR
namespace Go.Proofs.Ytggfallodkbgcaa.K
set_option linter.unusedVariables false
set_option linter.unusedSimpArgs false
open Go.RowKit
section
variable {P : Program} {l : List Oper}
def StepJ (M : Nat → Prop) (kI : Nat) (J : World → Prop) (k : Nat) (g : List Nat) (w : World) (g' : List Nat) (w' : World) : Prop := if k = kI then g' = g ∧ Chg M w w' ∧ (∀ b ∈ g', b < w'.heap.size) ∧ J w' else StepG g w g' w'
def opJ (P : Program) (l : List Oper) (a0 : Act) (w0 : World) (M : Nat → Prop) (kI : Nat) (I J : World → Prop) (R : Nat → Value → List Nat → World → Prop) (k : Nat) (o : Oper) : Prop :=
  ∀ (a : Act) (g : List Nat) (w : World), Chg M w0 w → Boxes w0 g w → (k = kI → I w) ∧ J w → OpAt l a0 R o a g w → if wantE l o a = true then relAt P o a w (fun v w' => ∃ g', StepJ M kI J k g w g' w' ∧ R k v g' w') else R k undef g w
theorem okPj {w0 w : World} {g : List Nat} {R : List Nat → World → Prop} {k kI : Nat} {M : Nat → Prop} {J : World → Prop} (hk : (k == kI) = false) (hg : Boxes w0 g w) (h : R g w) : ∃ g', StepJ M kI J k g w g' w ∧ R g' w := by
  obtain ⟨g', h1, h2⟩ := okP hg h
  exact ⟨g', by unfold StepJ; rw [if_neg (by simpa using hk)]; exact h1, h2⟩
theorem okBj {w0 w w' : World} {g : List Nat} {R : List Nat → World → Prop} {k kI : Nat} {M : Nat → Prop} {J : World → Prop} (hk : (k == kI) = false) (hg : Boxes w0 g w) (hb : Below w.heap.size w w') (h : R g w') : ∃ g', StepJ M kI J k g w g' w' ∧ R g' w' := by
  obtain ⟨g', h1, h2⟩ := okB hg hb h
  exact ⟨g', by unfold StepJ; rw [if_neg (by simpa using hk)]; exact h1, h2⟩
theorem okJ {w0 w w' : World} {g : List Nat} {R : List Nat → World → Prop} {k : Nat} {M : Nat → Prop} {J : World → Prop} (hg : Boxes w0 g w) (hc : Chg M w w') (hj : J w') (h : R g w') : ∃ g', StepJ M k J k g w g' w' ∧ R g' w' :=
  ⟨g, by unfold StepJ; rw [if_pos rfl]; exact ⟨rfl, hc, fun b h => Nat.lt_of_lt_of_le (hg b h).2 hc.size, hj⟩, h⟩
theorem region_chgJ {id : Nat} {b : Bool} {Q : Exit → Act → World → Prop} {a0 : Act} {w : World} (n : Nat) (M : Nat → Prop) (kI : Nat) (I J : World → Prop) (tab : List Sp) (hQ : ∀ (d : Tmp) v c a w, Q (.panic c) (Act.put a (some d) v) w → Q (.panic c) a w) (hm : P.follows .mixedOrders = true) (hB : relB n l a0.tmps.size = true)
    (hI0 : I w) (hI : ∀ w w', I w → Below w.heap.size w w' → I w') (hJ0 : J w) (hJ : ∀ w w', J w → Below w.heap.size w w' → J w') (hM : ∀ j, j ≠ kI → ∀ v g u u', tabR tab j v g u → Chg M u u' → tabR tab j v g u')
    (hop : AllOps (opJ P l a0 w M kI I J (tabR tab)) 0 (l.take n)) (hend : ∀ (vs : Nat → Value) g w', Chg M w w' ∧ J w' → Boxes w g w' → (∀ j, j < n → tabR tab j (vs j) g w') → wpList P l.toArray Q (l.drop n) (putOps (l.take n) vs 0 a0) w') : (Code.region id l.toArray b).wp P Q a0 w := by
  refine region_rel (γ := List Nat) n (fun k g u g' u' => StepJ M kI J k g u g' u') (fun g u => (Chg M w u ∧ J u) ∧ Boxes w g u) (fun k _ u => k = kI → I u) (tabR tab) [] hQ hm hB (fun k g u g' u' hc hT => ?_) (fun k j g u g' u' hkj hc hi hT hj => ?_) (fun k j v g u g' u' hkj hc hr hT => ?_) (fun w' hw' => ⟨by rcases hw' with rfl | rfl; exact ⟨Chg.refl _ _, hJ0⟩; exact ⟨Chg.of_below (Below.refl _ _).drew, hJ _ _ hJ0 (Below.refl _ _).drew⟩, fun b hb => by cases hb⟩) (fun w' hw' _ _ => by rcases hw' with rfl | rfl; exact hI0; exact hI _ _ hI0 (Below.refl _ _).drew) (AllOps.mono (fun k o h => ?_) hop) (fun vs g u hc hr => hend vs g u hc.1 hc.2 hr)
  · unfold StepJ at hT
    split at hT
    · obtain ⟨rfl, hT, hl, hj⟩ := hT
      exact ⟨⟨hc.1.1.trans hT (fun i h => .inl h), hj⟩, fun b hb => ⟨(hc.2 b hb).1, hl b hb⟩⟩
    · refine ⟨⟨hc.1.1.below hT.b, hJ _ _ hc.1.2 hT.b⟩, fun b hb => ⟨?_, hT.l b hb⟩⟩
      rcases hT.n b hb with h1 | h1
      · exact (hc.2 b h1).1
      · exact Nat.le_trans hc.1.1.size h1
  · have hk : k ≠ kI := fun e => hkj (e.trans hj.symm)
    unfold StepJ at hT
    rw [if_neg hk] at hT
    exact hI _ _ (hi hj) hT.b
  · unfold StepJ at hT
    split at hT
    · rename_i hk
      obtain ⟨rfl, hT, hl, -⟩ := hT
      exact hM j (fun e => hkj (hk.trans e.symm)) v g' u u' hr hT
    · exact (tab.getD j Sp.any).st v g u g' u' hr hT
  · intro a g u vs hc hi hp h0
    exact h a g u hc.1.1 hc.2 ⟨hi, hc.1.2⟩ (OpAt.of hp h0)
end
end Go.Proofs.Ytggfallodkbgcaa.K
