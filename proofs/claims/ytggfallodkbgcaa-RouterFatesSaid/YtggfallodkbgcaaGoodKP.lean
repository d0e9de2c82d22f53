/- DERIVED. What holds of a queuing channel that is right, made of any; the first message that its gate is offered. No statement is proved here. -/
import Derived.Test.YtggfallodkbgcaaCfgG
import Derived.Test.YtggfallodkbgcaaGateW
namespace Go.Proofs.Ytggfallodkbgcaa.Gt
set_option linter.unusedVariables false
set_option linter.unusedSimpArgs false
open Go.RowKit Go.Proofs.Ytggfallodkbgcaa.K Go.Proofs.Ytggfallodkbgcaa.Lb Go.Proofs.Ytggfallodkbgcaa.La Go.Proofs.Ytggfallodkbgcaa.Cf
structure GoodR (k : Chan) : Prop where
  kind : k.kind = 1
  words : 1 ≤ k.words ∧ k.words ≤ 4
  lanes : 1 ≤ k.lanes ∧ k.lanes ≤ 3
  depth : 1 ≤ k.depth ∧ k.depth ≤ 4
  hold : 1 ≤ k.hold ∧ k.hold ≤ 4
  life : 1 ≤ k.life ∧ k.life ≤ 60
  rate : 0 ≤ k.rate ∧ k.rate ≤ 4
  cap : 1 ≤ k.cap ∧ k.cap ≤ 6
theorem goodR_ok (k : Chan) : GoodR (goodK k) := by
  have h0 : nearT ({ k with kind := 1 } : Chan).kind 0 2 ≠ 0 := by show nearT 1 0 2 ≠ 0; decide
  have e : goodK k = ⟨1, nearT k.frm 0 2, (nearT k.frm 0 2 + nearT k.to 1 (2 - 1)) % 2, nearT k.words 1 4, 0, nearT k.lanes 1 3, nearT k.depth 1 4, nearT k.hold 1 4, nearT k.life 1 60, nearT k.rate 0 5, nearT k.cap 1 6⟩ := by
    unfold goodK goodChan; rw [if_neg h0]
  rw [e]
  have h1 := nearT_in (n := k.words) (least := 1) (many := 4) (by omega)
  have h2 := nearT_in (n := k.lanes) (least := 1) (many := 3) (by omega)
  have h3 := nearT_in (n := k.depth) (least := 1) (many := 4) (by omega)
  have h4 := nearT_in (n := k.life) (least := 1) (many := 60) (by omega)
  have h5 := nearT_in (n := k.rate) (least := 0) (many := 5) (by omega)
  have h6 := nearT_in (n := k.cap) (least := 1) (many := 6) (by omega)
  have h7 := nearT_in (n := k.hold) (least := 1) (many := 4) (by omega)
  exact ⟨rfl, by simp only; omega, by simp only; omega, by simp only; omega, by simp only; omega, by simp only; omega, by simp only; omega, by simp only; omega⟩
def oneMsg (k : Chan) (x : Int) : Msg := ⟨[x], 0, 0, k.life, 1⟩
def oneGte (k : Chan) (x : Int) : Gte := ⟨k, [oneMsg k x], useB (comeB (newB k.rate k.cap) 0), 1⟩
theorem one_offer {k : Chan} (h : GoodR k) {x : Int} (hx : [x].any badWord = false) : offerT ⟨k, [], newB k.rate k.cap, 0⟩ 0 0 [x] 0 0 = (oneGte k x, oneMsg k x, 0) := by
  have hl := h.lanes
  have hd := h.depth
  have hw := h.words
  have hf := h.life
  have hc := h.cap
  have hr := h.rate
  have hj : judgeT k 0 0 [x] = 0 := by
    rw [judge_words h.kind (by omega) (by omega) (by simp) (by simp; omega), hx]
    rfl
  have hrm : roomT (lnT k.lanes) (plT k.depth) [] 0 ≠ 0 := by
    have e1 : lnT k.lanes = k.lanes := by unfold lnT; omega
    have e2 : plT k.depth = k.depth := by unfold plT; omega
    rw [e1, e2]
    unfold roomT isT
    rw [if_pos (by simp; omega)]
    simp [ofM]; omega
  have ht : (comeB (newB k.rate k.cap) 0).tokens ≠ 0 := by
    have e : newB k.rate k.cap = ⟨k.rate, k.cap, k.cap, 0⟩ := by unfold newB; congr 1 <;> omega
    rw [e]
    have hm := mulT_in k.rate (subT 0 0)
    simp only [comeB]
    unfold addT cutT at *
    omega
  have hct : cutT 0 = 0 := cutT_id (by omega) (by omega)
  have had : addT 0 k.life = k.life := by unfold addT cutT; omega
  unfold offerT
  rw [if_neg (by simp [hj]), if_neg hrm, if_neg ht]
  simp only [oneGte, oneMsg, hct, had, List.nil_append]
  rfl
theorem one_rest {k : Chan} (h : GoodR k) (x : Int) : (sortM [oneMsg k x]).filter (fun m => !lateT 0 m.late) = [oneMsg k x] := by
  have hf := h.life
  rw [show sortM [oneMsg k x] = [oneMsg k x] from rfl]
  have : lateT 0 (oneMsg k x).late = false := by unfold lateT oneMsg cutT; simp only; exact decide_eq_false (by omega)
  simp [this]
end Go.Proofs.Ytggfallodkbgcaa.Gt
