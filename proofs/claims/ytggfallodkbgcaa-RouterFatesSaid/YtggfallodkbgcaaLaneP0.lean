/- DERIVED. The first message of lanes, in words for both Peek and Take. No statement is proved here. -/
import Derived.Test.YtggfallodkbgcaaLaneI
import Derived.Test.YtggfallodkbgcaaRegR
namespace Go.Proofs.Ytggfallodkbgcaa.La
set_option linter.unusedVariables false
set_option linter.unusedSimpArgs false
open Go.RowKit Go.Proofs.Ytggfallodkbgcaa.K Go.Proofs.Ytggfallodkbgcaa.Sp Go.Proofs.Ytggfallodkbgcaa.Lb Go.Proofs.Ytggfallodkbgcaa.So
def zeroM : Msg := ⟨[], 0, 0, 0, 0⟩
def hdM (S : List Msg) : Msg := S.headD zeroM
/-- The first of all in hand, or nothing. -/
def HandAny (ok : Nat → Prop) (S : List Msg) (e : Ending) (w' : World) : Prop :=
  ∃ a c, e = .returned (.tuple #[.agg #[.slice a (hdM S).words.length c, .int .i64 (hdM S).lane, .int .i64 (hdM S).stamp, .int .i64 (hdM S).late, .int .i64 (hdM S).seq], .bool (!S.isEmpty)]) ∧ IntsAt ok w' (.slice a (hdM S).words.length c) (hdM S).words
section
variable {w w' : World} {M : Nat → Prop} {lb : Nat} {ln pl : Int} {ms : List Msg}
theorem take_any (h : LanesM w M lb ln pl ms) : Calls Try.prog 58 #[.pointer (some ⟨lb, 0, none⟩)] w fun e w' => HandAny (fun _ => True) (sortM ms) e w' ∧ LanesM w' (grow M w w') lb ln pl (sortM ms).tail ∧ Chg M w w' := by
  cases hs : sortM ms with
  | nil =>
    have : ms = [] := List.eq_nil_of_length_eq_zero (by have := sortL_len (key := lane1) ms; unfold sortM at hs; rw [hs] at this; exact this.symm)
    subst this
    exact (take_none h).mono fun e w' ⟨h1, h2, h3⟩ => ⟨⟨none, 0, h1, IntsAt.nil _ _⟩, h2, h3⟩
  | cons m r => exact (take_some h hs).mono fun e w' ⟨⟨a, c, h1, h2⟩, h3, h4⟩ => ⟨⟨a, c, h1, h2.mono (fun _ _ _ => trivial)⟩, h3, h4⟩
theorem sortM_tail (ms : List Msg) : sortM (sortM ms).tail = (sortM ms).tail := by
  have h := sortL_srt (key := lane1) ms
  show sortL lane1 (sortL lane1 ms).tail = (sortL lane1 ms).tail
  cases hs : sortL lane1 ms with
  | nil => rfl
  | cons m r => rw [hs] at h; exact sortL_srt_id (List.pairwise_cons.1 h).2
theorem sortM_filter (f : Msg → Bool) (ms : List Msg) : sortM ((sortM ms).filter f) = (sortM ms).filter f := sortL_srt_id (Srt.sub (sortL_srt (key := lane1) ms) f)
end
end Go.Proofs.Ytggfallodkbgcaa.La
