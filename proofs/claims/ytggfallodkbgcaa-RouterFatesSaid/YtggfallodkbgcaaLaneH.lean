/- DERIVED. Lanes' calls in short words; the small helpers of the statements on lanes: early, kind, message, the document's example. No statement is proved here. -/
import Derived.Test.YtggfallodkbgcaaLaneG
namespace Go.Proofs.Ytggfallodkbgcaa.La
set_option linter.unusedVariables false
set_option linter.unusedSimpArgs false
open Go.RowKit Go.Proofs.Ytggfallodkbgcaa.K Go.Proofs.Ytggfallodkbgcaa.Sp Go.Proofs.Ytggfallodkbgcaa.Lb Go.Proofs.Ytggfallodkbgcaa.So
section
variable {w w' : World} {M : Nat → Prop} {lb : Nat} {ln pl : Int} {ms : List Msg}
/-- What Put answers, and leaves. -/
def putE (ln pl : Int) (ms : List Msg) (m : Msg) : Int := if isT ln m.lane then (if roomT ln pl ms m.lane = 0 then 10 else 0) else 3
def putL (ln pl : Int) (ms : List Msg) (m : Msg) : List Msg := if isT ln m.lane then (if roomT ln pl ms m.lane = 0 then ms else ms ++ [m]) else ms
def PutPost (w : World) (M : Nat → Prop) (lb : Nat) (ln pl : Int) (ms : List Msg) (m : Msg) (e : Ending) (w' : World) : Prop :=
  e = .returned (.int .i64 (putE ln pl ms m)) ∧ LanesM w' (grow M w w') lb ln pl (putL ln pl ms m) ∧ Chg M w w'
theorem put_cases (h : LInv ln pl ms) (m : Msg) : (0 < roomT ln pl ms m.lane ∧ putE ln pl ms m = 0 ∧ putL ln pl ms m = ms ++ [m]) ∨ (roomT ln pl ms m.lane = 0 ∧ (putE ln pl ms m = 3 ∨ putE ln pl ms m = 10) ∧ putL ln pl ms m = ms) := by
  have h0 : 0 ≤ roomT ln pl ms m.lane := by
    have := h.few m.lane
    have := h.p
    unfold roomT ofM
    split <;> omega
  by_cases hi : isT ln m.lane = true
  · by_cases hr : roomT ln pl ms m.lane = 0
    · exact .inr ⟨hr, .inr (by unfold putE; rw [if_pos hi, if_pos hr]), by unfold putL; rw [if_pos hi, if_pos hr]⟩
    · exact .inl ⟨by omega, by unfold putE; rw [if_pos hi, if_neg hr], by unfold putL; rw [if_pos hi, if_neg hr]⟩
  · exact .inr ⟨by unfold roomT; rw [if_neg hi], .inl (by unfold putE; rw [if_neg hi]), by unfold putL; rw [if_neg hi]⟩
theorem mod3 (x : Int) : 0 ≤ wrap64 ((IntKind.u64.wrap x).tmod 3) ∧ wrap64 ((IntKind.u64.wrap x).tmod 3) < 3 := by
  rw [IntKind.wrap_u64, Int.tmod_eq_emod_of_nonneg (by omega)]; unfold wrap64; omega
theorem LanesM.grown (h : LanesM w M lb ln pl ms) (hb : Below w.heap.size w w') : LanesM w' (grow M w w') lb ln pl ms :=
  (h.below hb).mono (fun b hb => .inl hb) (fun b hb' => by rcases hb' with h1 | h1; exact Nat.lt_of_lt_of_le (h.lt b h1) hb.size; exact h1.2)
theorem put_any (h : LanesM w M lb ln pl ms) {okp : Nat → Prop} {a : Option Addr} {c : Nat} {m : Msg} (hw : IntsAt okp w (.slice a m.words.length c) m.words) (hsh : m.words.length ≤ 17592186044416) :
    Calls Try.prog 33 #[.pointer (some ⟨lb, 0, none⟩), .agg #[.slice a m.words.length c, .int .i64 m.lane, .int .i64 m.stamp, .int .i64 m.late, .int .i64 m.seq]] w (PutPost w M lb ln pl ms m) := by
  by_cases hi : isT ln m.lane = true
  · by_cases hr : roomT ln pl ms m.lane = 0
    · exact (put_full h a m.words.length c m hi hr).mono fun e w' ⟨he, hb⟩ => ⟨by rw [he]; unfold putE; rw [if_pos hi, if_pos hr], by unfold putL; rw [if_pos hi, if_pos hr]; exact h.grown hb, Chg.of_below hb⟩
    · exact (put_ok h hw hsh hi hr).mono fun e w' ⟨he, hL, hC⟩ => ⟨by rw [he]; unfold putE; rw [if_pos hi, if_neg hr], by unfold putL; rw [if_pos hi, if_neg hr]; exact hL, hC⟩
  · exact (put_bad h a m.words.length c m (by simpa using hi)).mono fun e w' ⟨he, hb⟩ => ⟨by rw [he]; unfold putE; rw [if_neg hi], by unfold putL; rw [if_neg hi]; exact h.grown hb, Chg.of_below hb⟩
theorem putLit (h : LanesM w M lb ln pl ms) (lane stamp late seq : Int) : Calls Try.prog 33 #[.pointer (some ⟨lb, 0, none⟩), .agg #[.slice none 0 0, .int .i64 lane, .int .i64 stamp, .int .i64 late, .int .i64 seq]] w (PutPost w M lb ln pl ms ⟨[], lane, stamp, late, seq⟩) :=
  put_any (okp := fun _ => True) (a := none) (c := 0) (m := ⟨[], lane, stamp, late, seq⟩) h (IntsAt.nil _ _) (by simp)
/-- What Sweep and Flush tell, and leave. -/
def TellPost (w : World) (M : Nat → Prop) (lb : Nat) (ln pl : Int) (out rest : List Msg) (e : Ending) (w' : World) : Prop :=
  ∃ v, e = .returned v ∧ MsgsR (grow M w w') w' v out ∧ LanesM w' (grow M w w') lb ln pl rest ∧ Chg M w w'
theorem OutPost.tell {out rest : List Msg} {e : Ending} (hMlt : ∀ b, M b → b < w.heap.size) (h : OutPost w M lb ln pl out rest e w') : TellPost w M lb ln pl out rest e w' := by
  obtain ⟨v, qs, he, hq, ho, hw, hL, hC⟩ := h
  refine ⟨v, he, ⟨qs, hq, ?_⟩, hL.mono (fun b hb => hb.1) (fun b hb => by rcases hb with h1 | h1; exact Nat.lt_of_lt_of_le (hMlt b h1) hC.size; exact h1.2), hC⟩
  exact (MsgsAt.of_own ho hw).mono (fun b h hlt => .inr ⟨h, hlt⟩) (fun b h _ => .inl h)
theorem sweepTell (h : LanesM w M lb ln pl ms) (now : Int) : Calls Try.prog 57 #[.pointer (some ⟨lb, 0, none⟩), .int .i64 now] w (TellPost w M lb ln pl ((sortM ms).filter (fun m => lateT now m.late)) ((sortM ms).filter (fun m => !lateT now m.late))) :=
  (sweep_c h now).mono fun _ _ hp => hp.tell h.lt
end
def LivesPost (w : World) (e : Ending) (w' : World) : Prop := e = .returned (.bool true) ∧ Below w.heap.size w w'
def m1L : Msg := ⟨[], 1, 0, 9, 1⟩
def m2L : Msg := ⟨[], 0, 0, 9, 2⟩
theorem lv1 : putE 2 3 [] m1L = 0 ∧ putL 2 3 [] m1L = [m1L] := by constructor <;> rfl
theorem lv2 : putE 2 3 [m1L] m2L = 0 ∧ putL 2 3 [m1L] m2L = [m1L, m2L] := by constructor <;> rfl
theorem lv3 : sortM [m1L, m2L] = m2L :: [m1L] := by rfl
theorem lv4 : sortM [m1L] = m1L :: [] := by rfl
theorem lv5 : lateT 8 m1L.late = false ∧ lateT 9 m1L.late = true := by constructor <;> decide
theorem lv6 : (sortM [m1L]).filter (fun m => lateT 8 m.late) = [] ∧ (sortM [m1L]).filter (fun m => !lateT 8 m.late) = [m1L] := by
  rw [lv4]; constructor <;> simp [lv5.1]
theorem lv7 : (sortM [m1L]).filter (fun m => lateT 9 m.late) = [m1L] := by rw [lv4]; simp [lv5.2]
theorem lnpl : lnT 2 = 2 ∧ plT 3 = 3 := by decide
end Go.Proofs.Ytggfallodkbgcaa.La
