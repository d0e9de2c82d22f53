/- DERIVED. A script of steps on lanes; early, kind, message. No statement is proved here. -/
import Derived.Test.YtbbhhjoohfkanaaLaneH
import Derived.Test.YtbbhhjoohfkanaaK4
namespace Go.Proofs.Ytbbhhjoohfkanaa.La
set_option linter.unusedVariables false
set_option linter.unusedSimpArgs false
open Go.RowKit Go.Proofs.Ytbbhhjoohfkanaa.K Go.Proofs.Ytbbhhjoohfkanaa.Sp Go.Proofs.Ytbbhhjoohfkanaa.Lb Go.Proofs.Ytbbhhjoohfkanaa.So
/-- A step: what it is, its number; its message (the words stand in the value beside it). -/
structure St where
  k : Int
  n : Int
  m : Msg
def encS (q : Value × St) : List Value := [.int .i64 q.2.k, .int .i64 q.2.n, q.1, .int .i64 q.2.m.lane, .int .i64 q.2.m.stamp, .int .i64 q.2.m.late, .int .i64 q.2.m.seq]
def goodS (w : World) (q : Value × St) : Prop := IntsAt (fun b => b < w.heap.size) w q.1 q.2.m.words
theorem goodS_below (w w' : World) (q : Value × St) (h : goodS w q) (hb : Below w.heap.size w w') : goodS w' q := (IntsAt.below h hb).mono (fun b h _ => Nat.lt_of_lt_of_le h hb.size)
abbrev StepsAt := RecsAt encS 7 goodS
theorem StepsAt.at_ {w : World} {ao : Option Addr} {n cap : Nat} {qs : List (Value × St)} (h : StepsAt w (.slice ao n cap) qs) {i : Nat} (hi : i < qs.length) : ∃ g o a c, ao = some ⟨g, o, none⟩ ∧ g < w.heap.size ∧ IntsAt (fun b => b < w.heap.size) w (.slice a qs[i].2.m.words.length c) qs[i].2.m.words ∧
    w.cell? ⟨g, o + i * 7, none⟩ = some (.int .i64 qs[i].2.k) ∧ w.cell? ⟨g, o + i * 7 + 1, none⟩ = some (.int .i64 qs[i].2.n) ∧ w.cell? ⟨g, o + i * 7 + 2, none⟩ = some (.slice a qs[i].2.m.words.length c) ∧ w.cell? ⟨g, o + i * 7 + 3, none⟩ = some (.int .i64 qs[i].2.m.lane) ∧ w.cell? ⟨g, o + i * 7 + 4, none⟩ = some (.int .i64 qs[i].2.m.stamp) ∧ w.cell? ⟨g, o + i * 7 + 5, none⟩ = some (.int .i64 qs[i].2.m.late) ∧ w.cell? ⟨g, o + i * 7 + 6, none⟩ = some (.int .i64 qs[i].2.m.seq) := by
  obtain ⟨-, -, -, hget⟩ := h.get
  obtain ⟨g, o, e, hg, hw, hc⟩ := hget i hi
  have hw : IntsAt (fun b => b < w.heap.size) w qs[i].1 qs[i].2.m.words := hw
  obtain ⟨a, c, hs⟩ := hw.shape
  exact ⟨g, o, a, c, e, hg, by rw [← hs]; exact hw, hc 0 (by omega), hc 1 (by omega), by rw [← hs]; exact hc 2 (by omega), hc 3 (by omega), hc 4 (by omega), hc 5 (by omega), hc 6 (by omega)⟩
theorem early_c {w0 : World} (w : World) {v : Value} {l : List (Value × St)} (h : StepsAt w0 v l) : Calls Try.prog 13 #[v] w fun e w' => ∃ v', e = .returned v' ∧ StepsAt w0 v' (l.take 80) ∧ w = w' := by
  obtain ⟨ao, cap, rfl, ht⟩ := h.take 80
  obtain ⟨-, hlc, hcm, -⟩ := h.get
  have hmin := @minTwo
  have hmn : min (l.length : Int) 80 ≤ cap := by omega
  have hmz : 0 ≤ min (l.length : Int) 80 := by omega
  have e80 := hid (show (l.take 80).length = (min (l.length : Int) 80).toNat by simp; omega)
  replace ht := hid ht
  replace h := hid h
  go_enter Try.func13, Try.ntmps13
  go_wp2
  go_ret
  refine ⟨_, ?_, ht.out, rfl⟩
  show Ending.returned (.slice ao _ cap) = _
  rw [e80.out]
def kindT (k : Int) : Int := (k % 18446744073709551616) % 8
theorem kindT_lt (k : Int) : 0 ≤ kindT k ∧ kindT k < 8 := by unfold kindT; omega
theorem kind_c (w : World) (q : St) (a : Option Addr) (n c : Nat) : Calls Try.prog 14 #[.agg #[.int .i64 q.k, .int .i64 q.n, .slice a n c, .int .i64 q.m.lane, .int .i64 q.m.stamp, .int .i64 q.m.late, .int .i64 q.m.seq]] w fun e w' => e = .returned (.int .i64 (kindT q.k)) ∧ Below w.heap.size w w' := by
  go_enter Try.func14, Try.ntmps14
  go_wp2
  go_ret
  exact ⟨rint (by rw [IntKind.wrap_u64, Int.tmod_eq_emod_of_nonneg (by omega)]; unfold wrap64 kindT; omega), (Below.refl _ _).alloc (Nat.le_refl _) _⟩
theorem message_c {ok : Nat → Prop} {w : World} (q : St) {a : Option Addr} {c : Nat} (h : IntsAt ok w (.slice a q.m.words.length c) q.m.words) : Calls Try.prog 20 #[.agg #[.int .i64 q.k, .int .i64 q.n, .slice a q.m.words.length c, .int .i64 q.m.lane, .int .i64 q.m.stamp, .int .i64 q.m.late, .int .i64 q.m.seq]] w fun e w' => e = .returned (.agg #[.slice a (cut8 q.m).words.length c, .int .i64 q.m.lane, .int .i64 q.m.stamp, .int .i64 q.m.late, .int .i64 q.m.seq]) ∧ Below w.heap.size w w' := by
  have hmin := minTwo
  have hl := h.get.2.1
  have hm := h.get.2.2.1
  have e8n : (cut8 q.m).words.length = (min (q.m.words.length : Int) 8).toNat := by unfold cut8; simp; omega
  have hmn : min (q.m.words.length : Int) 8 ≤ c := by omega
  have hmz : 0 ≤ min (q.m.words.length : Int) 8 := by omega
  replace e8n := hid e8n
  go_enter Try.func20, Try.ntmps20
  go_wp2
  refine bodyPost_ret (v := .agg #[.slice a (min (q.m.words.length : Int) 8).toNat c, .int .i64 q.m.lane, .int .i64 q.m.stamp, .int .i64 q.m.late, .int .i64 q.m.seq]) (by simp [results, Try.results20, go_sem]) rfl ⟨by rw [e8n.out], (((Below.refl _ _).alloc (Nat.le_refl _) _).alloc (by simp) _).alloc (by simp; omega) _⟩
end Go.Proofs.Ytbbhhjoohfkanaa.La
