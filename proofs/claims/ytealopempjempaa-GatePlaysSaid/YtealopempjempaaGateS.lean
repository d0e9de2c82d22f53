/- DERIVED. A script of steps on gates; early, kind, words. No statement is proved here. -/
import Derived.Test.YtealopempjempaaGateL
import Derived.Test.YtealopempjempaaK4
namespace Go.Proofs.Ytealopempjempaa.Gt
set_option linter.unusedVariables false
set_option linter.unusedSimpArgs false
open Go.RowKit Go.Proofs.Ytealopempjempaa.K Go.Proofs.Ytealopempjempaa.Lb Go.Proofs.Ytealopempjempaa.La Go.Proofs.Ytealopempjempaa.Cf
/-- A step: what it is, its mode, lane, number, round; its words (they stand in the value beside it). -/
structure GSt where
  k : Int
  mode : Int
  lane : Int
  n : Int
  round : Int
  ws : List Int
def encG (q : Value × GSt) : List Value := [.int .i64 q.2.k, .int .i64 q.2.mode, .int .i64 q.2.lane, .int .i64 q.2.n, .int .i64 q.2.round, q.1]
def goodG (w : World) (q : Value × GSt) : Prop := IntsAt (fun b => b < w.heap.size) w q.1 q.2.ws
theorem goodG_below (w w' : World) (q : Value × GSt) (h : goodG w q) (hb : Below w.heap.size w w') : goodG w' q := (IntsAt.below h hb).mono (fun b h _ => Nat.lt_of_lt_of_le h hb.size)
abbrev GStepsAt := RecsAt encG 6 goodG
theorem gearly_c {w0 : World} (w : World) {v : Value} {l : List (Value × GSt)} (h : GStepsAt w0 v l) : Calls Try.prog 20 #[v] w fun e w' => ∃ v', e = .returned v' ∧ GStepsAt w0 v' (l.take 80) ∧ w = w' := by
  obtain ⟨ao, cap, rfl, ht⟩ := h.take 80
  obtain ⟨-, hlc, hcm, -⟩ := h.get
  have hmin := @minTwo
  have hmn : min (l.length : Int) 80 ≤ cap := by omega
  have hmz : 0 ≤ min (l.length : Int) 80 := by omega
  have e80 := hid (show (l.take 80).length = (min (l.length : Int) 80).toNat by simp; omega)
  replace ht := hid ht
  replace h := hid h
  go_enter Try.func20, Try.ntmps20
  go_wp2
  go_ret
  refine ⟨_, ?_, ht.out, rfl⟩
  show Ending.returned (.slice ao _ cap) = _
  rw [e80.out]
def cutW (ws : List Int) : List Int := ws.take 8
theorem gkind_c (w : World) (q : GSt) (a : Option Addr) (n c : Nat) : Calls Try.prog 23 #[.agg #[.int .i64 q.k, .int .i64 q.mode, .int .i64 q.lane, .int .i64 q.n, .int .i64 q.round, .slice a n c]] w fun e w' => e = .returned (.int .i64 (kindT q.k)) ∧ Below w.heap.size w w' := by
  go_enter Try.func23, Try.ntmps23
  go_wp2
  go_ret
  exact ⟨rint (by rw [IntKind.wrap_u64, Int.tmod_eq_emod_of_nonneg (by omega)]; unfold wrap64 kindT; omega), (Below.refl _ _).alloc (Nat.le_refl _) _⟩
theorem words_c {ok : Nat → Prop} {w : World} (q : GSt) {a : Option Addr} {c : Nat} (h : IntsAt ok w (.slice a q.ws.length c) q.ws) : Calls Try.prog 13 #[.agg #[.int .i64 q.k, .int .i64 q.mode, .int .i64 q.lane, .int .i64 q.n, .int .i64 q.round, .slice a q.ws.length c]] w fun e w' => e = .returned (.slice a (cutW q.ws).length c) ∧ Below w.heap.size w w' := by
  have hmin := minTwo
  have hl := h.get.2.1
  have hm := h.get.2.2.1
  have e8n : (cutW q.ws).length = (min (q.ws.length : Int) 8).toNat := by unfold cutW; simp; omega
  have hmn : min (q.ws.length : Int) 8 ≤ c := by omega
  have hmz : 0 ≤ min (q.ws.length : Int) 8 := by omega
  replace e8n := hid e8n
  go_enter Try.func13, Try.ntmps13
  go_wp2
  go_ret
  refine ⟨?_, (Below.refl _ _).alloc (Nat.le_refl _) _⟩
  show Ending.returned (.slice a _ c) = _
  rw [e8n.out]
end Go.Proofs.Ytealopempjempaa.Gt
