/- DERIVED. Plain words on gates: sums and products of ticks, how a message is judged, buckets, gates. No program is in sight; no statement is proved here. -/
import Derived.Test.YtggfallodkbgcaaLaneH
import Derived.Test.YtggfallodkbgcaaCfgP
namespace Go.Proofs.Ytggfallodkbgcaa.Gt
set_option linter.unusedVariables false
set_option linter.unusedSimpArgs false
open Go.Proofs.Ytggfallodkbgcaa.K Go.Proofs.Ytggfallodkbgcaa.Lb Go.Proofs.Ytggfallodkbgcaa.La Go.Proofs.Ytggfallodkbgcaa.Cf
theorem cutT_in (n : Int) : 0 ≤ cutT n ∧ cutT n ≤ 4611686018427387904 := by unfold cutT; omega
theorem cutT_id {n : Int} (h0 : 0 ≤ n) (h1 : n ≤ 4611686018427387904) : cutT n = n := by unfold cutT; omega
def addT (a b : Int) : Int := min (cutT a + cutT b) 4611686018427387904
def subT (a b : Int) : Int := cutT (cutT a - cutT b)
def mulT (a b : Int) : Int := min (cutT a * cutT b) 4611686018427387904
theorem addT_in (a b : Int) : 0 ≤ addT a b ∧ addT a b ≤ 4611686018427387904 := by have := cutT_in a; have := cutT_in b; unfold addT; omega
theorem subT_in (a b : Int) : 0 ≤ subT a b ∧ subT a b ≤ 4611686018427387904 := cutT_in _
theorem mulT_in (a b : Int) : 0 ≤ mulT a b ∧ mulT a b ≤ 4611686018427387904 := by
  have h := Int.mul_nonneg (cutT_in a).1 (cutT_in b).1
  unfold mulT; omega
def badWord (x : Int) : Bool := decide (x < 0) || decide (2147483647 < x)
/-- How a message is judged. -/
def judgeT (k : Chan) (mode lane : Int) (ws : List Int) : Int :=
  if mode ≠ 0 then 5 else if k.kind ≠ 1 then 4 else if lane < 0 ∨ k.lanes ≤ lane ∨ ws = [] ∨ k.words < ws.length ∨ ws.any badWord = true then 3 else 0
theorem judge_words {k : Chan} {lane : Int} {ws : List Int} (hk : k.kind = 1) (h0 : 0 ≤ lane) (h1 : lane < k.lanes) (h2 : ws.length ≠ 0) (h3 : (ws.length : Int) ≤ k.words) : judgeT k 0 lane ws = if ws.any badWord = true then 3 else 0 := by
  have hn : ws ≠ [] := fun e => h2 (by rw [e]; rfl)
  unfold judgeT
  rw [if_neg (show ¬ ((0 : Int) ≠ 0) by simp), if_neg (show ¬ (k.kind ≠ 1) by simp [hk])]
  by_cases ha : ws.any badWord = true
  · rw [if_pos (show lane < 0 ∨ k.lanes ≤ lane ∨ ws = [] ∨ k.words < ws.length ∨ ws.any badWord = true from .inr (.inr (.inr (.inr ha)))), if_pos ha]
  · have hno : ¬ (lane < 0 ∨ k.lanes ≤ lane ∨ ws = [] ∨ k.words < ws.length ∨ ws.any badWord = true) := by
      rintro (h | h | h | h | h)
      · omega
      · omega
      · exact hn h
      · omega
      · exact ha h
    rw [if_neg hno, if_neg ha]
/-- A bucket: its rate, its cap, its tokens, its round. -/
structure Bk where
  rate : Int
  cap : Int
  tokens : Int
  round : Int
structure Bk.Ok (b : Bk) : Prop where
  r : 0 ≤ b.rate ∧ b.rate ≤ 64
  c : 1 ≤ b.cap ∧ b.cap ≤ 64
  t : 0 ≤ b.tokens ∧ b.tokens ≤ b.cap
  n : 0 ≤ b.round ∧ b.round ≤ 4611686018427387904
def newB (rate limit : Int) : Bk := ⟨min (max rate 0) 64, min (max limit 1) 64, min (max limit 1) 64, 0⟩
theorem newB_ok (rate limit : Int) : (newB rate limit).Ok := ⟨by simp only [newB]; omega, by simp only [newB]; omega, by simp only [newB]; omega, by simp only [newB]; omega⟩
/-- It comes to a round. -/
def comeB (b : Bk) (r : Int) : Bk := { b with tokens := min (addT b.tokens (mulT b.rate (subT r b.round))) b.cap, round := addT b.round (subT r b.round) }
theorem comeB_ok {b : Bk} (h : b.Ok) (r : Int) : (comeB b r).Ok := ⟨h.r, h.c, by have := addT_in b.tokens (mulT b.rate (subT r b.round)); have := h.c; simp only [comeB]; omega, addT_in _ _⟩
def useB (b : Bk) : Bk := { b with tokens := b.tokens - 1 }
theorem useB_ok {b : Bk} (h : b.Ok) (h0 : b.tokens ≠ 0) : (useB b).Ok := ⟨h.r, h.c, by have := h.t; simp only [useB]; omega, h.n⟩
/-- What the reference reckons round by round. -/
def stepB (rate cap : Int) : Nat → Int → Int
  | 0, t => t
  | g + 1, t => stepB rate cap g (min (t + rate) cap)
theorem stepB_eq {rate cap : Int} (hr : 0 ≤ rate) : ∀ (g : Nat) (t : Int), t ≤ cap → stepB rate cap g t = min (t + rate * g) cap
  | 0, t, h => by simp [stepB]; omega
  | g + 1, t, h => by
    rw [stepB, stepB_eq hr g _ (by omega)]
    have h1 : rate * ((g + 1 : Nat) : Int) = rate * g + rate := by rw [Int.natCast_succ, Int.mul_add, Int.mul_one]
    have h2 : 0 ≤ rate * (g : Int) := Int.mul_nonneg hr (by omega)
    rw [h1]; omega
/-- A gate: its channel, its messages, its bucket, its number. -/
structure Gte where
  k : Chan
  ms : List Msg
  b : Bk
  seq : Int
def zeroMsg : Msg := ⟨[], 0, 0, 0, 0⟩
/-- What a gate makes of words that are offered. -/
def offerT (g : Gte) (mode lane : Int) (ws : List Int) (now round : Int) : Gte × Msg × Int :=
  if judgeT g.k mode lane ws ≠ 0 then (g, zeroMsg, judgeT g.k mode lane ws)
  else if roomT (lnT g.k.lanes) (plT g.k.depth) g.ms lane = 0 then (g, zeroMsg, 2)
  else if (comeB g.b round).tokens = 0 then ({ g with b := comeB g.b round }, zeroMsg, 2)
  else ({ g with ms := g.ms ++ [⟨ws, lane, cutT now, addT now g.k.life, g.seq + 1⟩], b := useB (comeB g.b round), seq := g.seq + 1 }, ⟨ws, lane, cutT now, addT now g.k.life, g.seq + 1⟩, 0)
end Go.Proofs.Ytggfallodkbgcaa.Gt
