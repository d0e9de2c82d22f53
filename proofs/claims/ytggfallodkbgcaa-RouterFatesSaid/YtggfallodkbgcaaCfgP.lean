/- DERIVED. Plain words on configs: a number made to lie in a range; channels, windows, a config that may be, made of any. No program is in sight; no statement is proved here. -/
import Derived.Test.YtggfallodkbgcaaK0
namespace Go.Proofs.Ytggfallodkbgcaa.Cf
set_option linter.unusedVariables false
set_option linter.unusedSimpArgs false
/-- A number from one on, so many at most, made of any. -/
def nearT (n least many : Int) : Int := least + (n % 18446744073709551616) % many
theorem nearT_in {n least many : Int} (h : 0 < many) : least ≤ nearT n least many ∧ nearT n least many < least + many := by
  unfold nearT
  have h1 := Int.emod_nonneg (n % 18446744073709551616) (show many ≠ 0 by omega)
  have h2 := Int.emod_lt_of_pos (n % 18446744073709551616) h
  omega
structure Chan where
  kind : Int
  frm : Int
  to : Int
  words : Int
  refresh : Int
  lanes : Int
  depth : Int
  hold : Int
  life : Int
  rate : Int
  cap : Int
def encC (k : Chan) : List Value := [.int .i64 k.kind, .int .i64 k.frm, .int .i64 k.to, .int .i64 k.words, .int .i64 k.refresh, .int .i64 k.lanes, .int .i64 k.depth, .int .i64 k.hold, .int .i64 k.life, .int .i64 k.rate, .int .i64 k.cap]
def aggC (k : Chan) : Value := .agg #[.int .i64 k.kind, .int .i64 k.frm, .int .i64 k.to, .int .i64 k.words, .int .i64 k.refresh, .int .i64 k.lanes, .int .i64 k.depth, .int .i64 k.hold, .int .i64 k.life, .int .i64 k.rate, .int .i64 k.cap]
structure Win where
  owner : Int
  start : Int
  len : Int
def encWn (v : Win) : List Value := [.int .i64 v.owner, .int .i64 v.start, .int .i64 v.len]
structure Cfg where
  parts : Int
  frame : Int
  wins : List Win
  chans : List Chan
  acts : List Int
/-- A channel that is right, made of any. -/
def goodChan (P : Int) (k : Chan) : Chan :=
  if nearT k.kind 0 2 = 0 then ⟨0, nearT k.frm 0 P, (nearT k.frm 0 P + nearT k.to 1 (P - 1)) % P, nearT k.words 1 4, nearT k.refresh 1 30, 0, 0, 0, 0, 0, 0⟩
  else ⟨1, nearT k.frm 0 P, (nearT k.frm 0 P + nearT k.to 1 (P - 1)) % P, nearT k.words 1 4, 0, nearT k.lanes 1 3, nearT k.depth 1 4, nearT k.hold 1 4, nearT k.life 1 60, nearT k.rate 0 5, nearT k.cap 1 6⟩
def goodWin (P e : Int) (v : Win) : Win := ⟨nearT v.owner (-1) (P + 1), e + nearT v.start 0 3, nearT v.len 1 6⟩
def goodWins (P : Int) : Int → List Win → List Win
  | _, [] => []
  | e, v :: l => goodWin P e v :: goodWins P ((goodWin P e v).start + (goodWin P e v).len) l
def winsEnd (e : Int) (l : List Win) : Int := match l.getLast? with | some v => v.start + v.len | none => e
def goodParts (c : Cfg) : Int := nearT c.parts 1 4
def goodW (c : Cfg) : List Win := if c.wins = [] then [⟨0, 0, 2⟩] else goodWins (goodParts c) 0 (c.wins.take 6)
def goodAct (acts : List Int) (i : Nat) : Int := match acts[i]? with | some a => nearT a 0 3 | none => 0
/-- A config that may be, made of any. -/
def goodCfg (c : Cfg) : Cfg :=
  ⟨goodParts c, winsEnd 0 (goodW c) + nearT c.frame 0 3, goodW c, if 1 < goodParts c then (c.chans.take 5).map (goodChan (goodParts c)) else [], (List.range (goodParts c).toNat).map (goodAct c.acts)⟩
theorem goodParts_in (c : Cfg) : 1 ≤ goodParts c ∧ goodParts c ≤ 4 := by have := nearT_in (n := c.parts) (least := 1) (many := 4) (by omega); unfold goodParts; omega
end Go.Proofs.Ytggfallodkbgcaa.Cf
