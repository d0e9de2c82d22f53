/-
  No cell of these rows narrows 'for every input' (looked for: loops, veiled, ifaces, maps, wideKeys, modest, calm, conditions, laid).
  DERIVED. THE GIVEN ROWS OF THIS SEAT. 4 by the template 'for every input the law returns true; each argument reads behind the call as it read before'; 0 by the template 'total and deterministic' (their statements: YtfnhjendplgidaaTotals.lean).
  GIVEN WITH THE SEED: the statements are not yours to turn. If you find one false, say at which input.
  Laid BY PROGRAM, IN A SANDBOX (cutbox-rows.mjs): the forced cells as the released guide's own fill.sh prints them over the translation a449cb6b8a6aad74… (all of the seat's roots in one cut). By AI agents, Wed Nov 11 2026. No macro, syntax, notation, axiom, sorry.
-/
import Derived.Test.YtfnhjendplgidaaChecked
import GoSem.Claim
import GoSem.ClaimJoined
import GoSem.ClaimMapViews
import Derived.JoinedTies
import Derived.KernelRfl
namespace Go.Proofs.Ytfnhjendplgidaa
/- THE CELL 'sum', in the pinned program and in every row, IS THE sha256 OF THE DUMP (.gsa) THAT YtfnhjendplgidaaProg.lean LOADS. Nothing in Lean hashes anything: it is a label: what it is worth is what the hold of that sum in a sandbox is worth. -/
noncomputable def Try.pinned : Pinned := { name := "ytfnhjendplgidaa", sum := "a449cb6b8a6aad74f82d6b0bc76b9ea2a199fcf8d73afcad7b01b58dd5173859", checked := Try.checked }
namespace Rows
def none {H : Type} : Left H := { results := [], args := [] }

/-- 'empennagelaw15.ModeActions': WHATEVER THE INPUT: true; the input reads as it did. -/
def modeActionsSpec : ChangeSpec := { name := "modeActions", fn := fun _ => fun
  | [d] => { results := [.lit (.bool true)], args := [d] }
  | _ => none }
def modeActionsRow : OpenClaim := { program := "ytfnhjendplgidaa", sum := "a449cb6b8a6aad74f82d6b0bc76b9ea2a199fcf8d73afcad7b01b58dd5173859", func := "empennage/empennagelaw15.ModeActions", spec := "modeActions", apart := false }
def ModeActionsSaid : Prop := modeActionsRow.holds Try.pinned (OpenSpec.ofChange modeActionsSpec)

/-- ITS FALSE NEIGHBOUR: 'it returns false'. Refute it at one input. -/
def modeActionsWrong : ChangeSpec := { name := "modeActions", fn := fun _ => fun
  | [d] => { results := [.lit (.bool false)], args := [d] }
  | _ => none }
def ModeActionsWrongFalsely : Prop := modeActionsRow.holds Try.pinned (OpenSpec.ofChange modeActionsWrong)

/-- 'empennagelaw15.ModePlays': WHATEVER THE INPUT: true; the input reads as it did. -/
def modePlaysSpec : ChangeSpec := { name := "modePlays", fn := fun _ => fun
  | [d1, d2] => { results := [.lit (.bool true)], args := [d1, d2] }
  | _ => none }
def modePlaysRow : OpenClaim := { program := "ytfnhjendplgidaa", sum := "a449cb6b8a6aad74f82d6b0bc76b9ea2a199fcf8d73afcad7b01b58dd5173859", func := "empennage/empennagelaw15.ModePlays", spec := "modePlays", apart := false }
def ModePlaysSaid : Prop := modePlaysRow.holds Try.pinned (OpenSpec.ofChange modePlaysSpec)

/-- ITS FALSE NEIGHBOUR: 'it returns false'. Refute it at one input. -/
def modePlaysWrong : ChangeSpec := { name := "modePlays", fn := fun _ => fun
  | [d1, d2] => { results := [.lit (.bool false)], args := [d1, d2] }
  | _ => none }
def ModePlaysWrongFalsely : Prop := modePlaysRow.holds Try.pinned (OpenSpec.ofChange modePlaysWrong)

/-- 'empennagelaw15.ModeStays': WHATEVER THE INPUT: true; the input reads as it did. -/
def modeStaysSpec : ChangeSpec := { name := "modeStays", fn := fun _ => fun
  | [d1, d2] => { results := [.lit (.bool true)], args := [d1, d2] }
  | _ => none }
def modeStaysRow : OpenClaim := { program := "ytfnhjendplgidaa", sum := "a449cb6b8a6aad74f82d6b0bc76b9ea2a199fcf8d73afcad7b01b58dd5173859", func := "empennage/empennagelaw15.ModeStays", spec := "modeStays", apart := false }
def ModeStaysSaid : Prop := modeStaysRow.holds Try.pinned (OpenSpec.ofChange modeStaysSpec)

/-- ITS FALSE NEIGHBOUR: 'it returns false'. Refute it at one input. -/
def modeStaysWrong : ChangeSpec := { name := "modeStays", fn := fun _ => fun
  | [d1, d2] => { results := [.lit (.bool false)], args := [d1, d2] }
  | _ => none }
def ModeStaysWrongFalsely : Prop := modeStaysRow.holds Try.pinned (OpenSpec.ofChange modeStaysWrong)

/-- 'empennagelaw15.ModeRounds': WHATEVER THE INPUT: true; the input reads as it did. -/
def modeRoundsSpec : ChangeSpec := { name := "modeRounds", fn := fun _ => fun
  | [d1, d2, d3] => { results := [.lit (.bool true)], args := [d1, d2, d3] }
  | _ => none }
def modeRoundsRow : OpenClaim := { program := "ytfnhjendplgidaa", sum := "a449cb6b8a6aad74f82d6b0bc76b9ea2a199fcf8d73afcad7b01b58dd5173859", func := "empennage/empennagelaw15.ModeRounds", spec := "modeRounds", apart := false }
def ModeRoundsSaid : Prop := modeRoundsRow.holds Try.pinned (OpenSpec.ofChange modeRoundsSpec)

/-- ITS FALSE NEIGHBOUR: 'it returns false'. Refute it at one input. -/
def modeRoundsWrong : ChangeSpec := { name := "modeRounds", fn := fun _ => fun
  | [d1, d2, d3] => { results := [.lit (.bool false)], args := [d1, d2, d3] }
  | _ => none }
def ModeRoundsWrongFalsely : Prop := modeRoundsRow.holds Try.pinned (OpenSpec.ofChange modeRoundsWrong)

/- THE SECOND FORM. 'bulk': how many values and letters a reading holds, each counted each time it is reached (what is shared counts as often as it is met; a slice's spare places count too). A statement '..UptoSaid' is the law's where the arguments, and the package variables that the reading takes, are together of bulk at most 1048576: NARROWER than '..Said'. Prove '..Said' where nothing that the law and all that it calls make is longer than what came in: it says more and counts as full. Else prove '..UptoSaid'. A law counts once. -/
mutual
def uptoBulk {H : Type} : DataW H → Nat
  | .lit (.string bytes) => bytes.length + 1
  | .lit _ => 1
  | .nil => 1
  | .ptr d => uptoBulk d + 1
  | .slice elems spare => uptoBulkAll elems + uptoBulkAll spare + 1
  | .agg parts => uptoBulkAll parts + 1
  | .iface _ d => uptoBulk d + 1
  | .map entries => uptoBulkEntries entries + 1
  | .held _ => 1
def uptoBulkAll {H : Type} : List (DataW H) → Nat
  | [] => 0
  | d :: r => uptoBulk d + uptoBulkAll r
def uptoBulkEntries {H : Type} : List (Lit × DataW H) → Nat
  | [] => 0
  | x :: r => uptoBulkEntry x + uptoBulkEntries r
def uptoBulkEntry {H : Type} : Lit × DataW H → Nat
  | (.string bytes, d) => bytes.length + uptoBulk d + 1
  | (_, d) => uptoBulk d + 1
 end
def uptoSmall : (H : Type) → List (DataW H) → Bool := fun _ ds => decide (uptoBulkAll ds ≤ 1048576)
def OpenSpec.upto (s : _root_.Go.ChangeSpec) : _root_.Go.OpenSpec := { _root_.Go.OpenSpec.ofChange s with cond := some uptoSmall }

/-- 'empennagelaw15.ModeActions', WHERE WHAT IT READS IS OF BULK AT MOST 1048576: true; the input reads as it did. -/
def modeActionsUptoRow : OpenClaim := { program := "ytfnhjendplgidaa", sum := "a449cb6b8a6aad74f82d6b0bc76b9ea2a199fcf8d73afcad7b01b58dd5173859", func := "empennage/empennagelaw15.ModeActions", spec := "modeActions", apart := false, narrowed := true }
def ModeActionsUptoSaid : Prop := modeActionsUptoRow.holds Try.pinned (OpenSpec.upto modeActionsSpec)

/-- 'empennagelaw15.ModePlays', WHERE WHAT IT READS IS OF BULK AT MOST 1048576: true; the input reads as it did. -/
def modePlaysUptoRow : OpenClaim := { program := "ytfnhjendplgidaa", sum := "a449cb6b8a6aad74f82d6b0bc76b9ea2a199fcf8d73afcad7b01b58dd5173859", func := "empennage/empennagelaw15.ModePlays", spec := "modePlays", apart := false, narrowed := true }
def ModePlaysUptoSaid : Prop := modePlaysUptoRow.holds Try.pinned (OpenSpec.upto modePlaysSpec)

/-- 'empennagelaw15.ModeStays', WHERE WHAT IT READS IS OF BULK AT MOST 1048576: true; the input reads as it did. -/
def modeStaysUptoRow : OpenClaim := { program := "ytfnhjendplgidaa", sum := "a449cb6b8a6aad74f82d6b0bc76b9ea2a199fcf8d73afcad7b01b58dd5173859", func := "empennage/empennagelaw15.ModeStays", spec := "modeStays", apart := false, narrowed := true }
def ModeStaysUptoSaid : Prop := modeStaysUptoRow.holds Try.pinned (OpenSpec.upto modeStaysSpec)

/-- 'empennagelaw15.ModeRounds', WHERE WHAT IT READS IS OF BULK AT MOST 1048576: true; the input reads as it did. -/
def modeRoundsUptoRow : OpenClaim := { program := "ytfnhjendplgidaa", sum := "a449cb6b8a6aad74f82d6b0bc76b9ea2a199fcf8d73afcad7b01b58dd5173859", func := "empennage/empennagelaw15.ModeRounds", spec := "modeRounds", apart := false, narrowed := true }
def ModeRoundsUptoSaid : Prop := modeRoundsUptoRow.holds Try.pinned (OpenSpec.upto modeRoundsSpec)

end Rows
end Go.Proofs.Ytfnhjendplgidaa
