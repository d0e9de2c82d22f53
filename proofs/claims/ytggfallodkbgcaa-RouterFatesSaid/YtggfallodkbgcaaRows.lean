/-
  No cell of these rows narrows 'for every input' (looked for: loops, veiled, ifaces, maps, wideKeys, modest, calm, conditions, laid).
  DERIVED. THE GIVEN ROWS OF THIS SEAT. 4 by the template 'for every input the law returns true; each argument reads behind the call as it read before'; 0 by the template 'total and deterministic' (their statements: YtggfallodkbgcaaTotals.lean).
  GIVEN WITH THE SEED: the statements are not yours to turn. If you find one false, say at which input.
  Laid BY PROGRAM, IN A SANDBOX (cutbox-rows.mjs): the forced cells as the released guide's own fill.sh prints them over the translation b737db37b19e8863… (all of the seat's roots in one cut). By AI agents, Wed Nov 11 2026. No macro, syntax, notation, axiom, sorry.
-/
import Derived.Test.YtggfallodkbgcaaChecked
import GoSem.Claim
import GoSem.ClaimJoined
import GoSem.ClaimMapViews
import Derived.JoinedTies
import Derived.KernelRfl
namespace Go.Proofs.Ytggfallodkbgcaa
/- THE CELL 'sum', in the pinned program and in every row, IS THE sha256 OF THE DUMP (.gsa) THAT YtggfallodkbgcaaProg.lean LOADS. Nothing in Lean hashes anything: it is a label: what it is worth is what the hold of that sum in a sandbox is worth. -/
noncomputable def Try.pinned : Pinned := { name := "ytggfallodkbgcaa", sum := "b737db37b19e88639f26eece48bcf026d6b5e6876f9b4e1f749c7cc1ba44aec4", checked := Try.checked }
namespace Rows
def none {H : Type} : Left H := { results := [], args := [] }

/-- 'empennagelaw19.RouterLanes': WHATEVER THE INPUT: true; the input reads as it did. -/
def routerLanesSpec : ChangeSpec := { name := "routerLanes", fn := fun _ => fun
  | [d1, d2] => { results := [.lit (.bool true)], args := [d1, d2] }
  | _ => none }
def routerLanesRow : OpenClaim := { program := "ytggfallodkbgcaa", sum := "b737db37b19e88639f26eece48bcf026d6b5e6876f9b4e1f749c7cc1ba44aec4", func := "empennage/empennagelaw19.RouterLanes", spec := "routerLanes", unfollowed := true, recurses := true, apart := false }
def RouterLanesSaid : Prop := routerLanesRow.holds Try.pinned (OpenSpec.ofChange routerLanesSpec)

/-- ITS FALSE NEIGHBOUR: 'it returns false'. Refute it at one input. -/
def routerLanesWrong : ChangeSpec := { name := "routerLanes", fn := fun _ => fun
  | [d1, d2] => { results := [.lit (.bool false)], args := [d1, d2] }
  | _ => none }
def RouterLanesWrongFalsely : Prop := routerLanesRow.holds Try.pinned (OpenSpec.ofChange routerLanesWrong)

/-- 'empennagelaw19.RouterNil': WHATEVER THE INPUT: true; the input reads as it did. -/
def routerNilSpec : ChangeSpec := { name := "routerNil", fn := fun _ => fun
  | [d1, d2] => { results := [.lit (.bool true)], args := [d1, d2] }
  | _ => none }
def routerNilRow : OpenClaim := { program := "ytggfallodkbgcaa", sum := "b737db37b19e88639f26eece48bcf026d6b5e6876f9b4e1f749c7cc1ba44aec4", func := "empennage/empennagelaw19.RouterNil", spec := "routerNil", unfollowed := true, recurses := true, apart := false }
def RouterNilSaid : Prop := routerNilRow.holds Try.pinned (OpenSpec.ofChange routerNilSpec)

/-- ITS FALSE NEIGHBOUR: 'it returns false'. Refute it at one input. -/
def routerNilWrong : ChangeSpec := { name := "routerNil", fn := fun _ => fun
  | [d1, d2] => { results := [.lit (.bool false)], args := [d1, d2] }
  | _ => none }
def RouterNilWrongFalsely : Prop := routerNilRow.holds Try.pinned (OpenSpec.ofChange routerNilWrong)

/-- 'empennagelaw19.RouterFits': WHATEVER THE INPUT: true; the input reads as it did. -/
def routerFitsSpec : ChangeSpec := { name := "routerFits", fn := fun _ => fun
  | [d1, d2, d3] => { results := [.lit (.bool true)], args := [d1, d2, d3] }
  | _ => none }
def routerFitsRow : OpenClaim := { program := "ytggfallodkbgcaa", sum := "b737db37b19e88639f26eece48bcf026d6b5e6876f9b4e1f749c7cc1ba44aec4", func := "empennage/empennagelaw19.RouterFits", spec := "routerFits", unfollowed := true, recurses := true, apart := false }
def RouterFitsSaid : Prop := routerFitsRow.holds Try.pinned (OpenSpec.ofChange routerFitsSpec)

/-- ITS FALSE NEIGHBOUR: 'it returns false'. Refute it at one input. -/
def routerFitsWrong : ChangeSpec := { name := "routerFits", fn := fun _ => fun
  | [d1, d2, d3] => { results := [.lit (.bool false)], args := [d1, d2, d3] }
  | _ => none }
def RouterFitsWrongFalsely : Prop := routerFitsRow.holds Try.pinned (OpenSpec.ofChange routerFitsWrong)

/-- 'empennagelaw19.RouterFates': WHATEVER THE INPUT: true; the input reads as it did. -/
def routerFatesSpec : ChangeSpec := { name := "routerFates", fn := fun _ => fun
  | [d1, d2] => { results := [.lit (.bool true)], args := [d1, d2] }
  | _ => none }
def routerFatesRow : OpenClaim := { program := "ytggfallodkbgcaa", sum := "b737db37b19e88639f26eece48bcf026d6b5e6876f9b4e1f749c7cc1ba44aec4", func := "empennage/empennagelaw19.RouterFates", spec := "routerFates", unfollowed := true, recurses := true, apart := false }
def RouterFatesSaid : Prop := routerFatesRow.holds Try.pinned (OpenSpec.ofChange routerFatesSpec)

/-- ITS FALSE NEIGHBOUR: 'it returns false'. Refute it at one input. -/
def routerFatesWrong : ChangeSpec := { name := "routerFates", fn := fun _ => fun
  | [d1, d2] => { results := [.lit (.bool false)], args := [d1, d2] }
  | _ => none }
def RouterFatesWrongFalsely : Prop := routerFatesRow.holds Try.pinned (OpenSpec.ofChange routerFatesWrong)

/- THE SECOND FORM. 'bulk': how many values and letters a reading holds, each counted each time it is reached (what is shared counts as often as it is met; a slice's spare places count too). A statement '..UptoSaid' is the law's where the arguments, and the package variables that the reading takes, are together of bulk at most 1048576: NARROWER than '..Said'. Prove '..Said' where nothing that the law and all that it calls make is longer than what came in: it says more and counts as full. Else prove '..UptoSaid'. A law counts once. -/
mutual
def uptoBulk {H : Type} : DataW H → Nat
  | .lit (.string bytes) => bytes.length + 1
  | .lit _ => 1
  | .nil => 1
  | .ptr d => uptoBulk d + 1
  | .slice elems spare => uptoBulkAll elems + uptoBulkAll spare + 1
  | .agg parts => uptoBulkAll parts + 1
  | .iface _ d => uptoBulk d + 1
  | .map entries => uptoBulkEntries entries + 1
  | .held _ => 1
def uptoBulkAll {H : Type} : List (DataW H) → Nat
  | [] => 0
  | d :: r => uptoBulk d + uptoBulkAll r
def uptoBulkEntries {H : Type} : List (Lit × DataW H) → Nat
  | [] => 0
  | x :: r => uptoBulkEntry x + uptoBulkEntries r
def uptoBulkEntry {H : Type} : Lit × DataW H → Nat
  | (.string bytes, d) => bytes.length + uptoBulk d + 1
  | (_, d) => uptoBulk d + 1
 end
def uptoSmall : (H : Type) → List (DataW H) → Bool := fun _ ds => decide (uptoBulkAll ds ≤ 1048576)
def OpenSpec.upto (s : _root_.Go.ChangeSpec) : _root_.Go.OpenSpec := { _root_.Go.OpenSpec.ofChange s with cond := some uptoSmall }

/-- 'empennagelaw19.RouterLanes', WHERE WHAT IT READS IS OF BULK AT MOST 1048576: true; the input reads as it did. -/
def routerLanesUptoRow : OpenClaim := { program := "ytggfallodkbgcaa", sum := "b737db37b19e88639f26eece48bcf026d6b5e6876f9b4e1f749c7cc1ba44aec4", func := "empennage/empennagelaw19.RouterLanes", spec := "routerLanes", unfollowed := true, recurses := true, apart := false, narrowed := true }
def RouterLanesUptoSaid : Prop := routerLanesUptoRow.holds Try.pinned (OpenSpec.upto routerLanesSpec)

/-- 'empennagelaw19.RouterNil', WHERE WHAT IT READS IS OF BULK AT MOST 1048576: true; the input reads as it did. -/
def routerNilUptoRow : OpenClaim := { program := "ytggfallodkbgcaa", sum := "b737db37b19e88639f26eece48bcf026d6b5e6876f9b4e1f749c7cc1ba44aec4", func := "empennage/empennagelaw19.RouterNil", spec := "routerNil", unfollowed := true, recurses := true, apart := false, narrowed := true }
def RouterNilUptoSaid : Prop := routerNilUptoRow.holds Try.pinned (OpenSpec.upto routerNilSpec)

/-- 'empennagelaw19.RouterFits', WHERE WHAT IT READS IS OF BULK AT MOST 1048576: true; the input reads as it did. -/
def routerFitsUptoRow : OpenClaim := { program := "ytggfallodkbgcaa", sum := "b737db37b19e88639f26eece48bcf026d6b5e6876f9b4e1f749c7cc1ba44aec4", func := "empennage/empennagelaw19.RouterFits", spec := "routerFits", unfollowed := true, recurses := true, apart := false, narrowed := true }
def RouterFitsUptoSaid : Prop := routerFitsUptoRow.holds Try.pinned (OpenSpec.upto routerFitsSpec)

/-- 'empennagelaw19.RouterFates', WHERE WHAT IT READS IS OF BULK AT MOST 1048576: true; the input reads as it did. -/
def routerFatesUptoRow : OpenClaim := { program := "ytggfallodkbgcaa", sum := "b737db37b19e88639f26eece48bcf026d6b5e6876f9b4e1f749c7cc1ba44aec4", func := "empennage/empennagelaw19.RouterFates", spec := "routerFates", unfollowed := true, recurses := true, apart := false, narrowed := true }
def RouterFatesUptoSaid : Prop := routerFatesUptoRow.holds Try.pinned (OpenSpec.upto routerFatesSpec)

end Rows
end Go.Proofs.Ytggfallodkbgcaa
