/-
  No cell of these rows narrows 'for every input' (looked for: loops, veiled, ifaces, maps, wideKeys, modest, calm, conditions, laid).
  DERIVED. THE GIVEN ROWS OF THIS SEAT. 5 by the template 'for every input the law returns true; each argument reads behind the call as it read before'; 0 by the template 'total and deterministic' (their statements: YtnlmkllhmldgiaaTotals.lean).
  GIVEN WITH THE SEED: the statements are not yours to turn. If you find one false, say at which input.
  Laid BY PROGRAM, IN A SANDBOX (cutbox-rows.mjs): the forced cells as the released guide's own fill.sh prints them over the translation 676ba4e65d43e140… (all of the seat's roots in one cut). By AI agents, Wed Nov 11 2026. No macro, syntax, notation, axiom, sorry.
-/
import Derived.Test.YtnlmkllhmldgiaaChecked
import GoSem.Claim
import GoSem.ClaimJoined
import GoSem.ClaimMapViews
import Derived.JoinedTies
import Derived.KernelRfl
namespace Go.Proofs.Ytnlmkllhmldgiaa
/- THE CELL 'sum', in the pinned program and in every row, IS THE sha256 OF THE DUMP (.gsa) THAT YtnlmkllhmldgiaaProg.lean LOADS. Nothing in Lean hashes anything: it is a label: what it is worth is what the hold of that sum in a sandbox is worth. -/
noncomputable def Try.pinned : Pinned := { name := "ytnlmkllhmldgiaa", sum := "676ba4e65d43e140c1cdddf907728dec1b286d7b1cee57d97e947bcabbe1141a", checked := Try.checked }
namespace Rows
def none {H : Type} : Left H := { results := [], args := [] }

/-- 'empennagelaw18.QueueTimes': WHATEVER THE INPUT: true; the input reads as it did. -/
def queueTimesSpec : ChangeSpec := { name := "queueTimes", fn := fun _ => fun
  | [d1, d2] => { results := [.lit (.bool true)], args := [d1, d2] }
  | _ => none }
def queueTimesRow : OpenClaim := { program := "ytnlmkllhmldgiaa", sum := "676ba4e65d43e140c1cdddf907728dec1b286d7b1cee57d97e947bcabbe1141a", func := "empennage/empennagelaw18.QueueTimes", spec := "queueTimes", unfollowed := true, recurses := true, apart := false }
def QueueTimesSaid : Prop := queueTimesRow.holds Try.pinned (OpenSpec.ofChange queueTimesSpec)

/-- ITS FALSE NEIGHBOUR: 'it returns false'. Refute it at one input. -/
def queueTimesWrong : ChangeSpec := { name := "queueTimes", fn := fun _ => fun
  | [d1, d2] => { results := [.lit (.bool false)], args := [d1, d2] }
  | _ => none }
def QueueTimesWrongFalsely : Prop := queueTimesRow.holds Try.pinned (OpenSpec.ofChange queueTimesWrong)

/-- 'empennagelaw18.QueueHolds': WHATEVER THE INPUT: true; the input reads as it did. -/
def queueHoldsSpec : ChangeSpec := { name := "queueHolds", fn := fun _ => fun
  | [d1, d2] => { results := [.lit (.bool true)], args := [d1, d2] }
  | _ => none }
def queueHoldsRow : OpenClaim := { program := "ytnlmkllhmldgiaa", sum := "676ba4e65d43e140c1cdddf907728dec1b286d7b1cee57d97e947bcabbe1141a", func := "empennage/empennagelaw18.QueueHolds", spec := "queueHolds", unfollowed := true, recurses := true, apart := false }
def QueueHoldsSaid : Prop := queueHoldsRow.holds Try.pinned (OpenSpec.ofChange queueHoldsSpec)

/-- ITS FALSE NEIGHBOUR: 'it returns false'. Refute it at one input. -/
def queueHoldsWrong : ChangeSpec := { name := "queueHolds", fn := fun _ => fun
  | [d1, d2] => { results := [.lit (.bool false)], args := [d1, d2] }
  | _ => none }
def QueueHoldsWrongFalsely : Prop := queueHoldsRow.holds Try.pinned (OpenSpec.ofChange queueHoldsWrong)

/-- 'empennagelaw18.QueueFlushes': WHATEVER THE INPUT: true; the input reads as it did. -/
def queueFlushesSpec : ChangeSpec := { name := "queueFlushes", fn := fun _ => fun
  | [d1, d2, d3] => { results := [.lit (.bool true)], args := [d1, d2, d3] }
  | _ => none }
def queueFlushesRow : OpenClaim := { program := "ytnlmkllhmldgiaa", sum := "676ba4e65d43e140c1cdddf907728dec1b286d7b1cee57d97e947bcabbe1141a", func := "empennage/empennagelaw18.QueueFlushes", spec := "queueFlushes", unfollowed := true, recurses := true, apart := false }
def QueueFlushesSaid : Prop := queueFlushesRow.holds Try.pinned (OpenSpec.ofChange queueFlushesSpec)

/-- ITS FALSE NEIGHBOUR: 'it returns false'. Refute it at one input. -/
def queueFlushesWrong : ChangeSpec := { name := "queueFlushes", fn := fun _ => fun
  | [d1, d2, d3] => { results := [.lit (.bool false)], args := [d1, d2, d3] }
  | _ => none }
def QueueFlushesWrongFalsely : Prop := queueFlushesRow.holds Try.pinned (OpenSpec.ofChange queueFlushesWrong)

/-- 'empennagelaw18.QueuePlays': WHATEVER THE INPUT: true; the input reads as it did. -/
def queuePlaysSpec : ChangeSpec := { name := "queuePlays", fn := fun _ => fun
  | [d1, d2] => { results := [.lit (.bool true)], args := [d1, d2] }
  | _ => none }
def queuePlaysRow : OpenClaim := { program := "ytnlmkllhmldgiaa", sum := "676ba4e65d43e140c1cdddf907728dec1b286d7b1cee57d97e947bcabbe1141a", func := "empennage/empennagelaw18.QueuePlays", spec := "queuePlays", unfollowed := true, recurses := true, apart := false }
def QueuePlaysSaid : Prop := queuePlaysRow.holds Try.pinned (OpenSpec.ofChange queuePlaysSpec)

/-- ITS FALSE NEIGHBOUR: 'it returns false'. Refute it at one input. -/
def queuePlaysWrong : ChangeSpec := { name := "queuePlays", fn := fun _ => fun
  | [d1, d2] => { results := [.lit (.bool false)], args := [d1, d2] }
  | _ => none }
def QueuePlaysWrongFalsely : Prop := queuePlaysRow.holds Try.pinned (OpenSpec.ofChange queuePlaysWrong)

/-- 'empennagelaw18.QueueNil': WHATEVER THE INPUT: true; the input reads as it did. -/
def queueNilSpec : ChangeSpec := { name := "queueNil", fn := fun _ => fun
  | [d] => { results := [.lit (.bool true)], args := [d] }
  | _ => none }
def queueNilRow : OpenClaim := { program := "ytnlmkllhmldgiaa", sum := "676ba4e65d43e140c1cdddf907728dec1b286d7b1cee57d97e947bcabbe1141a", func := "empennage/empennagelaw18.QueueNil", spec := "queueNil", unfollowed := true, recurses := true, apart := false }
def QueueNilSaid : Prop := queueNilRow.holds Try.pinned (OpenSpec.ofChange queueNilSpec)

/-- ITS FALSE NEIGHBOUR: 'it returns false'. Refute it at one input. -/
def queueNilWrong : ChangeSpec := { name := "queueNil", fn := fun _ => fun
  | [d] => { results := [.lit (.bool false)], args := [d] }
  | _ => none }
def QueueNilWrongFalsely : Prop := queueNilRow.holds Try.pinned (OpenSpec.ofChange queueNilWrong)

/- THE SECOND FORM. 'bulk': how many values and letters a reading holds, each counted each time it is reached (what is shared counts as often as it is met; a slice's spare places count too). A statement '..UptoSaid' is the law's where the arguments, and the package variables that the reading takes, are together of bulk at most 1048576: NARROWER than '..Said'. Prove '..Said' where nothing that the law and all that it calls make is longer than what came in: it says more and counts as full. Else prove '..UptoSaid'. A law counts once. -/
mutual
def uptoBulk {H : Type} : DataW H → Nat
  | .lit (.string bytes) => bytes.length + 1
  | .lit _ => 1
  | .nil => 1
  | .ptr d => uptoBulk d + 1
  | .slice elems spare => uptoBulkAll elems + uptoBulkAll spare + 1
  | .agg parts => uptoBulkAll parts + 1
  | .iface _ d => uptoBulk d + 1
  | .map entries => uptoBulkEntries entries + 1
  | .held _ => 1
def uptoBulkAll {H : Type} : List (DataW H) → Nat
  | [] => 0
  | d :: r => uptoBulk d + uptoBulkAll r
def uptoBulkEntries {H : Type} : List (Lit × DataW H) → Nat
  | [] => 0
  | x :: r => uptoBulkEntry x + uptoBulkEntries r
def uptoBulkEntry {H : Type} : Lit × DataW H → Nat
  | (.string bytes, d) => bytes.length + uptoBulk d + 1
  | (_, d) => uptoBulk d + 1
 end
def uptoSmall : (H : Type) → List (DataW H) → Bool := fun _ ds => decide (uptoBulkAll ds ≤ 1048576)
def OpenSpec.upto (s : _root_.Go.ChangeSpec) : _root_.Go.OpenSpec := { _root_.Go.OpenSpec.ofChange s with cond := some uptoSmall }

/-- 'empennagelaw18.QueueTimes', WHERE WHAT IT READS IS OF BULK AT MOST 1048576: true; the input reads as it did. -/
def queueTimesUptoRow : OpenClaim := { program := "ytnlmkllhmldgiaa", sum := "676ba4e65d43e140c1cdddf907728dec1b286d7b1cee57d97e947bcabbe1141a", func := "empennage/empennagelaw18.QueueTimes", spec := "queueTimes", unfollowed := true, recurses := true, apart := false, narrowed := true }
def QueueTimesUptoSaid : Prop := queueTimesUptoRow.holds Try.pinned (OpenSpec.upto queueTimesSpec)

/-- 'empennagelaw18.QueueHolds', WHERE WHAT IT READS IS OF BULK AT MOST 1048576: true; the input reads as it did. -/
def queueHoldsUptoRow : OpenClaim := { program := "ytnlmkllhmldgiaa", sum := "676ba4e65d43e140c1cdddf907728dec1b286d7b1cee57d97e947bcabbe1141a", func := "empennage/empennagelaw18.QueueHolds", spec := "queueHolds", unfollowed := true, recurses := true, apart := false, narrowed := true }
def QueueHoldsUptoSaid : Prop := queueHoldsUptoRow.holds Try.pinned (OpenSpec.upto queueHoldsSpec)

/-- 'empennagelaw18.QueueFlushes', WHERE WHAT IT READS IS OF BULK AT MOST 1048576: true; the input reads as it did. -/
def queueFlushesUptoRow : OpenClaim := { program := "ytnlmkllhmldgiaa", sum := "676ba4e65d43e140c1cdddf907728dec1b286d7b1cee57d97e947bcabbe1141a", func := "empennage/empennagelaw18.QueueFlushes", spec := "queueFlushes", unfollowed := true, recurses := true, apart := false, narrowed := true }
def QueueFlushesUptoSaid : Prop := queueFlushesUptoRow.holds Try.pinned (OpenSpec.upto queueFlushesSpec)

/-- 'empennagelaw18.QueuePlays', WHERE WHAT IT READS IS OF BULK AT MOST 1048576: true; the input reads as it did. -/
def queuePlaysUptoRow : OpenClaim := { program := "ytnlmkllhmldgiaa", sum := "676ba4e65d43e140c1cdddf907728dec1b286d7b1cee57d97e947bcabbe1141a", func := "empennage/empennagelaw18.QueuePlays", spec := "queuePlays", unfollowed := true, recurses := true, apart := false, narrowed := true }
def QueuePlaysUptoSaid : Prop := queuePlaysUptoRow.holds Try.pinned (OpenSpec.upto queuePlaysSpec)

/-- 'empennagelaw18.QueueNil', WHERE WHAT IT READS IS OF BULK AT MOST 1048576: true; the input reads as it did. -/
def queueNilUptoRow : OpenClaim := { program := "ytnlmkllhmldgiaa", sum := "676ba4e65d43e140c1cdddf907728dec1b286d7b1cee57d97e947bcabbe1141a", func := "empennage/empennagelaw18.QueueNil", spec := "queueNil", unfollowed := true, recurses := true, apart := false, narrowed := true }
def QueueNilUptoSaid : Prop := queueNilUptoRow.holds Try.pinned (OpenSpec.upto queueNilSpec)

end Rows
end Go.Proofs.Ytnlmkllhmldgiaa
