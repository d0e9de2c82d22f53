/- DERIVED. The walk over GateRates at a slice of any length. No statement is proved here. -/
import Derived.Test.YtealopempjempaaGateRates
namespace Go.Proofs.Ytealopempjempaa.Gt
set_option linter.unusedVariables false
set_option linter.unusedSimpArgs false
open Go.RowKit Go.Proofs.Ytealopempjempaa.K Go.Proofs.Ytealopempjempaa.La Go.Proofs.Ytealopempjempaa.Cf
theorem grates_r {w : World} (k : Chan) {a : Option Addr} {n c : Nat} {xs : List Int} (h : IntsAt (fun _ => True) w (.slice a n c) xs) : Calls Try.prog 6 #[aggC k, .slice a n c] w (LivesPost w) := by
  obtain rfl := h.get.1
  exact grates_c k (h.mono (fun b _ hb => hb))
end Go.Proofs.Ytealopempjempaa.Gt
