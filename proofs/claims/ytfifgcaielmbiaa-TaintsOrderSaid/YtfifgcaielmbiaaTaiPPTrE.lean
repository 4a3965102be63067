/- taints.Prefers. -/
import Derived.Test.YtfifgcaielmbiaaTaiUPTrE
namespace Go.Proofs.Ytfifgcaielmbiaa.TrE
open Go Go.VI
set_option linter.unusedVariables false
set_option linter.unusedSimpArgs false
set_option maxRecDepth 100000

theorem taints_Prefers_is (N : Nat) (hN : Big N) {l : List Tol} {xs : List Tai} (hl : l.length ≤ 1000000) (hx : xs.length ≤ 1000000) : G_taints_Prefers N (l, xs, ()) = some ((((xs.filter (unbB l 2)).length : Nat) : Int), ()) := by
  unfold G_taints_Prefers S_taints_Prefers
  simp only [taints_Unborne_is N hN hl hx, Option.bind_some]
end Go.Proofs.Ytfifgcaielmbiaa.TrE
