/- Taints that are right, plainly. -/
import Derived.Test.YtiiiipdnodgkmaaWrdLt
namespace Go.Proofs.Ytiiiipdnodgkmaa.Lt
open Go Go.VI
set_option linter.unusedVariables false
set_option linter.unusedSimpArgs false
set_option maxRecDepth 100000

def twin (v y : ByteArray × ByteArray × Int) : Bool := decide (y.1 = v.1) && decide (y.2.2 = v.2.2)
def okTai (N : Nat) (l : Taints) (i : Nat) : Bool := match l[i]? with
  | some v => ((wordB N v.1 && maybeB N v.2.1) && decide (1 ≤ v.2.2 ∧ v.2.2 ≤ 3)) && (l.take i).all (fun y => !twin v y)
  | none => false
def rightT (N : Nat) (l : Taints) : Bool := decide (l.length ≤ 16) && allN (okTai N l) 0 l.length
end Go.Proofs.Ytiiiipdnodgkmaa.Lt
