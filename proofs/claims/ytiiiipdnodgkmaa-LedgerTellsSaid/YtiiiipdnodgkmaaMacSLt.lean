/- Machines that are right, plainly. -/
import Derived.Test.YtiiiipdnodgkmaaLabSLt
import Derived.Test.YtiiiipdnodgkmaaTaiSLt
import Derived.Test.YtiiiipdnodgkmaaResSLt
namespace Go.Proofs.Ytiiiipdnodgkmaa.Lt
open Go Go.VI
set_option linter.unusedVariables false
set_option linter.unusedSimpArgs false
set_option maxRecDepth 100000

def rightM (N : Nat) (m : Mach) : Bool := maybeB N m.1 && (maybeB N m.2.1 && (resB m.2.2.1 && (rightL N m.2.2.2.1 && rightT N m.2.2.2.2.1)))
theorem and5 {a b c d e : Bool} : VI.br a (VI.br b (VI.br c (VI.br d (some (e, ())) (some (false, ()))) (some (false, ()))) (some (false, ()))) (some (false, ())) = some (a && (b && (c && (d && e))), ()) := by
  cases a <;> cases b <;> cases c <;> cases d <;> rfl
end Go.Proofs.Ytiiiipdnodgkmaa.Lt
