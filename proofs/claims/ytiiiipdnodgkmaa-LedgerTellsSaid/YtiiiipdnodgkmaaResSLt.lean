/- Resources that are right, plainly. -/
import Derived.Test.YtiiiipdnodgkmaaBaseLt
namespace Go.Proofs.Ytiiiipdnodgkmaa.Lt
open Go Go.VI
set_option linter.unusedVariables false
set_option linter.unusedSimpArgs false
set_option maxRecDepth 100000

def okB (n : Int) : Bool := decide (0 ≤ n ∧ n ≤ 1125899906842624)
def resB (r : Res) : Bool := okB r.1 && (okB r.2.1 && (okB r.2.2.1 && (okB r.2.2.2.1 && okB r.2.2.2.2)))
end Go.Proofs.Ytiiiipdnodgkmaa.Lt
