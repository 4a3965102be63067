/- Floats: a mean of few ticks is not above the peak (1). -/
import Derived.Test.YtiiiipdnodgkmaaLdgMLg
namespace Go.Proofs.Ytiiiipdnodgkmaa.Lg
open Go Go.VI
set_option maxRecDepth 100000
theorem le_a : allP (fun k => leT (k + 1)) 15 = true := by decide +kernel
theorem le_b : allP (fun k => leT (k + 16)) 7 = true := by decide +kernel
end Go.Proofs.Ytiiiipdnodgkmaa.Lg
