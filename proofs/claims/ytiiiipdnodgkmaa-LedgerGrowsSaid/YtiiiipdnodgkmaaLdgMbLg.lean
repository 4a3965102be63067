/- Floats: a mean of few ticks is not above the peak (2). -/
import Derived.Test.YtiiiipdnodgkmaaLdgMaLg
namespace Go.Proofs.Ytiiiipdnodgkmaa.Lg
open Go Go.VI
set_option maxRecDepth 100000
theorem le_c : allP (fun k => leT (k + 23)) 4 = true := by decide +kernel
theorem le_d : allP (fun k => leT (k + 27)) 4 = true := by decide +kernel
theorem le_all {t : Nat} (h0 : 1 ≤ t) (h1 : t ≤ 30) : leT t = true := by
  by_cases h : t < 16
  · have := allP_spec le_a (t - 1) (by omega); rwa [show t - 1 + 1 = t by omega] at this
  by_cases h : t < 23
  · have := allP_spec le_b (t - 16) (by omega); rwa [show t - 16 + 16 = t by omega] at this
  by_cases h : t < 27
  · have := allP_spec le_c (t - 23) (by omega); rwa [show t - 23 + 23 = t by omega] at this
  have := allP_spec le_d (t - 27) (by omega); rwa [show t - 27 + 27 = t by omega] at this
end Go.Proofs.Ytiiiipdnodgkmaa.Lg
