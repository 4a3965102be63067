/- The document: resources that are right. -/
import Derived.Test.YtiiiipdnodgkmaaResSLt
namespace Go.Proofs.Ytiiiipdnodgkmaa.Lt
open Go Go.VI
set_option linter.unusedVariables false
set_option linter.unusedSimpArgs false
set_option maxRecDepth 100000

theorem ref04_one_is (N : Nat) (n : Int) : G_ref04_one N (n, ()) = some (okB n, ()) := by
  unfold G_ref04_one S_ref04_one okB
  by_cases h : 0 ≤ n <;> simp [h, br]
theorem ref04_Right_is (N : Nat) (r : Res) : G_ref04_Right N (r, ()) = some (resB r, ()) := by
  unfold G_ref04_Right S_ref04_Right resB
  simp only [ref04_one_is, Option.bind_some]
  cases okB r.1 <;> cases okB r.2.1 <;> cases okB r.2.2.1 <;> cases okB r.2.2.2.1 <;> rfl
end Go.Proofs.Ytiiiipdnodgkmaa.Lt
