/- LedgerNil: what the law computes is true. -/
import Derived.Test.YtiiiipdnodgkmaaGLj
import Derived.Test.YtiiiipdnodgkmaaVIC
namespace Go.Proofs.Ytiiiipdnodgkmaa.Lj
open Go Go.VI
set_option linter.unusedVariables false
set_option maxRecDepth 100000

theorem known35_is (m : Nat) : G_law35_known (m + 300) () = some (true, ()) := by kernel_rfl
theorem pureLedgerNil (x : ByteArray × Unit) (hw : Ty.wf .str x.1 ∧ True) : ∃ N, G_law35_LedgerNil N x = some (true, ()) := by
  refine ⟨0 + 300, ?_⟩
  unfold G_law35_LedgerNil S_law35_LedgerNil
  rw [known35_is]
  cases decide ((300 : Int) < (((ByteArray.size x.1) : Nat) : Int)) <;> rfl
end Go.Proofs.Ytiiiipdnodgkmaa.Lj
