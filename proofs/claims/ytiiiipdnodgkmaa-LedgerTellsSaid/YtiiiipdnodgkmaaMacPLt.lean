/- spec.RightMachine. -/
import Derived.Test.YtiiiipdnodgkmaaMacSLt
import Derived.Test.YtiiiipdnodgkmaaLabPLt
import Derived.Test.YtiiiipdnodgkmaaTaiPLt
import Derived.Test.YtiiiipdnodgkmaaResPLt
namespace Go.Proofs.Ytiiiipdnodgkmaa.Lt
open Go Go.VI
set_option linter.unusedVariables false
set_option linter.unusedSimpArgs false
set_option maxRecDepth 100000

theorem spec_maybe_is {N : Nat} (hN : Big N) {s : ByteArray} (hs : okS s) : G_spec_maybe N (s, ()) = some (maybeB N s, ()) := by
  unfold G_spec_maybe S_spec_maybe maybeB
  simp only [lex_Word_is hN hs, Option.bind_some]
  by_cases h : s = nameless <;> simp [h, br]
theorem spec_RightMachine_is (N : Nat) (hN : Big N) {m : Mach} (hm : okM m) : G_spec_RightMachine N (m, ()) = some (rightM N m, ()) := by
  obtain ⟨h1, h2, h3, h4⟩ := hm
  unfold G_spec_RightMachine S_spec_RightMachine rightM
  simp only [spec_maybe_is hN h1, spec_maybe_is hN h2, res_Right_is, labels_Right_is N hN h3, taints_Right_is N hN h4, Option.bind_some]
  exact and5
end Go.Proofs.Ytiiiipdnodgkmaa.Lt
