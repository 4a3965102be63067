/- The document: machines that are right. -/
import Derived.Test.YtiiiipdnodgkmaaMacSLt
import Derived.Test.YtiiiipdnodgkmaaLabFLt
import Derived.Test.YtiiiipdnodgkmaaTaiFLt
import Derived.Test.YtiiiipdnodgkmaaResFLt
namespace Go.Proofs.Ytiiiipdnodgkmaa.Lt
open Go Go.VI
set_option linter.unusedVariables false
set_option linter.unusedSimpArgs false
set_option maxRecDepth 100000

theorem ref07_maybe_is {N : Nat} (hN : Big N) {s : ByteArray} (hs : okS s) : G_ref07_maybe N (s, ()) = some (maybeB N s, ()) := by
  unfold G_ref07_maybe S_ref07_maybe maybeB
  simp only [ref01_Word_is hN hs, Option.bind_some]
  by_cases h : s = nameless <;> simp [h, br]

theorem ref07_RightMachine_is (N : Nat) (hN : Big N) {m : Mach} (hm : okM m) : G_ref07_RightMachine N (m, ()) = some (rightM N m, ()) := by
  obtain ⟨h1, h2, h3, h4⟩ := hm
  unfold G_ref07_RightMachine S_ref07_RightMachine rightM
  simp only [ref07_maybe_is hN h1, ref07_maybe_is hN h2, ref04_Right_is, ref05_Right_is N hN h3, ref06_Right_is N hN h4, Option.bind_some]
  exact and5

end Go.Proofs.Ytiiiipdnodgkmaa.Lt
