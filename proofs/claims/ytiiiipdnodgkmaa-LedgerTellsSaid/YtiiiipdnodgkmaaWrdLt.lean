/- Words: the function and the document tell the same. -/
import Derived.Test.YtiiiipdnodgkmaaBaseLt
import Derived.Test.YtiiiipdnodgkmaaWordLt
namespace Go.Proofs.Ytiiiipdnodgkmaa.Lt
open Go Go.VI
set_option linter.unusedVariables false
set_option linter.unusedSimpArgs false
set_option maxRecDepth 100000

def wordB (N : Nat) (s : ByteArray) : Bool := match G_lex_Word N (s, ()) with
  | some v => v.1
  | none => false
theorem lex_Word_is {N : Nat} (hN : Big N) {s : ByteArray} (hs : okS s) : G_lex_Word N (s, ()) = some (wordB N s, ()) := by
  unfold Big at hN; unfold okS at hs
  obtain ⟨b, h1, h2⟩ := Word_is N s (by omega) (by omega)
  unfold wordB; rw [h1]
theorem ref01_Word_is {N : Nat} (hN : Big N) {s : ByteArray} (hs : okS s) : G_ref01_Word N (s, ()) = some (wordB N s, ()) := by
  unfold Big at hN; unfold okS at hs
  obtain ⟨b, h1, h2⟩ := Word_is N s (by omega) (by omega)
  unfold wordB; rw [h1]; exact h2
def maybeB (N : Nat) (s : ByteArray) : Bool := decide (s = nameless) || wordB N s

end Go.Proofs.Ytiiiipdnodgkmaa.Lt
