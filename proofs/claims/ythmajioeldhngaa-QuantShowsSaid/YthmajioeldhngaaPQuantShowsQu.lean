/- QuantShows: what the law computes is true. -/
import Derived.Test.YthmajioeldhngaaQntFQu
namespace Go.Proofs.Ythmajioeldhngaa.Qu
open Go Go.VI
set_option linter.unusedVariables false
set_option linter.unusedSimpArgs false
set_option maxRecDepth 100000

theorem known_is (m : Nat) : G_law03_known (m + 300) () = some (true, ()) := by kernel_rfl
theorem pureQuantShows (x : Int × Unit) (hw : Ty.wf (.int .i64) x.1 ∧ True) : ∃ N, G_law03_QuantShows N x = some (true, ()) := by
  obtain ⟨n, ⟨⟩⟩ := x
  clear hw
  refine ⟨281474976710656 + 300, ?_⟩
  have hk := known_is 281474976710656
  have hN := big
  generalize 281474976710656 + 300 = N at *
  unfold G_law03_QuantShows S_law03_QuantShows
  simp only [quant_Show_is N hN, ref03_Show_is N hN, quant_ShowMilli_is N hN, ref03_ShowMilli_is N hN, hk, Option.bind_some, decide_true, br_true]
end Go.Proofs.Ythmajioeldhngaa.Qu
