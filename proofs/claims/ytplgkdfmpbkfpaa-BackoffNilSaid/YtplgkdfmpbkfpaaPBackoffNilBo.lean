/- BackoffNil: what the law computes is true. -/
import Derived.Test.YtplgkdfmpbkfpaaGBo
import Derived.Test.YtplgkdfmpbkfpaaVIz
namespace Go.Proofs.Ytplgkdfmpbkfpaa.Bo
open Go Go.VI
set_option linter.unusedVariables false
set_option maxRecDepth 100000

theorem known_is (m : Nat) : G_law24_known (m + 300) () = some (true, ()) := by kernel_rfl

theorem pureBackoffNil (x : ByteArray × Int × Unit) (hw : Ty.wf .str x.1 ∧ Ty.wf (.int .i64) x.2.1 ∧ True) : ∃ N, G_law24_BackoffNil N x = some (true, ()) := by
  obtain ⟨s, n, ⟨⟩⟩ := x
  refine ⟨281474976710656 + 300, ?_⟩
  have hk := known_is 281474976710656
  unfold G_law24_BackoffNil S_law24_BackoffNil
  generalize 281474976710656 + 300 = N at *
  simp only [hk, Option.bind_some]
  by_cases h : (300 : Int) < ((s.size : Nat) : Int)
  · rw [decide_eq_true h]; rfl
  · rw [decide_eq_false h]; rfl
end Go.Proofs.Ytplgkdfmpbkfpaa.Bo
