/- res.Right. -/
import Derived.Test.YtiiiipdnodgkmaaResSLt
namespace Go.Proofs.Ytiiiipdnodgkmaa.Lt
open Go Go.VI
set_option linter.unusedVariables false
set_option linter.unusedSimpArgs false
set_option maxRecDepth 100000

theorem two_br {a : Int} {x : Option (Bool × Unit)} : VI.br (decide (a < 0)) (some (false, ())) (VI.br (decide (1125899906842624 < a)) (some (false, ())) x) = VI.br (okB a) x (some (false, ())) := by
  unfold okB
  by_cases h : a < 0
  · have h' : ¬ (0 ≤ a ∧ a ≤ 1125899906842624) := by omega
    rw [decide_eq_true h, decide_eq_false h']; rfl
  · rw [decide_eq_false h, br_false]
    by_cases h' : 1125899906842624 < a
    · have h'' : ¬ (0 ≤ a ∧ a ≤ 1125899906842624) := by omega
      rw [decide_eq_true h', decide_eq_false h'']; rfl
    · have h'' : 0 ≤ a ∧ a ≤ 1125899906842624 := by omega
      rw [decide_eq_false h', decide_eq_true h'']; rfl
theorem res_Right_is (N : Nat) (r : Res) : G_res_Right N (r, ()) = some (resB r, ()) := by
  unfold G_res_Right S_res_Right resB
  simp only [G_res_row, S_res_row, Option.bind_some, two_br]
  cases okB r.1 <;> cases okB r.2.1 <;> cases okB r.2.2.1 <;> cases okB r.2.2.2.1 <;> cases okB r.2.2.2.2 <;> rfl

end Go.Proofs.Ytiiiipdnodgkmaa.Lt
