/- ResSums: what the law computes is true. -/
import Derived.Test.YtbnbmejjphjpaaaResBRe
namespace Go.Proofs.Ytbnbmejjphjpaaa.Re
open Go Go.VI
set_option linter.unusedVariables false
set_option linter.unusedSimpArgs false
set_option maxRecDepth 100000

theorem pureResSums (x : Res × Res × Int × Unit) (hw : Ty.wf (.agg (.pair (.int .i64) (.pair (.int .i64) (.pair (.int .i64) (.pair (.int .i64) (.int .i64)))))) x.1 ∧ Ty.wf (.agg (.pair (.int .i64) (.pair (.int .i64) (.pair (.int .i64) (.pair (.int .i64) (.int .i64)))))) x.2.1 ∧ Ty.wf (.int .i64) x.2.2.1 ∧ True) : ∃ N, G_law04_ResSums N x = some (true, ()) := by
  obtain ⟨a, b, n, ⟨⟩⟩ := x
  clear hw
  refine ⟨281474976710656 + 300, ?_⟩
  have hk := known_is 281474976710656
  have hN := big
  generalize 281474976710656 + 300 = N at *
  unfold G_law04_ResSums S_law04_ResSums
  obtain ⟨p, e1, e2⟩ : ∃ p, G_res_Add N (a, b, ()) = some p ∧ G_ref04_Add N (a, b, ()) = some p := by
    rw [res_Add_is, ref04_Add_is]; unfold told
    repeat' split
    all_goals exact ⟨_, rfl, rfl⟩
  obtain ⟨q, e3, e4⟩ : ∃ p, G_res_Sub N (a, b, ()) = some p ∧ G_ref04_Sub N (a, b, ()) = some p := by
    rw [res_Sub_is, ref04_Sub_is]; unfold told
    repeat' split
    all_goals exact ⟨_, rfl, rfl⟩
  obtain ⟨r, e5, e6⟩ : ∃ p, G_res_Times N (a, n, ()) = some p ∧ G_ref04_Times N (a, n, ()) = some p := by
    rw [res_Times_is, ref04_Times_is]; unfold told
    repeat' split
    all_goals exact ⟨_, rfl, rfl⟩
  simp only [e1, e2, e3, e4, e5, e6, hk, res_Right_is, ref04_Right_is, Option.bind_some, decide_true, Bool.and_true, br_true, bEq_beq, beq_self_eq_true]
end Go.Proofs.Ytbnbmejjphjpaaa.Re
