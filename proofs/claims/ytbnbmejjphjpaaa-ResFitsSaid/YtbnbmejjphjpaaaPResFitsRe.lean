/- ResFits: what the law computes is true. -/
import Derived.Test.YtbnbmejjphjpaaaResBRe
namespace Go.Proofs.Ytbnbmejjphjpaaa.Re
open Go Go.VI
set_option linter.unusedVariables false
set_option linter.unusedSimpArgs false
set_option maxRecDepth 100000

theorem pureResFits (x : Res × Res × Unit) (hw : Ty.wf (.agg (.pair (.int .i64) (.pair (.int .i64) (.pair (.int .i64) (.pair (.int .i64) (.int .i64)))))) x.1 ∧ Ty.wf (.agg (.pair (.int .i64) (.pair (.int .i64) (.pair (.int .i64) (.pair (.int .i64) (.int .i64)))))) x.2.1 ∧ True) : ∃ N, G_law04_ResFits N x = some (true, ()) := by
  obtain ⟨a, b, ⟨⟩⟩ := x
  clear hw
  refine ⟨281474976710656 + 300, ?_⟩
  have hk := known_is 281474976710656
  have hN := big
  generalize 281474976710656 + 300 = N at *
  unfold G_law04_ResFits S_law04_ResFits
  have e1 : ∃ p, G_res_Least N (a, b, ()) = some p ∧ G_ref04_Least N (a, b, ()) = some p := by
    rw [res_Least_is, ref04_Least_is]
    repeat' split
    all_goals exact ⟨_, rfl, rfl⟩
  have e2 : ∃ p, G_res_How N (a, b, ()) = some p ∧ G_ref04_How N (a, b, ()) = some p := by
    by_cases h : okR a ∧ okR b
    · obtain ⟨⟨v, ⟨⟩⟩, e, h1, h2⟩ := res_How_is N a b h.1 h.2
      obtain ⟨v, rfl⟩ := Int.eq_ofNat_of_zero_le h1
      exact ⟨_, e, ref04_How_is N hN a b h.1 h.2 v ⟨h1, h2⟩⟩
    · exact ⟨_, res_How_no N a b h, ref04_How_no N a b h⟩
  have e3 : ∃ p, G_res_Share N (a, b, ()) = some p ∧ G_ref04_Share N (a, b, ()) = some p := by
    rw [res_Share_is, ref04_Share_is]
    repeat' split
    all_goals exact ⟨_, rfl, rfl⟩
  obtain ⟨p, e1, e1'⟩ := e1
  obtain ⟨q, e2, e2'⟩ := e2
  obtain ⟨r, e3, e3'⟩ := e3
  simp only [e1, e2, e3, e1', e2', e3', hk, res_Fits_is, ref04_Fits_is, Option.bind_some, decide_true, Bool.and_true, br_true, bEq_beq, beq_self_eq_true]
end Go.Proofs.Ytbnbmejjphjpaaa.Re
