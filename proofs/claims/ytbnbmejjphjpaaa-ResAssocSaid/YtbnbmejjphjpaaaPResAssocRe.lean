/- ResAssoc: what the law computes is true. -/
import Derived.Test.YtbnbmejjphjpaaaResBRe
namespace Go.Proofs.Ytbnbmejjphjpaaa.Re
open Go Go.VI
set_option linter.unusedVariables false
set_option linter.unusedSimpArgs false
set_option maxRecDepth 100000

theorem pureResAssoc (x : Res × Res × Res × Unit) (hw : Ty.wf (.agg (.pair (.int .i64) (.pair (.int .i64) (.pair (.int .i64) (.pair (.int .i64) (.int .i64)))))) x.1 ∧ Ty.wf (.agg (.pair (.int .i64) (.pair (.int .i64) (.pair (.int .i64) (.pair (.int .i64) (.int .i64)))))) x.2.1 ∧ Ty.wf (.agg (.pair (.int .i64) (.pair (.int .i64) (.pair (.int .i64) (.pair (.int .i64) (.int .i64)))))) x.2.2.1 ∧ True) : ∃ N, G_law04_ResAssoc N x = some (true, ()) := by
  obtain ⟨a, b, c, ⟨⟩⟩ := x
  clear hw
  refine ⟨281474976710656 + 300, ?_⟩
  have hk := known_is 281474976710656
  have hN := big
  generalize 281474976710656 + 300 = N at *
  unfold G_law04_ResAssoc S_law04_ResAssoc
  have hc : addR b a = addR a b := by unfold addR; simp only [Prod.mk.injEq]; omega
  have hs : addR (addR a b) c = addR a (addR b c) := by unfold addR; simp only [Prod.mk.injEq]; omega
  simp only [res_Add_is, hc]
  by_cases ha : okR a
  · by_cases hb : okR b
    · by_cases hx : okR (addR a b)
      · by_cases hcc : okR c
        · by_cases hy : okR (addR b c)
          · by_cases hz : okR (addR a (addR b c))
            · simp [told, ha, hb, hx, hcc, hy, hz, hs, hk, br]
            · simp [told, ha, hb, hx, hcc, hy, hz, hs, hk, br]
          · simp [told, ha, hb, hx, hcc, hy, hk, br]
        · simp [told, ha, hb, hx, hcc, hk, br]
      · by_cases hcc : okR c <;> by_cases hy : okR (addR b c) <;> simp [told, ha, hb, hx, hcc, hy, hk, br]
    · by_cases hcc : okR c <;> by_cases hy : okR (addR b c) <;> simp [told, ha, hb, hcc, hy, hk, br]
  · by_cases hb : okR b <;> by_cases hcc : okR c <;> by_cases hy : okR (addR b c) <;> simp [told, ha, hb, hcc, hy, hk, br]
end Go.Proofs.Ytbnbmejjphjpaaa.Re
