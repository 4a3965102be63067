/- ResOrder: what the law computes is true. -/
import Derived.Test.YtbnbmejjphjpaaaResBRe
namespace Go.Proofs.Ytbnbmejjphjpaaa.Re
open Go Go.VI
set_option linter.unusedVariables false
set_option linter.unusedSimpArgs false
set_option maxRecDepth 100000

theorem pureResOrder (x : Res × Res × Res × Unit) (hw : Ty.wf (.agg (.pair (.int .i64) (.pair (.int .i64) (.pair (.int .i64) (.pair (.int .i64) (.int .i64)))))) x.1 ∧ Ty.wf (.agg (.pair (.int .i64) (.pair (.int .i64) (.pair (.int .i64) (.pair (.int .i64) (.int .i64)))))) x.2.1 ∧ Ty.wf (.agg (.pair (.int .i64) (.pair (.int .i64) (.pair (.int .i64) (.pair (.int .i64) (.int .i64)))))) x.2.2.1 ∧ True) : ∃ N, G_law04_ResOrder N x = some (true, ()) := by
  obtain ⟨a, b, c, ⟨⟩⟩ := x
  clear hw
  refine ⟨281474976710656 + 300, ?_⟩
  have hk := known_is 281474976710656
  have hN := big
  generalize 281474976710656 + 300 = N at *
  unfold G_law04_ResOrder S_law04_ResOrder
  by_cases ha : okR a
  · by_cases hb : okR b
    · by_cases hc : okR c
      · have hm := min_ok ha hb
        have l1 : leR (minR a b) a := by unfold leR minR; dsimp only; omega
        have l2 : leR (minR a b) b := by unfold leR minR; dsimp only; omega
        have l3 : leR a a := by unfold leR; omega
        have t1 : leR a b → leR b c → leR a c := by unfold leR; omega
        have t2 : leR c a → leR c b → leR c (minR a b) := by unfold leR minR; dsimp only; omega
        have t3 : leR a b → leR b a → a = b := fun h1 h2 => by
          obtain ⟨a1, a2, a3, a4, a5⟩ := a
          obtain ⟨b1, b2, b3, b4, b5⟩ := b
          unfold leR at h1 h2
          simp only [Prod.mk.injEq] at *
          omega
        simp only [res_Right_is, res_Fits_is, res_Least_is, ha, hb, hc, hm, decide_true, Bool.not_true, br_false, Option.bind_some, true_and, and_self, if_true, l1, l2, l3, br_true]
        by_cases h1 : leR a b <;> by_cases h2 : leR b c <;> by_cases h3 : leR c a <;> by_cases h4 : leR c b <;> by_cases h5 : leR b a
        all_goals
          first
          | (have e := t3 h1 h5; have t1' := t1 h1 h2; simp [h1, h2, h3, h4, h5, t1', hk, br, e]; done)
          | (have e := t3 h1 h5; have t2' := t2 h3 h4; simp [h1, h2, h3, h4, h5, t2', hk, br, e]; done)
          | (have t1' := t1 h1 h2; have t2' := t2 h3 h4; simp [h1, h2, h3, h4, h5, t1', t2', hk, br]; done)
          | (have t1' := t1 h1 h2; simp [h1, h2, h3, h4, h5, t1', hk, br]; done)
          | (have t2' := t2 h3 h4; simp [h1, h2, h3, h4, h5, t2', hk, br]; done)
          | (have e := t3 h1 h5; simp [h1, h2, h3, h4, h5, hk, br, e]; done)
          | (simp [h1, h2, h3, h4, h5, hk, br]; done)
          | (have e := t3 h1 h5; subst e; simp_all [br])
      · simp [res_Right_is, ha, hb, hc, hk, br]
    · simp [res_Right_is, ha, hb, hk, br]
  · simp [res_Right_is, ha, hk, br]
end Go.Proofs.Ytbnbmejjphjpaaa.Re
