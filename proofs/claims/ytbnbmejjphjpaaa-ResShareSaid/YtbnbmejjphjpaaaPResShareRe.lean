/- ResShare: what the law computes is true. -/
import Derived.Test.YtbnbmejjphjpaaaResBRe
namespace Go.Proofs.Ytbnbmejjphjpaaa.Re
open Go Go.VI
set_option linter.unusedVariables false
set_option linter.unusedSimpArgs false
set_option maxRecDepth 100000

theorem part_le {a b : Int} (ha : ok1 a) (hb : ok1 b) : 0 ≤ part a b ∧ part a b ≤ 1000000 := by
  unfold part
  unfold ok1 at ha hb
  split
  · split <;> omega
  · have : 0 ≤ 1000 * a / b := Int.ediv_nonneg (by omega) (by omega)
    omega
theorem part_more {a c b : Int} (ha : ok1 a) (hb : ok1 b) (h : a ≤ c) : part a b ≤ part c b := by
  unfold part
  unfold ok1 at ha hb
  split
  · split <;> split <;> omega
  · have : 1000 * a / b ≤ 1000 * c / b := Int.ediv_le_ediv (by omega) (by omega)
    omega
theorem part_there {a b c : Int} (ha : ok1 a) (hb : 0 < b) (h : b ≤ c) : part a c ≤ part a b := by
  unfold part
  unfold ok1 at ha
  rw [if_neg (by omega), if_neg (by omega)]
  have h1 : 1000 * a / c * c ≤ 1000 * a := Int.ediv_mul_le _ (by omega)
  have h2 : 0 ≤ 1000 * a / c := Int.ediv_nonneg (by omega) (by omega)
  have h3 : 1000 * a / c * b ≤ 1000 * a / c * c := Int.mul_le_mul_of_nonneg_left h h2
  have : 1000 * a / c ≤ 1000 * a / b := (Int.le_ediv_iff_mul_le hb).2 (Int.le_trans h3 h1)
  omega
theorem part_self {b : Int} (hb : ok1 b) : part b b = if b = 0 then 0 else 1000 := by
  unfold part
  unfold ok1 at hb
  split
  · rfl
  · have : 1000 * b / b = 1000 := Int.mul_ediv_cancel _ (by omega)
    omega
set_option maxHeartbeats 1000000 in
theorem pureResShare (x : Res × Res × Res × Unit) (hw : Ty.wf (.agg (.pair (.int .i64) (.pair (.int .i64) (.pair (.int .i64) (.pair (.int .i64) (.int .i64)))))) x.1 ∧ Ty.wf (.agg (.pair (.int .i64) (.pair (.int .i64) (.pair (.int .i64) (.pair (.int .i64) (.int .i64)))))) x.2.1 ∧ Ty.wf (.agg (.pair (.int .i64) (.pair (.int .i64) (.pair (.int .i64) (.pair (.int .i64) (.int .i64)))))) x.2.2.1 ∧ True) : ∃ N, G_law04_ResShare N x = some (true, ()) := by
  obtain ⟨a, b, c, ⟨⟩⟩ := x
  clear hw
  refine ⟨281474976710656 + 300, ?_⟩
  have hk := known_is 281474976710656
  generalize 281474976710656 + 300 = N at *
  unfold G_law04_ResShare S_law04_ResShare
  by_cases ha : okR a
  · by_cases hb : okR b
    · by_cases hc : okR c
      · have s0 : 0 ≤ share a b ∧ share a b ≤ 1000000 := by
          have h1 := part_le ha.1 hb.1
          have h2 := part_le ha.2.1 hb.2.1
          unfold share; omega
        have s1 : ¬ share (addR a c) b < share a b := by
          have h1 := part_more (c := a.1 + c.1) ha.1 hb.1 (by have := hc.1.1; omega)
          have h2 := part_more (c := a.2.1 + c.2.1) ha.2.1 hb.2.1 (by have := hc.2.1.1; omega)
          unfold share addR; dsimp only; omega
        have s2 : 0 < b.1 → 0 < b.2.1 → ¬ share a b < share a (addR b c) := fun p1 p2 => by
          have h1 := part_there (c := b.1 + c.1) ha.1 p1 (by have := hc.1.1; omega)
          have h2 := part_there (c := b.2.1 + c.2.1) ha.2.1 p2 (by have := hc.2.1.1; omega)
          unfold share addR; dsimp only; omega
        have s3 : share b b = 1000 ∨ (b.1 = 0 ∧ b.2.1 = 0 ∧ share b b = 0) := by
          unfold share
          rw [part_self hb.1, part_self hb.2.1]
          by_cases b1 : b.1 = 0 <;> by_cases b2 : b.2.1 = 0 <;> simp only [b1, b2, if_true, if_false, true_and] <;> omega
        have last : (if share b b = 1000 then some (true, ()) else if b.1 = 0 then if b.2.1 = 0 then if share b b = 0 then some (true, ()) else some (false, ()) else some (false, ()) else some (false, ())) = some (true, ()) := by
          rcases s3 with h | ⟨h1, h2, h3⟩
          · rw [if_pos h]
          · rw [h3, if_neg (by decide), if_pos h1, if_pos h2, if_pos rfl]
        simp only [res_Right_is, ha, hb, hc, decide_true, Bool.not_true, br_false, Option.bind_some, res_Add_is, res_Share_is, and_self, if_true, told, br_dec, hk]
        simp only [if_pos s0.1, if_pos s0.2]
        by_cases x1 : okR (addR a c) <;> by_cases x2 : okR (addR b c) <;> by_cases x3 : 0 < b.1 <;> by_cases x4 : 0 < b.2.1
        all_goals simp only [x1, x2, x3, x4, and_self, and_true, if_true, if_false, Option.bind_some, ha, hb, s1]
        all_goals try exact last
        all_goals try (simp only [if_neg (s2 x3 x4)]; exact last)
        all_goals simp only [reduceCtorEq, Int.reduceEq, if_false]
        all_goals try exact last
        all_goals try (simp only [if_neg (s2 x3 x4)]; exact last)
      · simp [res_Right_is, ha, hb, hc, hk, br]
    · simp [res_Right_is, ha, hb, hk, br]
  · simp [res_Right_is, ha, hk, br]
end Go.Proofs.Ytbnbmejjphjpaaa.Re
