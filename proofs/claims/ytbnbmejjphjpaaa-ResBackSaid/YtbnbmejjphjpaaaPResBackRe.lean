/- ResBack: what the law computes is true. -/
import Derived.Test.YtbnbmejjphjpaaaResBRe
namespace Go.Proofs.Ytbnbmejjphjpaaa.Re
open Go Go.VI
set_option linter.unusedVariables false
set_option linter.unusedSimpArgs false
set_option maxRecDepth 100000

theorem pureResBack (x : Res × Res × Unit) (hw : Ty.wf (.agg (.pair (.int .i64) (.pair (.int .i64) (.pair (.int .i64) (.pair (.int .i64) (.int .i64)))))) x.1 ∧ Ty.wf (.agg (.pair (.int .i64) (.pair (.int .i64) (.pair (.int .i64) (.pair (.int .i64) (.int .i64)))))) x.2.1 ∧ True) : ∃ N, G_law04_ResBack N x = some (true, ()) := by
  obtain ⟨a, b, ⟨⟩⟩ := x
  clear hw
  refine ⟨281474976710656 + 300, ?_⟩
  have hk := known_is 281474976710656
  have hN := big
  generalize 281474976710656 + 300 = N at *
  unfold G_law04_ResBack S_law04_ResBack
  have hl : okR a → okR b → leR a (addR a b) ∧ leR b (addR a b) ∧ subR (addR a b) b = a := fun ha hb => by
    obtain ⟨a1, a2, a3, a4, a5⟩ := a
    obtain ⟨b1, b2, b3, b4, b5⟩ := b
    unfold okR ok1 at ha hb
    unfold leR addR subR
    dsimp only at *
    refine ⟨by omega, by omega, ?_⟩
    simp only [Prod.mk.injEq]; omega
  have hs : addR (subR a b) b = a := by
    obtain ⟨a1, a2, a3, a4, a5⟩ := a
    obtain ⟨b1, b2, b3, b4, b5⟩ := b
    unfold addR subR
    simp only [Prod.mk.injEq]; omega
  have h2 : (br (Bool.not (bEq (decide ((0 : Int) = 0)) (decide (okR b ∧ okR a ∧ leR b a)))) (some (false, ())) (some (true, ()))) = (br (Bool.not (decide (okR b ∧ okR a ∧ leR b a))) (some (false, ())) (some (true, ()))) := by
    by_cases h : okR b ∧ okR a ∧ leR b a <;> simp [h, bEq, br]
  simp only [res_Add_is, res_Sub_is, res_Fits_is]
  by_cases ha : okR a
  · by_cases hb : okR b
    · obtain ⟨l1, l2, l3⟩ := hl ha hb
      by_cases hc : okR (addR a b)
      · by_cases hd : leR b a
        · have hd' : okR (subR a b) := (sub_ok ha hb).2 hd
          simp [told, ha, hb, hc, hd, hd', l1, l2, l3, hs, hk, br, bEq]
        · simp [told, ha, hb, hc, hd, l1, l2, l3, hs, hk, br, bEq]
      · by_cases hd : leR b a
        · have hd' : okR (subR a b) := (sub_ok ha hb).2 hd
          simp [told, ha, hb, hc, hd, hd', hs, hk, br, bEq]
        · simp [told, ha, hb, hc, hd, hs, hk, br, bEq]
    · simp [told, ha, hb, hk, br, bEq]
  · simp [told, ha, hk, br, bEq]
end Go.Proofs.Ytbnbmejjphjpaaa.Re
