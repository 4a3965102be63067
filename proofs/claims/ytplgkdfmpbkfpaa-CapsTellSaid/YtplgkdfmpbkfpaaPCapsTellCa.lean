/- CapsTell: what the law computes is true. -/
import Derived.Test.YtplgkdfmpbkfpaaCapsLawCa
namespace Go.Proofs.Ytplgkdfmpbkfpaa.Ca
open Go Go.VI
set_option linter.unusedVariables false
set_option maxRecDepth 100000

theorem big : Big (281474976710656 + 300) := by unfold Big; omega
theorem pureCapsTell (x : Cap × List Mach × Mach × Unit) (hw : Ty.wf (.agg (.pair (.int .i64) (.pair (.int .i64) (.int .i64)))) x.1 ∧ Ty.wf (.slice tyMach) x.2.1 ∧ Ty.wf tyMach x.2.2.1 ∧ True) : ∃ N, G_law23_CapsTell N x = some (true, ()) := by
  obtain ⟨c, ms, like, ⟨⟩⟩ := x
  obtain ⟨_, ⟨_, hms⟩, hl, _⟩ := hw
  have hms := fun m hm => okM_of (hms m hm)
  have hl := okM_of hl
  refine ⟨281474976710656 + 300, ?_⟩
  have hk := known_is 281474976710656
  have hN := big
  generalize 281474976710656 + 300 = N at *
  obtain ⟨⟨b, ⟨⟩⟩, hr, hb⟩ := right_tot N hN c ms like hms hl
  unfold G_law23_CapsTell S_law23_CapsTell
  simp only [caps_Right_is, ref23_Right_is, Option.bind_some, bEq_beq, beq_self_eq_true, Bool.not_true, br_false, hr]
  cases b
  · simp only [Bool.not_false, br_true, hk, Option.bind_some]
  · obtain ⟨h1, h2, h3, h4⟩ := hb rfl
    obtain ⟨⟨n, ⟨⟩⟩, e, q1, q2, q3⟩ := caps_Room_is N hN c h2 ms h3 (by omega) like h4
    dsimp only at q1 q2 q3
    obtain ⟨n, rfl⟩ := Int.eq_ofNat_of_zero_le q1
    have er := ref23_Room_is N hN c ms h3 like h4 n (by omega) (fun k hk => (q3 k hk).trans (by omega))
    simp only [Bool.not_true, br_false, caps_Within_is N hN c h2 ms h3 (by omega), ref23_Within_is N hN c ms h3 (by omega), Option.bind_some, beq_self_eq_true, br_true, e, er, hk, decide_true]
end Go.Proofs.Ytplgkdfmpbkfpaa.Ca
