/- LabelsRight: what the law computes is true. -/
import Derived.Test.YthmajioeldhngaaLtmPLaD
namespace Go.Proofs.Ythmajioeldhngaa.LaD
open Go Go.VI
set_option linter.unusedVariables false
set_option linter.unusedSimpArgs false
set_option maxRecDepth 100000

@[reducible] def tyLab : Ty := .agg (.pair .str .str)
@[reducible] def tyTerm : Ty := .agg (.pair .str (.pair (.int .i64) (.slice .str)))
theorem reach_le : reachBytes ≤ 140737488355328 := by decide
theorem okL_of {l : Labels} (h : Ty.wf (.slice tyLab) l) : okL l := ⟨Nat.le_trans h.1 reach_le, fun x hx => ⟨Nat.le_trans (h.2 x hx).1 reach_le, Nat.le_trans (h.2 x hx).2 reach_le⟩⟩
theorem okTm_of {t : Term} (h : Ty.wf tyTerm t) : okTm t := ⟨Nat.le_trans h.1 reach_le, Nat.le_trans h.2.2.1 reach_le, fun v hv => Nat.le_trans (h.2.2.2 v hv) reach_le⟩
theorem known_is (m : Nat) : G_law05_known (m + 300) () = some (true, ()) := by kernel_rfl
theorem pureLabelsRight (x : Labels × Term × Unit) (hw : Ty.wf (.slice tyLab) x.1 ∧ Ty.wf tyTerm x.2.1 ∧ True) : ∃ N, G_law05_LabelsRight N x = some (true, ()) := by
  obtain ⟨l, t, ⟨⟩⟩ := x
  have hl : okL l := okL_of hw.1
  have ht : okTm t := okTm_of hw.2.1
  clear hw
  refine ⟨281474976710656 + 300, ?_⟩
  have hk := known_is 281474976710656
  have hN := big
  generalize 281474976710656 + 300 = N at *
  obtain ⟨⟨b1, ⟨⟩⟩, e1, k1⟩ := ref05_Light_tel N hN hl
  obtain ⟨⟨b2, ⟨⟩⟩, e2, k2⟩ := ref05_LightTerm_tot N hN ht
  have e2' : G_ref05_LightTerm N ((t.1, t.2.1, t.2.2), ()) = _ := e2
  have e3 : G_labels_RightTerm N ((t.1, t.2.1, t.2.2), ()) = _ := labels_RightTerm_is N hN ht
  have e4 : G_ref05_RightTerm N ((t.1, t.2.1, t.2.2), ()) = _ := ref05_RightTerm_is N hN ht
  unfold G_law05_LabelsRight S_law05_LabelsRight
  simp only [e1, e2', hk, Option.bind_some]
  cases b1
  · rfl
  cases b2
  · rfl
  simp only [Bool.not_true, br_false, labels_Right_is N hN hl, ref05_Right_is N hN hl, e3, e4, Option.bind_some, bEq_beq, beq_self_eq_true, br_true]
end Go.Proofs.Ythmajioeldhngaa.LaD
