/- GroupTells: what the law computes is true. -/
import Derived.Test.YtiiiipdnodgkmaaGrpTGt
namespace Go.Proofs.Ytiiiipdnodgkmaa.Gt
open Go Go.VI
set_option linter.unusedVariables false
set_option linter.unusedSimpArgs false
set_option maxRecDepth 100000

theorem known_is (m : Nat) : G_law16_known (m + 300) () = some (true, ()) := by kernel_rfl
theorem pureGroupTells (x : List Grp × List Mach × ByteArray × Unit) (hw : Ty.wf (.slice tyGrp) x.1 ∧ Ty.wf (.slice tyMach) x.2.1 ∧ Ty.wf .str x.2.2.1 ∧ True) : ∃ N, G_law16_GroupTells N x = some (true, ()) := by
  obtain ⟨l, ms, name, ⟨⟩⟩ := x
  have hl : okGs l := okGs_of hw.1
  have hm : ms.length ≤ 140737488355328 ∧ ∀ m ∈ ms, okM m := ⟨Nat.le_trans hw.2.1.1 reach_le, fun m hm => okM_of (hw.2.1.2 m hm)⟩
  clear hw
  refine ⟨281474976710656 + 300, ?_⟩
  have hk := known_is 281474976710656
  have hN := big
  generalize 281474976710656 + 300 = N at *
  have hN' := hN
  unfold Big at hN'
  obtain ⟨⟨b1, ⟨⟩⟩, e1, k1⟩ := ref16_Light_tot N hN hl
  obtain ⟨⟨b2, ⟨⟩⟩, e2, k2⟩ := Light09_tot N hN ms hm
  unfold G_law16_GroupTells S_law16_GroupTells
  simp only [e1, e2, hk, Option.bind_some]
  cases b1
  · rfl
  cases b2
  · rfl
  have hlen := (k1 rfl).1
  have hmlen := k2 rfl
  simp only [Bool.not_true, br_false]
  by_cases hz : (300 : Int) < ((name.size : Nat) : Int)
  · rw [decide_eq_true hz]; rfl
  rw [decide_eq_false hz, br_false]
  have hf : ((ms.filter (ofB name)).map (·.1)).length ≤ 1000 := by
    rw [List.length_map]
    have := List.length_filter_le (ofB name) ms
    omega
  simp only [group_Right_is N hN hl, ref16_Right_is N hN hl, group_Find_is N hN hl.1, ref16_Find_is N hN hl.1, group_Names_is N hN (l := l) (by omega), ref16_Names_is N hN (l := l) (by omega),
    group_Of_is N hN (l := ms) (by omega), ref16_Of_is N hN (l := ms) (by omega), Texts_same N hN hf, Texts_same N hN (l := l.map (·.1)) (by rw [List.length_map]; omega), Option.bind_some, bEq_beq, beq_self_eq_true, decide_true, br_true]
end Go.Proofs.Ytiiiipdnodgkmaa.Gt
