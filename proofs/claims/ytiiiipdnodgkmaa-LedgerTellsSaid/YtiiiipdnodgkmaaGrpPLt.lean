/- group.Right, group.Find. -/
import Derived.Test.YtiiiipdnodgkmaaGrpNLt
import Derived.Test.YtiiiipdnodgkmaaMacPLt
namespace Go.Proofs.Ytiiiipdnodgkmaa.Lt
open Go Go.VI
set_option linter.unusedVariables false
set_option linter.unusedSimpArgs false
set_option maxRecDepth 100000

theorem spec_between_is (N : Nat) (n lo hi : Int) : G_spec_between N (n, lo, hi, ()) = some (inB n lo hi, ()) := by
  unfold G_spec_between S_spec_between inB
  by_cases h : lo ≤ n <;> simp [h, br]
theorem spec_RightGroup_is (N : Nat) (hN : Big N) {g : Grp} (hg : okG g) : G_spec_RightGroup N (g, ()) = some (rightG N g, ()) := by
  obtain ⟨h1, h2⟩ := hg
  unfold G_spec_RightGroup S_spec_RightGroup rightG
  simp only [lex_Word_is hN h1, spec_between_is, spec_RightMachine_is N hN h2, Option.bind_some]
  cases wordB N g.1 <;> cases inB g.2.2.1 1 200 <;> cases inB g.2.1 0 g.2.2.1 <;> cases inB g.2.2.2.2.1 0 1125899906842624 <;> cases inB g.2.2.2.2.2 0 1000 <;> cases rightM N g.2.2.2.1 <;> cases decide (g.2.2.2.1.1 = nameless) <;> cases decide (g.2.2.2.1.2.1 = g.1) <;> cases g.2.2.2.1.2.2.2.2.2 <;> rfl
theorem group_Right_is (N : Nat) (hN : Big N) {l : List Grp} (hl : okGs l) : G_group_Right N (l, ()) = some (rightGs N l, ()) := by
  have hN' := hN
  unfold Big at hN'; obtain ⟨h1, h2⟩ := hl
  have loop := Tot.all (f := g_group_Right_2 N) (Inv := fun i x => x = ((l, l, (l.length : Int), (i : Int), ()), ())) (Y := fun o => ∃ y, o = .inl ((l, ()), y)) (No := fun o => ∃ y, o = .inr ((false, ()), y)) l.length (okGr N l)
    (fun m a ha => by
      subst ha
      rw [g_group_Right_2_succ]
      unfold s_group_Right_2
      exact Tot.brD (fun h => absurd h (by dsimp only; omega)) fun _ => Tot.some ⟨_, rfl⟩)
    (fun m i a Q ha hi rec no => by
      subst ha
      rw [g_group_Right_2_succ]
      unfold s_group_Right_2
      have hm : l[i] ∈ l := List.getElem_mem hi
      have d0 : decide ((0 : Int) ≤ (i : Int)) = true := decide_eq_true (by omega)
      have d1 : decide ((i : Int) < ((l.length : Nat) : Int)) = true := decide_eq_true (by omega)
      have hG := spec_RightGroup_is N hN (h2 _ hm)
      have hF := group_Find_is N hN h1 l[i].1
      simp only [d0, d1, br_true, Int.toNat_natCast, at_lt hi, Option.bind_some, hG, hF, wi (i := i) (by omega)]
      have hok : okGr N l i = (rightG N l[i] && (decide (l[i].1.size ≤ 48) && decide (fnd l l[i].1 = (i : Int)))) := by unfold okGr; rw [at_lt hi]; first | done | rfl
      cases hw : rightG N l[i]
      · rw [hw] at hok
        exact Tot.some (no (by rw [hok]; rfl) _ ⟨_, rfl⟩)
      rw [hw] at hok
      by_cases hz : l[i].1.size ≤ 48
      · have d2 : decide ((48 : Int) < ((l[i].1.size : Nat) : Int)) = false := decide_eq_false (by omega)
        rw [decide_eq_true hz] at hok
        simp only [d2, Bool.not_true, br_false]
        by_cases hf : fnd l l[i].1 = (i : Int)
        · rw [decide_eq_true hf] at hok
          simp only [decide_eq_true hf, Bool.not_true, br_false]
          exact rec (by rw [hok]; rfl) _ rfl
        · rw [decide_eq_false hf] at hok
          simp only [decide_eq_false hf, Bool.not_false, br_true]
          exact Tot.some (no (by rw [hok]; rfl) _ ⟨_, rfl⟩)
      · have d2 : decide ((48 : Int) < ((l[i].1.size : Nat) : Int)) = true := decide_eq_true (by omega)
        rw [decide_eq_false hz] at hok
        simp only [d2, Bool.not_true, br_false, br_true]
        exact Tot.some (no (by rw [hok]; rfl) _ ⟨_, rfl⟩))
    N 0 ((l, l, (l.length : Int), 0, ()), ()) (by omega) rfl (by omega)
  obtain ⟨o, e, ho⟩ := loop
  unfold G_group_Right S_group_Right rightGs
  simp only [e, Option.bind_some]
  rw [Nat.sub_zero] at ho
  split at ho
  · rename_i hy; obtain ⟨y, rfl⟩ := ho; rw [hy, Bool.and_true]
    show some (decide (((l.length : Nat) : Int) ≤ 16), ()) = _
    congr 2; rw [decide_eq_decide]; omega
  · rename_i hy; obtain ⟨y, rfl⟩ := ho; rw [Bool.not_eq_true] at hy; rw [hy, Bool.and_false]; rfl
end Go.Proofs.Ytiiiipdnodgkmaa.Lt
