/- group.Find. -/
import Derived.Test.YtiiiipdnodgkmaaGrpSLt
namespace Go.Proofs.Ytiiiipdnodgkmaa.Lt
open Go Go.VI
set_option linter.unusedVariables false
set_option linter.unusedSimpArgs false
set_option maxRecDepth 100000

theorem group_Find_is (N : Nat) (hN : Big N) {l : List Grp} (hl : l.length ≤ 140737488355328) (name : ByteArray) : G_group_Find N (l, name, ()) = some (fnd l name, ()) := by
  unfold Big at hN
  have loop : ∀ m (i : Nat) x, i ≤ l.length → x = ((name, l, (l.length : Int), (i : Int), ()), ()) → l.length - i < m → Tot (g_group_Find_2 N m x) fun o => fndF name (l.drop i) i = Sum.elim (fun _ => -1) (fun v => v.1.1) o := by
    refine Tot.rangeI (Q := fun i (o : (Unit × Unit) ⊕ ((Int × Unit) × Unit)) => fndF name (l.drop i) i = Sum.elim (fun _ => -1) (fun v => v.1.1) o) l.length fun m i x ha hi rec => ?_
    subst ha
    rw [g_group_Find_2_succ]
    unfold s_group_Find_2
    by_cases hlt : i < l.length
    · have d0 : decide ((0 : Int) ≤ (i : Int)) = true := decide_eq_true (by omega)
      have d1 : decide ((i : Int) < ((l.length : Nat) : Int)) = true := decide_eq_true (by omega)
      simp only [d0, d1, br_true, Int.toNat_natCast, at_lt hlt, Option.bind_some, wi (i := i) (by omega)]
      rw [List.drop_eq_getElem_cons hlt]
      simp only [fndF]
      by_cases e : l[i].1 = name
      · rw [decide_eq_true e, if_pos e]; exact Tot.some rfl
      · rw [decide_eq_false e, if_neg e]; exact rec (i + 1) _ (by omega) (by omega) rfl
    · have d1 : decide ((i : Int) < ((l.length : Nat) : Int)) = false := decide_eq_false (by omega)
      simp only [d1, br_false]
      rw [List.drop_eq_nil_of_le (by omega)]
      exact Tot.some rfl
  obtain ⟨o, e, ho⟩ := loop N 0 ((name, l, (l.length : Int), 0, ()), ()) (by omega) rfl (by omega)
  unfold G_group_Find S_group_Find fnd
  simp only [e, Option.bind_some]
  rw [List.drop_zero] at ho
  rw [ho]; cases o <;> rfl
end Go.Proofs.Ytiiiipdnodgkmaa.Lt
