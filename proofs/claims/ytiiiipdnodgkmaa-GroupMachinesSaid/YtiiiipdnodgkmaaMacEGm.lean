/- Machines that are alike. -/
import Derived.Test.YtiiiipdnodgkmaaBaseGm
namespace Go.Proofs.Ytiiiipdnodgkmaa.Gm
open Go Go.VI
set_option linter.unusedVariables false
set_option linter.unusedSimpArgs false
set_option maxRecDepth 100000

theorem ref05_Same_same (N : Nat) (hN : Big N) {l : Labels} (hl : l.length ≤ 1000000) : G_ref05_Same N (l, l, ()) = some (true, ()) := by
  unfold Big at hN
  have loop : ∀ m (i : Nat) x, i ≤ l.length → x = ((l, l, (i : Int), ()), ()) → l.length - i < m → Tot (g_ref05_Same_4 N m x) fun o => ∃ y, o = .inl y := by
    refine Tot.range l.length fun m i x ha hi rec => ?_
    subst ha
    rw [g_ref05_Same_4_succ]
    unfold s_ref05_Same_4
    by_cases hlt : i < l.length
    · have d0 : decide ((0 : Int) ≤ (i : Int)) = true := decide_eq_true (by omega)
      have d1 : decide ((i : Int) < ((l.length : Nat) : Int)) = true := decide_eq_true (by omega)
      simp only [d0, d1, br_true, Int.toNat_natCast, at_lt hlt, Option.bind_some, wi (i := i) (by omega), decide_true, Bool.and_true, Bool.not_true, br_false]
      exact rec (i + 1) _ (by omega) (by omega) rfl
    · have d1 : decide ((i : Int) < ((l.length : Nat) : Int)) = false := decide_eq_false (by omega)
      simp only [d1, br_false]
      exact Tot.some ⟨_, rfl⟩
  obtain ⟨o, e, y, rfl⟩ := loop N 0 ((l, l, 0, ()), ()) (by omega) rfl (by omega)
  unfold G_ref05_Same S_ref05_Same
  simp only [decide_true, Bool.not_true, br_false, e, Option.bind_some, Sum.elim_inl]
theorem ref06_Same_same (N : Nat) (hN : Big N) {l : Taints} (hl : l.length ≤ 1000000) : G_ref06_Same N (l, l, ()) = some (true, ()) := by
  unfold Big at hN
  have loop : ∀ m (i : Nat) x, i ≤ l.length → x = ((l, l, (i : Int), ()), ()) → l.length - i < m → Tot (g_ref06_Same_4 N m x) fun o => ∃ y, o = .inl y := by
    refine Tot.range l.length fun m i x ha hi rec => ?_
    subst ha
    rw [g_ref06_Same_4_succ]
    unfold s_ref06_Same_4
    by_cases hlt : i < l.length
    · have d0 : decide ((0 : Int) ≤ (i : Int)) = true := decide_eq_true (by omega)
      have d1 : decide ((i : Int) < ((l.length : Nat) : Int)) = true := decide_eq_true (by omega)
      simp only [d0, d1, br_true, Int.toNat_natCast, at_lt hlt, Option.bind_some, wi (i := i) (by omega), decide_true, Bool.and_true, Bool.not_true, br_false]
      exact rec (i + 1) _ (by omega) (by omega) rfl
    · have d1 : decide ((i : Int) < ((l.length : Nat) : Int)) = false := decide_eq_false (by omega)
      simp only [d1, br_false]
      exact Tot.some ⟨_, rfl⟩
  obtain ⟨o, e, y, rfl⟩ := loop N 0 ((l, l, 0, ()), ()) (by omega) rfl (by omega)
  unfold G_ref06_Same S_ref06_Same
  simp only [decide_true, Bool.not_true, br_false, e, Option.bind_some, Sum.elim_inl]
theorem SameMachine_same (N : Nat) (hN : Big N) (m : Mach) (h1 : m.2.2.2.1.length ≤ 1000000) (h2 : m.2.2.2.2.1.length ≤ 1000000) : G_ref07_SameMachine N (m, m, ()) = some (true, ()) := by
  unfold G_ref07_SameMachine S_ref07_SameMachine
  simp only [decide_true, Bool.and_true, br_true, bEq_beq, beq_self_eq_true, ref05_Same_same N hN h1, ref06_Same_same N hN h2, Option.bind_some]
end Go.Proofs.Ytiiiipdnodgkmaa.Gm
