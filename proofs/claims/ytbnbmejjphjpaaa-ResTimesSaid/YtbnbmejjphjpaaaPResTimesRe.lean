/- ResTimes: what the law computes is true. -/
import Derived.Test.YtbnbmejjphjpaaaResBRe
namespace Go.Proofs.Ytbnbmejjphjpaaa.Re
open Go Go.VI
set_option linter.unusedVariables false
set_option linter.unusedSimpArgs false
set_option maxRecDepth 100000

theorem mul_succ (a : Res) (i : Int) : addR (mulR a i) a = mulR a (i + 1) := by
  unfold addR mulR
  simp only [Int.mul_add, Int.mul_one]
theorem pureResTimes (x : Res × Res × Unit) (hw : Ty.wf (.agg (.pair (.int .i64) (.pair (.int .i64) (.pair (.int .i64) (.pair (.int .i64) (.int .i64)))))) x.1 ∧ Ty.wf (.agg (.pair (.int .i64) (.pair (.int .i64) (.pair (.int .i64) (.pair (.int .i64) (.int .i64)))))) x.2.1 ∧ True) : ∃ N, G_law04_ResTimes N x = some (true, ()) := by
  obtain ⟨a, b, ⟨⟩⟩ := x
  clear hw
  refine ⟨281474976710656 + 300, ?_⟩
  have hk := known_is 281474976710656
  have hN := big
  generalize 281474976710656 + 300 = N at *
  unfold Big at hN
  unfold G_law04_ResTimes S_law04_ResTimes
  by_cases h : okR a ∧ okR b
  · obtain ⟨ha, hb⟩ := h
    obtain ⟨⟨n, ⟨⟩⟩, e, h1, h2, h3⟩ := res_How_is N a b ha hb
    dsimp only at h1 h2 h3
    obtain ⟨n, rfl⟩ := Int.eq_ofNat_of_zero_le h1
    have le := fun (k : Nat) (hk : k ≤ n) => ((h3 (k : Int) (by omega)).1 (by omega)).2
    have ok := fun (k : Nat) (hk : k ≤ n) => mul_ok ha hb (by omega) (le k hk)
    have loop : ∀ m (i : Nat) (x : (Int × Int × Unit) × (Res × Unit) × (Res × Unit) × (Res × Unit) × Unit), i ≤ n → x = (((n : Int), (i : Int), ()), (a, ()), (b, ()), (mulR a i, ()), ()) → n - i < m → Tot (g_law04_ResTimes_6 N m x) fun o => ∃ y, o = .inl (((n : Int), ()), (a, ()), (b, ()), (mulR a n, ()), ()) ∧ y = () := by
      refine Tot.range n fun m i x hx hi rec => ?_
      subst hx
      rw [g_law04_ResTimes_6_succ]
      unfold s_law04_ResTimes_6
      have e : IntKind.i64.wrap ((i : Int) + 1) = ((i + 1 : Nat) : Int) := by rw [w64 (by omega) (by omega)]; omega
      dsimp only
      rw [e]
      refine Tot.brD (fun hc => ?_) fun hc => ?_
      · have o1 := ok i (by omega)
        have o2 := ok (i + 1) (by omega)
        have e2 : addR (mulR a (i : Int)) a = mulR a ((i + 1 : Nat) : Int) := by rw [mul_succ]; rfl
        rw [res_Add_is, if_pos ⟨o1, ha⟩, e2]
        unfold told
        rw [if_pos o2]
        exact rec (i + 1) _ (by omega) (by omega) rfl
      · have : i = n := by omega
        subst this
        exact Tot.some ⟨_, rfl, rfl⟩
    obtain ⟨o, eo, _, rfl, _⟩ := loop N 0 _ (by omega) rfl (by omega)
    have hz : mulR a ((0 : Nat) : Int) = (0, 0, 0, 0, 0) := by unfold mulR; simp
    rw [hz] at eo
    have eo : g_law04_ResTimes_6 N N (((n : Int), 0, ()), (a, ()), (b, ()), ((0, 0, 0, 0, 0), ()), ()) = _ := eo
    have o1 := ok n (Nat.le_refl _)
    have l1 := le n (Nat.le_refl _)
    have e2 : addR (mulR a (n : Int)) a = mulR a ((n : Int) + 1) := mul_succ a n
    have c1 : (0 : Int) ≤ n := by omega
    simp only [e, res_Right_is, ha, hb, decide_true, Bool.not_true, br_false, Option.bind_some, eo, Sum.elim_inl, res_Times_is, res_Add_is, e2, told, res_Fits_is, hk]
    by_cases c2 : (n : Int) = 400
    · by_cases c3 : okR (mulR a ((n : Int) + 1)) <;> simp [c1, h2, ha, hb, o1, l1, c2, c3, br] <;> simp_all [br]
    · by_cases c3 : okR (mulR a ((n : Int) + 1))
      · have c4 : ¬ leR (mulR a ((n : Int) + 1)) b := fun h => by have := (h3 ((n : Int) + 1) (by omega)).2 ⟨by omega, h⟩; omega
        simp [c1, h2, ha, hb, o1, l1, c2, c3, c4, br]
      · simp [c1, h2, ha, hb, o1, l1, c2, c3, br]
  · have e := res_How_no N a b h
    by_cases ha : okR a
    · have hb : ¬ okR b := fun hb => h ⟨ha, hb⟩
      simp [e, res_Right_is, ha, hb, hk, br]
    · simp [e, res_Right_is, ha, hk, br]
end Go.Proofs.Ytbnbmejjphjpaaa.Re
