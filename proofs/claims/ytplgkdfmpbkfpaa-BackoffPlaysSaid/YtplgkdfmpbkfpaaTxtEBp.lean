/- Rows of texts that are one. -/
import Derived.Test.YtplgkdfmpbkfpaaBaseBp
namespace Go.Proofs.Ytplgkdfmpbkfpaa.Bp
open Go Go.VI
set_option linter.unusedVariables false
set_option linter.unusedSimpArgs false
set_option maxRecDepth 100000

theorem Texts_same (N : Nat) (hN : Big N) {l : List ByteArray} (hl : l.length ≤ 1000) : G_ref09_Texts N (l, l, ()) = some (true, ()) := by
  unfold Big at hN
  have loop : ∀ m (i : Nat) x, i ≤ l.length → x = ((l, l, (i : Int), ()), ()) → l.length - i < m → Tot (g_ref09_Texts_4 N m x) fun o => ∃ y, o = .inl y := by
    refine Tot.range l.length fun m i x ha hi rec => ?_
    subst ha
    rw [g_ref09_Texts_4_succ]
    unfold s_ref09_Texts_4
    by_cases hlt : i < l.length
    · have d0 : decide ((0 : Int) ≤ (i : Int)) = true := decide_eq_true (by omega)
      have d1 : decide ((i : Int) < ((l.length : Nat) : Int)) = true := decide_eq_true (by omega)
      simp only [d0, d1, br_true, Int.toNat_natCast, at_lt hlt, Option.bind_some, wi (i := i) (by omega), decide_true, Bool.not_true, br_false]
      exact rec (i + 1) _ (by omega) (by omega) rfl
    · have d1 : decide ((i : Int) < ((l.length : Nat) : Int)) = false := decide_eq_false (by omega)
      simp only [d1, br_false]
      exact Tot.some ⟨_, rfl⟩
  obtain ⟨o, e, y, rfl⟩ := loop N 0 ((l, l, 0, ()), ()) (by omega) rfl (by omega)
  unfold G_ref09_Texts S_ref09_Texts
  simp only [decide_true, Bool.not_true, br_false, e, Option.bind_some, Sum.elim_inl]
end Go.Proofs.Ytplgkdfmpbkfpaa.Bp
