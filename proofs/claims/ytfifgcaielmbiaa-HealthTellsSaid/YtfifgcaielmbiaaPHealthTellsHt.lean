/- HealthTells: what the law computes is true. -/
import Derived.Test.YtfifgcaielmbiaaHeaBHt
namespace Go.Proofs.Ytfifgcaielmbiaa.Ht
open Go Go.VI
set_option linter.unusedVariables false
set_option linter.unusedSimpArgs false
set_option maxRecDepth 100000

theorem countP_len (l : List Inst) (p : Inst → Bool) : l.countP p = (l.filter p).length := List.countP_eq_length_filter
theorem pureHealthTells (x : List Mach × List Inst × (Int × Int) × Unit) (hw : Ty.wf (.slice tyMach) x.1 ∧ Ty.wf (.slice (.agg (.pair .str (.pair .str (.pair (.int .i64) (.pair (.int .i64) (.int .i64))))))) x.2.1 ∧ Ty.wf (.agg (.pair (.int .i64) (.int .i64))) x.2.2.1 ∧ True) : ∃ N, G_law29_HealthTells N x = some (true, ()) := by
  obtain ⟨ms, l, ⟨now, lim⟩, ⟨⟩⟩ := x
  obtain ⟨⟨_, hms⟩, _⟩ := hw
  have hms := fun m hm => okM_of (hms m hm)
  refine ⟨281474976710656 + 300, ?_⟩
  have hk := known_is 281474976710656
  have hN := big
  generalize 281474976710656 + 300 = N at *
  obtain ⟨⟨b1, ⟨⟩⟩, e1, k1⟩ := Light09_tot N hN ms hms
  obtain ⟨⟨b2, ⟨⟩⟩, e2, k2⟩ := light29_tot N hN l
  unfold G_law29_HealthTells S_law29_HealthTells
  simp only [e1, e2, Option.bind_some, hk]
  cases b1
  · rfl
  · cases b2
    · rfl
    · have hm := k1 rfl
      have hl := k2 rfl
      have s1 := health_Share_is N hN ms (by omega)
      have s2 := ref29_Share_is N hN ms (by omega)
      simp only [s1, s2, health_Late_is N hN l hl, ref29_Late_is N hN l hl, health_Coming_is N hN l hl, ref29_Coming_is N hN l hl, Insts_same N hN _ (Nat.le_trans (List.length_filter_le _ l) hl), health_Size_is N hN l hl, ref29_Size_is N hN l hl, countP_len, Option.bind_some, decide_true, br_true, Bool.not_true, br_false, br_dec, if_true]
      repeat' split
      all_goals first | rfl | skip
      all_goals
        cases hv : l[(0 : Int).toNat]? with
        | some v => rfl
        | none =>
          exfalso
          have : l.length ≤ 0 := by simpa using hv
          omega
end Go.Proofs.Ytfifgcaielmbiaa.Ht
