/- The document: taints that are not borne. -/
import Derived.Test.YtfifgcaielmbiaaTaiLTrB
namespace Go.Proofs.Ytfifgcaielmbiaa.TrB
open Go Go.VI
set_option linter.unusedVariables false
set_option linter.unusedSimpArgs false
set_option maxRecDepth 100000

theorem ref06_Bears_is (N : Nat) (t : Tol) (x : Tai) : G_ref06_Bears N (t, x, ()) = some (bearB t x, ()) := by
  unfold G_ref06_Bears S_ref06_Bears bearB
  dsimp only
  cases decide (t.2.2.2 = 0) <;> cases decide (t.2.2.2 = x.2.2) <;> cases decide (t.1 = nameless) <;> cases decide (t.1 = x.1) <;> cases t.2.2.1 <;> rfl
theorem ref06_Unborne_is (N : Nat) (hN : Big N) {l : List Tol} {xs : List Tai} (hl : l.length ≤ 1000000) (hx : xs.length ≤ 1000000) (e : Int) : G_ref06_Unborne N (l, xs, e, ()) = some (xs.filter (unbB l e), ()) := by
  have hN' := hN
  unfold Big at hN'
  have inner : ∀ k (hk : k < xs.length) (out : List Tai) (b : Bool), Tot (g_ref06_Unborne_7 N N ((l, xs, e, (k : Int), b, 0, ()), out, ())) fun o => o = .inl ((l, xs, e, (k : Int), b || borneB l xs[k], ()), out, ()) := by
    intro k hk out b0
    have loop : ∀ m (i : Nat) x, i ≤ l.length → (∃ b, x = ((l, xs, e, (k : Int), b, (i : Int), ()), out, ()) ∧ (b || (l.drop i).any (fun t => bearB t xs[k])) = (b0 || borneB l xs[k])) → l.length - i < m →
        Tot (g_ref06_Unborne_7 N m x) fun o => o = .inl ((l, xs, e, (k : Int), b0 || borneB l xs[k], ()), out, ()) := by
      refine Tot.range l.length fun m i x ha hi rec => ?_
      obtain ⟨b, rfl, hb⟩ := ha
      rw [g_ref06_Unborne_7_succ]
      unfold s_ref06_Unborne_7
      by_cases hlt : i < l.length
      · have d0 : decide ((0 : Int) ≤ (i : Int)) = true := decide_eq_true (by omega)
        have d0' : decide ((0 : Int) ≤ (k : Int)) = true := decide_eq_true (by omega)
        have d1 : decide ((i : Int) < ((l.length : Nat) : Int)) = true := decide_eq_true (by omega)
        simp only [d0, d0', d1, br_true, Int.toNat_natCast, at_lt hlt, at_lt hk, Option.bind_some, wi (i := i) (by omega), ref06_Bears_is]
        rw [List.drop_eq_getElem_cons hlt, List.any_cons] at hb
        cases b
        · exact rec (i + 1) _ (by omega) (by omega) ⟨_, rfl, by rw [← hb, Bool.false_or]⟩
        · exact rec (i + 1) _ (by omega) (by omega) ⟨_, rfl, by rw [← hb, Bool.true_or, Bool.true_or]⟩
      · have d1 : decide ((i : Int) < ((l.length : Nat) : Int)) = false := decide_eq_false (by omega)
        simp only [d1, br_false]
        rw [List.drop_eq_nil_of_le (by omega), List.any_nil, Bool.or_false] at hb
        exact Tot.some (by rw [hb])
    exact loop N 0 _ (by omega) ⟨b0, rfl, rfl⟩ (by omega)
  obtain ⟨o, e1, y, rfl⟩ := Tot.filt (f := g_ref06_Unborne_3 N) (l := xs) (p := unbB l e) (mk := fun i out => ((l, xs, e, (i : Int), ()), out, ())) (Y := fun out o => ∃ y, o = .inl (y, out, ()))
    (fun m => by
      rw [g_ref06_Unborne_3_succ]
      unfold s_ref06_Unborne_3
      exact Tot.brD (fun h => absurd h (by dsimp only; omega)) fun _ => Tot.some ⟨_, rfl⟩)
    (fun m i Q hi yes no => by
      rw [g_ref06_Unborne_3_succ]
      unfold s_ref06_Unborne_3
      have d0 : decide ((0 : Int) ≤ (i : Int)) = true := decide_eq_true (by omega)
      have d1 : decide ((i : Int) < ((xs.length : Nat) : Int)) = true := decide_eq_true (by omega)
      simp only [d0, d1, br_true, Int.toNat_natCast, at_lt hi, Option.bind_some]
      have hp : unbB l e xs[i] = ((decide (e = 0) || decide (xs[i].2.2 = e)) && !borneB l xs[i]) := rfl
      by_cases he : e = 0
      · rw [decide_eq_true he, Bool.not_true, br_false]
        rw [decide_eq_true he] at hp
        refine Tot.bind (inner i hi _ false) fun v hv => ?_
        subst hv
        simp only [Sum.elim_inl, d0, br_true, Int.toNat_natCast, at_lt hi, Option.bind_some, wi (i := i) (by omega), ble_filt hx, Bool.false_or]
        cases hb : borneB l xs[i]
        · exact yes (by rw [hp, hb]; rfl)
        · exact no (by rw [hp, hb]; rfl)
      · rw [decide_eq_false he, Bool.not_false, br_true]
        rw [decide_eq_false he] at hp
        refine Tot.bind (inner i hi _ _) fun v hv => ?_
        subst hv
        simp only [Sum.elim_inl, d0, br_true, Int.toNat_natCast, at_lt hi, Option.bind_some, wi (i := i) (by omega), ble_filt hx]
        cases hd : decide (xs[i].2.2 = e)
        · exact no (by rw [hp, hd]; rfl)
        · cases hb : borneB l xs[i]
          · exact yes (by rw [hp, hd, hb]; rfl)
          · exact no (by rw [hp, hd, hb]; rfl))
    N (by omega)
  have e1 : g_ref06_Unborne_3 N N ((l, xs, e, 0, ()), [], ()) = _ := e1
  unfold G_ref06_Unborne S_ref06_Unborne
  simp only [e1, Option.bind_some]
  rfl
end Go.Proofs.Ytfifgcaielmbiaa.TrB
