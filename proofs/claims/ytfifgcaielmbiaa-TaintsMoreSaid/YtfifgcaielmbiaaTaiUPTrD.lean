/- taints.Unborne. -/
import Derived.Test.YtfifgcaielmbiaaTaiLTrD
namespace Go.Proofs.Ytfifgcaielmbiaa.TrD
open Go Go.VI
set_option linter.unusedVariables false
set_option linter.unusedSimpArgs false
set_option maxRecDepth 100000

theorem taints_Bears_is (N : Nat) (t : Tol) (x : Tai) : G_taints_Bears N (t, x, ()) = some (bearB t x, ()) := by
  unfold G_taints_Bears S_taints_Bears bearB
  dsimp only
  cases decide (t.2.2.2 = 0) <;> cases decide (t.2.2.2 = x.2.2) <;> cases decide (t.1 = nameless) <;> cases decide (t.1 = x.1) <;> cases t.2.2.1 <;> rfl
theorem taints_of_is (N : Nat) (x : Tai) (e : Int) : G_taints_of N (x, e, ()) = some (ofB e x, ()) := by
  unfold G_taints_of S_taints_of ofB
  dsimp only
  cases decide (e = 0) <;> rfl
theorem taints_borne_is (N : Nat) (hN : Big N) {l : List Tol} (hl : l.length ≤ 1000000) (x : Tai) : G_taints_borne N (l, x, ()) = some (borneB l x, ()) := by
  unfold Big at hN
  have loop := Tot.all (f := g_taints_borne_2 N) (Inv := fun i y => y = ((l, (l.length : Int), (i : Int), ()), (x, ()), ())) (Y := fun o => ∃ y, o = .inl y) (No := fun o => ∃ y, o = .inr ((true, ()), y)) l.length (atP (fun t => !bearB t x) l)
    (fun m a ha => by
      subst ha
      rw [g_taints_borne_2_succ]
      unfold s_taints_borne_2
      exact Tot.brD (fun h => absurd h (by dsimp only; omega)) fun _ => Tot.some ⟨_, rfl⟩)
    (fun m i a Q ha hi rec no => by
      subst ha
      rw [g_taints_borne_2_succ]
      unfold s_taints_borne_2
      have d0 : decide ((0 : Int) ≤ (i : Int)) = true := decide_eq_true (by omega)
      have d1 : decide ((i : Int) < ((l.length : Nat) : Int)) = true := decide_eq_true (by omega)
      simp only [d0, d1, br_true, Int.toNat_natCast, at_lt hi, Option.bind_some, wi (i := i) (by omega), taints_Bears_is]
      rw [atP_lt hi] at rec no
      cases hb : bearB l[i] x
      · rw [hb] at rec; exact rec rfl _ rfl
      · rw [hb] at no; exact Tot.some (no rfl _ ⟨_, rfl⟩))
    N 0 ((l, (l.length : Int), 0, ()), (x, ()), ()) (by omega) rfl (by omega)
  obtain ⟨o, e, ho⟩ := loop
  rw [Nat.sub_zero, all_full] at ho
  unfold G_taints_borne S_taints_borne
  simp only [e, Option.bind_some]
  have hb : borneB l x = !l.all (fun t => !bearB t x) := by
    unfold borneB
    rw [List.not_all_eq_any_not]
    simp
  rw [hb]
  split at ho
  · rename_i hy; obtain ⟨y, rfl⟩ := ho; rw [hy]; rfl
  · rename_i hy; obtain ⟨y, rfl⟩ := ho; rw [Bool.not_eq_true] at hy; rw [hy]; rfl
theorem taints_Unborne_is (N : Nat) (hN : Big N) {l : List Tol} {xs : List Tai} (hl : l.length ≤ 1000000) (hx : xs.length ≤ 1000000) (e : Int) : G_taints_Unborne N (l, xs, e, ()) = some (xs.filter (unbB l e), ()) := by
  have hN' := hN
  unfold Big at hN'
  obtain ⟨o, e1, y, rfl⟩ := Tot.filt (f := gx_taints_Unborne_0 N) (l := xs) (p := unbB l e) (mk := fun i out => (((e, l, ()), xs, (xs.length : Int), (i : Int), ()), out, ())) (Y := fun out o => ∃ y, o = .inl (y, out, ()))
    (fun m => by
      rw [gx_taints_Unborne_0_succ]
      unfold sx_taints_Unborne_0
      exact Tot.brD (fun h => absurd h (by dsimp only; omega)) fun _ => Tot.some ⟨_, rfl⟩)
    (fun m i Q hi yes no => by
      rw [gx_taints_Unborne_0_succ]
      unfold sx_taints_Unborne_0
      have d0 : decide ((0 : Int) ≤ (i : Int)) = true := decide_eq_true (by omega)
      have d1 : decide ((i : Int) < ((xs.length : Nat) : Int)) = true := decide_eq_true (by omega)
      simp only [d0, d1, br_true, Int.toNat_natCast, at_lt hi, Option.bind_some, wi (i := i) (by omega), taints_of_is, taints_borne_is N hN hl, ble_filt hx]
      have hp : unbB l e xs[i] = (ofB e xs[i] && !borneB l xs[i]) := rfl
      cases h1 : ofB e xs[i]
      · exact no (by rw [hp, h1]; rfl)
      · cases h2 : borneB l xs[i]
        · exact yes (by rw [hp, h1, h2]; rfl)
        · exact no (by rw [hp, h1, h2]; rfl))
    N (by omega)
  have e1 : gx_taints_Unborne_0 N N (((e, l, ()), xs, (xs.length : Int), 0, ()), [], ()) = _ := e1
  unfold G_taints_Unborne S_taints_Unborne
  simp only [e1, Option.bind_some]
  rfl
end Go.Proofs.Ytfifgcaielmbiaa.TrD
