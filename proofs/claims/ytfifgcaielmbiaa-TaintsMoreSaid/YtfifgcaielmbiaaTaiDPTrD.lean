/- taints.Add, taints.Drop. -/
import Derived.Test.YtfifgcaielmbiaaTaiUPTrD
namespace Go.Proofs.Ytfifgcaielmbiaa.TrD
open Go Go.VI
set_option linter.unusedVariables false
set_option linter.unusedSimpArgs false
set_option maxRecDepth 100000

theorem x_taints_Add_0_filt (N : Nat) (hN : Big N) {l : List Tai} (hl : l.length ≤ 1000000) (x : Tai) : Tot (gx_taints_Add_0 N N (((x, ()), l, (l.length : Int), 0, ()), [], ())) fun o => ∃ y, o = .inl (y, l.filter (addB x), ()) := by
  unfold Big at hN
  exact Tot.filt (f := gx_taints_Add_0 N) (l := l) (p := addB x) (mk := fun i out => (((x, ()), l, (l.length : Int), (i : Int), ()), out, ())) (Y := fun out o => ∃ y, o = .inl (y, out, ()))
    (fun m => by
      rw [gx_taints_Add_0_succ]
      unfold sx_taints_Add_0
      exact Tot.brD (fun h => absurd h (by dsimp only; omega)) fun _ => Tot.some ⟨_, rfl⟩)
    (fun m i Q hi yes no => by
      rw [gx_taints_Add_0_succ]
      unfold sx_taints_Add_0
      have d0 : decide ((0 : Int) ≤ (i : Int)) = true := decide_eq_true (by omega)
      have d1 : decide ((i : Int) < ((l.length : Nat) : Int)) = true := decide_eq_true (by omega)
      simp only [d0, d1, br_true, Int.toNat_natCast, at_lt hi, Option.bind_some, wi (i := i) (by omega), G_taints_like, S_taints_like, ble_filt hl, decide_true, Bool.true_and, Bool.and_true]
      have hp : addB x l[i] = !(decide (x.1 = l[i].1) && decide (x.2.2 = l[i].2.2)) := rfl
      cases h : addB x l[i]
      · rw [h] at hp
        rw [show Bool.not (decide (x.1 = l[i].1) && decide (x.2.2 = l[i].2.2)) = false from hp.symm]
        exact no h
      · rw [h] at hp
        rw [show Bool.not (decide (x.1 = l[i].1) && decide (x.2.2 = l[i].2.2)) = true from hp.symm]
        exact yes h)
    N (by omega)
theorem x_taints_Drop_0_filt (N : Nat) (hN : Big N) {l : List Tai} (hl : l.length ≤ 1000000) (key : ByteArray) (e : Int) : Tot (gx_taints_Drop_0 N N (((key, e, ()), l, (l.length : Int), 0, ()), [], ())) fun o => ∃ y, o = .inl (y, l.filter (dropB' key e), ()) := by
  unfold Big at hN
  exact Tot.filt (f := gx_taints_Drop_0 N) (l := l) (p := dropB' key e) (mk := fun i out => (((key, e, ()), l, (l.length : Int), (i : Int), ()), out, ())) (Y := fun out o => ∃ y, o = .inl (y, out, ()))
    (fun m => by
      rw [gx_taints_Drop_0_succ]
      unfold sx_taints_Drop_0
      exact Tot.brD (fun h => absurd h (by dsimp only; omega)) fun _ => Tot.some ⟨_, rfl⟩)
    (fun m i Q hi yes no => by
      rw [gx_taints_Drop_0_succ]
      unfold sx_taints_Drop_0
      have d0 : decide ((0 : Int) ≤ (i : Int)) = true := decide_eq_true (by omega)
      have d1 : decide ((i : Int) < ((l.length : Nat) : Int)) = true := decide_eq_true (by omega)
      simp only [d0, d1, br_true, Int.toNat_natCast, at_lt hi, Option.bind_some, wi (i := i) (by omega), taints_of_is, ble_filt hl]
      have hp : dropB' key e l[i] = (!decide (l[i].1 = key) || !ofB e l[i]) := rfl
      cases h1 : decide (l[i].1 = key) <;> cases h2 : ofB e l[i] <;> rw [h1, h2] at hp <;> first | exact yes hp | exact no hp)
    N (by omega)
theorem taints_Add_is (N : Nat) (hN : Big N) {l : List Tai} (hl : l.length ≤ 1000000) (x : Tai) : G_taints_Add N (l, x, ()) = some (l.filter (addB x) ++ [x], ()) := by
  obtain ⟨o, e, y, rfl⟩ := x_taints_Add_0_filt N hN hl x
  unfold G_taints_Add S_taints_Add
  have hb : Nat.ble ((l.filter (addB x)).length + 1) maxElems = true := Nat.ble_eq_true_of_le (by
    have := List.length_filter_le (addB x) l
    unfold maxElems; omega)
  simp only [e, Option.bind_some, Sum.elim_inl, hb, br_true]
theorem taints_Drop_is (N : Nat) (hN : Big N) {l : List Tai} (hl : l.length ≤ 1000000) (key : ByteArray) (e : Int) : G_taints_Drop N (l, key, e, ()) = some (l.filter (dropB' key e), ()) := by
  obtain ⟨o, e, y, rfl⟩ := x_taints_Drop_0_filt N hN hl key e
  unfold G_taints_Drop S_taints_Drop
  simp only [e, Option.bind_some, Sum.elim_inl]
end Go.Proofs.Ytfifgcaielmbiaa.TrD
