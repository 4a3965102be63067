/- The document: taints with one more, and without some. -/
import Derived.Test.YtfifgcaielmbiaaTaiLTrC
namespace Go.Proofs.Ytfifgcaielmbiaa.TrC
open Go Go.VI
set_option linter.unusedVariables false
set_option linter.unusedSimpArgs false
set_option maxRecDepth 100000

theorem ref06_Add_is (N : Nat) (hN : Big N) {l : List Tai} (hl : l.length ≤ 1000000) (x : Tai) : G_ref06_Add N (l, x, ()) = some (l.filter (addB x) ++ [x], ()) := by
  have hN' := hN
  unfold Big at hN'
  obtain ⟨o, e1, y, rfl⟩ := Tot.filt (f := g_ref06_Add_3 N) (l := l) (p := addB x) (mk := fun i out => ((l, (i : Int), ()), (x, ()), out, ())) (Y := fun out o => ∃ y, o = .inl (y, (x, ()), out, ()))
    (fun m => by
      rw [g_ref06_Add_3_succ]
      unfold s_ref06_Add_3
      exact Tot.brD (fun h => absurd h (by dsimp only; omega)) fun _ => Tot.some ⟨_, rfl⟩)
    (fun m i Q hi yes no => by
      rw [g_ref06_Add_3_succ]
      unfold s_ref06_Add_3
      have d0 : decide ((0 : Int) ≤ (i : Int)) = true := decide_eq_true (by omega)
      have d1 : decide ((i : Int) < ((l.length : Nat) : Int)) = true := decide_eq_true (by omega)
      simp only [d0, d1, br_true, Int.toNat_natCast, at_lt hi, Option.bind_some, wi (i := i) (by omega), ble_filt hl]
      have hp : addB x l[i] = !(decide (x.1 = l[i].1) && decide (x.2.2 = l[i].2.2)) := rfl
      rw [show decide (x.1 = l[i].1) = decide (l[i].1 = x.1) from by rw [decide_eq_decide]; exact eq_comm, show decide (x.2.2 = l[i].2.2) = decide (l[i].2.2 = x.2.2) from by rw [decide_eq_decide]; exact eq_comm] at hp
      cases h1 : decide (l[i].1 = x.1) <;> cases h2 : decide (l[i].2.2 = x.2.2) <;> rw [h1, h2] at hp <;> first | exact yes hp | exact no hp)
    N (by omega)
  have e1 : g_ref06_Add_3 N N ((l, 0, ()), (x, ()), [], ()) = _ := e1
  unfold G_ref06_Add S_ref06_Add
  have hb : Nat.ble ((l.filter (addB x)).length + 1) maxElems = true := Nat.ble_eq_true_of_le (by
    have := List.length_filter_le (addB x) l
    unfold maxElems; omega)
  simp only [e1, Option.bind_some, Sum.elim_inl, hb, br_true]
theorem ref06_Drop_is (N : Nat) (hN : Big N) {l : List Tai} (hl : l.length ≤ 1000000) (key : ByteArray) (e : Int) : G_ref06_Drop N (l, key, e, ()) = some (l.filter (dropB' key e), ()) := by
  have hN' := hN
  unfold Big at hN'
  obtain ⟨o, e1, y, rfl⟩ := Tot.filt (f := g_ref06_Drop_3 N) (l := l) (p := dropB' key e) (mk := fun i out => ((l, key, e, (i : Int), ()), out, ())) (Y := fun out o => ∃ y, o = .inl (y, out, ()))
    (fun m => by
      rw [g_ref06_Drop_3_succ]
      unfold s_ref06_Drop_3
      exact Tot.brD (fun h => absurd h (by dsimp only; omega)) fun _ => Tot.some ⟨_, rfl⟩)
    (fun m i Q hi yes no => by
      rw [g_ref06_Drop_3_succ]
      unfold s_ref06_Drop_3
      have d0 : decide ((0 : Int) ≤ (i : Int)) = true := decide_eq_true (by omega)
      have d1 : decide ((i : Int) < ((l.length : Nat) : Int)) = true := decide_eq_true (by omega)
      simp only [d0, d1, br_true, Int.toNat_natCast, at_lt hi, Option.bind_some, wi (i := i) (by omega), ble_filt hl]
      have hp : dropB' key e l[i] = (!decide (l[i].1 = key) || !(decide (e = 0) || decide (l[i].2.2 = e))) := rfl
      cases h1 : decide (l[i].1 = key) <;> cases h0 : decide (e = 0) <;> cases h2 : decide (l[i].2.2 = e) <;> rw [h1, h0, h2] at hp <;> first | exact yes hp | exact no hp)
    N (by omega)
  have e1 : g_ref06_Drop_3 N N ((l, key, e, 0, ()), [], ()) = _ := e1
  unfold G_ref06_Drop S_ref06_Drop
  simp only [e1, Option.bind_some, Sum.elim_inl]
end Go.Proofs.Ytfifgcaielmbiaa.TrC
