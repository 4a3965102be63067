/- What labels say: the document. -/
import Derived.Test.YtncfllndmjjljaaLhaSBt
namespace Go.Proofs.Ytncfllndmjjljaa.Bt
open Go Go.VI
set_option linter.unusedVariables false
set_option linter.unusedSimpArgs false
set_option maxRecDepth 100000

theorem ref05_Get_is (N : Nat) (hN : Big N) {l : Labels} (hl : l.length ≤ 140737488355328) (k : ByteArray) : G_ref05_Get N (l, k, ()) = some (getR l k) := by
  have hN' := hN
  unfold Big at hN'
  obtain ⟨o, e, ho⟩ := Tot.find (f := g_ref05_Get_2 N) (l := l) (q := fun x => decide (x.1 = k)) (Inv := fun i x => x = ((l, k, (i : Int), ()), ())) (Y := fun o => ∃ y, o = .inl y) (No := fun x o => ∃ y, o = .inr ((x.2, true, ()), y))
    (fun m a ha => by
      subst ha
      rw [g_ref05_Get_2_succ]
      unfold s_ref05_Get_2
      exact Tot.brD (fun h => absurd h (by dsimp only; omega)) fun _ => Tot.some ⟨_, rfl⟩)
    (fun m i a Q hi ha rec no => by
      subst ha
      rw [g_ref05_Get_2_succ]
      unfold s_ref05_Get_2
      have d0 : decide ((0 : Int) ≤ (i : Int)) = true := decide_eq_true (by omega)
      have d1 : decide ((i : Int) < ((l.length : Nat) : Int)) = true := decide_eq_true (by omega)
      simp only [d0, d1, br_true, Int.toNat_natCast, at_lt hi, Option.bind_some, wi (i := i) (by omega)]
      refine Tot.brD (fun c => Tot.some (no (decide_eq_true c) _ ⟨_, rfl⟩)) fun c => rec (decide_eq_false c) _ rfl)
    N ((l, k, 0, ()), ()) (by omega) rfl
  unfold G_ref05_Get S_ref05_Get getR getL
  simp only [e, Option.bind_some]
  rcases ho with ⟨h, y, rfl⟩ | ⟨x, _, h, _, y, rfl⟩ <;> rw [h] <;> rfl
theorem ref05_Has_is (N : Nat) (hN : Big N) {l xs : Labels} (hl : okL l) (hx : okL xs) : G_ref05_Has N (l, xs, ()) = some (hasB l xs, ()) := by
  have hN' := hN
  unfold Big at hN'; have h1 := hx.1
  obtain ⟨o, e, ho⟩ := Tot.allL (f := g_ref05_Has_2 N) (l := xs) (q := fun x => (getL l x.1).isSome && decide ((getL l x.1).getD nameless = x.2)) (Inv := fun i x => x = ((l, xs, (i : Int), ()), ())) (Y := fun o => ∃ y, o = .inl y) (No := fun o => ∃ y, o = .inr ((false, ()), y))
    (fun m a ha => by
      subst ha
      rw [g_ref05_Has_2_succ]
      unfold s_ref05_Has_2
      exact Tot.brD (fun h => absurd h (by dsimp only; omega)) fun _ => Tot.some ⟨_, rfl⟩)
    (fun m i a Q hi ha rec no => by
      subst ha
      rw [g_ref05_Has_2_succ]
      unfold s_ref05_Has_2
      have d0 : decide ((0 : Int) ≤ (i : Int)) = true := decide_eq_true (by omega)
      have d1 : decide ((i : Int) < ((xs.length : Nat) : Int)) = true := decide_eq_true (by omega)
      simp only [d0, d1, br_true, Int.toNat_natCast, at_lt hi, Option.bind_some, wi (i := i) (by omega), ref05_Get_is N hN hl.1, getR]
      cases c1 : (getL l xs[i].1).isSome
      · exact Tot.some (no (by rw [c1]; rfl) _ ⟨_, rfl⟩)
      cases c2 : decide ((getL l xs[i].1).getD nameless = xs[i].2)
      · exact Tot.some (no (by rw [c2, Bool.and_false]) _ ⟨_, rfl⟩)
      · exact rec (by rw [c1, c2]; rfl) _ rfl)
    N ((l, xs, 0, ()), ()) (by omega) rfl
  unfold G_ref05_Has S_ref05_Has hasB
  simp only [e, Option.bind_some]
  rcases ho with ⟨h, y, rfl⟩ | ⟨h, y, rfl⟩ <;> rw [h] <;> rfl
end Go.Proofs.Ytncfllndmjjljaa.Bt
