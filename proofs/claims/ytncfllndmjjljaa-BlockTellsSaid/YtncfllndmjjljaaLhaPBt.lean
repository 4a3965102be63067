/- What labels say: the functions. -/
import Derived.Test.YtncfllndmjjljaaLhaSBt
namespace Go.Proofs.Ytncfllndmjjljaa.Bt
open Go Go.VI
set_option linter.unusedVariables false
set_option linter.unusedSimpArgs false
set_option maxRecDepth 100000

theorem labels_at_is (N : Nat) (hN : Big N) {l : Labels} (hl : l.length ≤ 140737488355328) (k : ByteArray) : Tot (G_labels_at N (l, k, ())) fun o => ∃ i : Nat, i ≤ l.length ∧ (l.take i).all (fun x => bl x.1 k) = true ∧
    ((i = l.length ∧ o = ((i : Int), false, ())) ∨ ∃ hi : i < l.length, bl l[i].1 k = false ∧ o = ((i : Int), decide (l[i].1 = k), ())) := by
  have hN' := hN
  unfold Big at hN'
  obtain ⟨o, e, ho⟩ := Tot.findI (f := g_labels_at_2 N) (l := l) (q := fun x => !bl x.1 k) (Inv := fun i x => x = ((l, k, l, (l.length : Int), (i : Int), ()), ())) (Y := fun o => ∃ y, o = .inl ((l, ()), y)) (No := fun i x o => ∃ y, o = .inr (((i : Int), decide (x.1 = k), ()), y))
    (fun m a ha => by
      subst ha
      rw [g_labels_at_2_succ]
      unfold s_labels_at_2
      exact Tot.brD (fun h => absurd h (by dsimp only; omega)) fun _ => Tot.some ⟨_, rfl⟩)
    (fun m i a Q hi ha rec no => by
      subst ha
      rw [g_labels_at_2_succ]
      unfold s_labels_at_2
      have d0 : decide ((0 : Int) ≤ (i : Int)) = true := decide_eq_true (by omega)
      have d1 : decide ((i : Int) < ((l.length : Nat) : Int)) = true := decide_eq_true (by omega)
      simp only [d0, d1, br_true, Int.toNat_natCast, at_lt hi, Option.bind_some, wi (i := i) (by omega)]
      exact Tot.br (fun c => Tot.some (no c _ ⟨_, rfl⟩)) fun c => rec c _ rfl)
    N ((l, k, l, (l.length : Int), 0, ()), ()) (by omega) rfl
  unfold G_labels_at S_labels_at
  simp only [e, Option.bind_some]
  simp only [Bool.not_not] at ho
  rcases ho with ⟨h, y, rfl⟩ | ⟨i, hi, h1, h2, y, rfl⟩
  · exact Tot.some ⟨l.length, Nat.le_refl _, by rw [List.take_length]; exact h, .inl ⟨rfl, rfl⟩⟩
  · exact Tot.some ⟨i, by omega, h2, .inr ⟨hi, by simpa using h1, rfl⟩⟩
/-- Behind the first that does not stand ahead of a key, in right labels, all stand behind it. -/
theorem labels_Get_is (N : Nat) (hN : Big N) {l : Labels} (hl : l.length ≤ 140737488355328) (hs : SortL l) (k : ByteArray) : G_labels_Get N (l, k, ()) = some (getR l k) := by
  obtain ⟨o, e, i, hle, hall, ho⟩ := labels_at_is N hN hl k
  unfold G_labels_Get S_labels_Get getR
  simp only [e, Option.bind_some]
  rcases ho with ⟨rfl, rfl⟩ | ⟨hi, h1, rfl⟩
  · rw [sort_none hs hall (fun hi => absurd hi (by omega))]; rfl
  · by_cases c : l[i].1 = k
    · have d0 : decide ((0 : Int) ≤ (i : Int)) = true := decide_eq_true (by omega)
      rw [sort_some hall hi c]
      simp only [decide_eq_true c, Bool.not_true, br_false, d0, br_true, Int.toNat_natCast, at_lt hi, Option.bind_some]; rfl
    · rw [sort_none hs hall (fun hi => ⟨h1, c⟩)]
      simp only [decide_eq_false c]; rfl
theorem labels_Has_is (N : Nat) (hN : Big N) {l xs : Labels} (hl : okL l) (hs : SortL l) (hx : okL xs) : G_labels_Has N (l, xs, ()) = some (hasB l xs, ()) := by
  have hN' := hN
  unfold Big at hN'; have h1 := hx.1
  obtain ⟨o, e, ho⟩ := Tot.allL (f := g_labels_Has_2 N) (l := xs) (q := fun x => (getL l x.1).isSome && decide ((getL l x.1).getD nameless = x.2)) (Inv := fun i x => x = ((l, xs, (xs.length : Int), (i : Int), ()), ())) (Y := fun o => ∃ y, o = .inl y) (No := fun o => ∃ y, o = .inr ((false, ()), y))
    (fun m a ha => by
      subst ha
      rw [g_labels_Has_2_succ]
      unfold s_labels_Has_2
      exact Tot.brD (fun h => absurd h (by dsimp only; omega)) fun _ => Tot.some ⟨_, rfl⟩)
    (fun m i a Q hi ha rec no => by
      subst ha
      rw [g_labels_Has_2_succ]
      unfold s_labels_Has_2
      have d0 : decide ((0 : Int) ≤ (i : Int)) = true := decide_eq_true (by omega)
      have d1 : decide ((i : Int) < ((xs.length : Nat) : Int)) = true := decide_eq_true (by omega)
      simp only [d0, d1, br_true, Int.toNat_natCast, at_lt hi, Option.bind_some, wi (i := i) (by omega), labels_Get_is N hN hl.1 hs, getR]
      cases c1 : (getL l xs[i].1).isSome
      · exact Tot.some (no (by rw [c1]; rfl) _ ⟨_, rfl⟩)
      cases c2 : decide ((getL l xs[i].1).getD nameless = xs[i].2)
      · exact Tot.some (no (by rw [c2, Bool.and_false]) _ ⟨_, rfl⟩)
      · exact rec (by rw [c1, c2]; rfl) _ rfl)
    N ((l, xs, (xs.length : Int), 0, ()), ()) (by omega) rfl
  unfold G_labels_Has S_labels_Has hasB
  simp only [e, Option.bind_some]
  rcases ho with ⟨h, y, rfl⟩ | ⟨h, y, rfl⟩ <;> rw [h] <;> rfl
end Go.Proofs.Ytncfllndmjjljaa.Bt
