/- Terms: the document. -/
import Derived.Test.YtncfllndmjjljaaLtmSBt
import Derived.Test.YtncfllndmjjljaaQnuFBt
import Derived.Test.YtncfllndmjjljaaLabFBt
namespace Go.Proofs.Ytncfllndmjjljaa.Bt
open Go Go.VI
set_option linter.unusedVariables false
set_option linter.unusedSimpArgs false
set_option maxRecDepth 100000

theorem ref05_RightTerm_is (N : Nat) (hN : Big N) {t : Term} (ht : okTm t) : G_ref05_RightTerm N (t, ()) = some (rightTm N t, ()) := by
  obtain ⟨k, op, vs⟩ := t
  obtain ⟨h1, h2, h3⟩ := ht
  have h1 : okS k := h1
  have h2 : vs.length ≤ 140737488355328 := h2
  have h3 : ∀ v ∈ vs, okS v := h3
  have hN' := hN
  unfold Big at hN'
  obtain ⟨o, e, ho⟩ := Tot.allL (f := g_ref05_RightTerm_7 N) (l := vs) (q := maybeB N) (Inv := fun i x => x = (((i : Int), ()), ((k, op, vs), ()), ())) (Y := fun o => o = .inl ((), ((k, op, vs), ()), ())) (No := fun o => o = .inr ((false, ()), ((k, op, vs), ()), ()))
    (fun m a ha => by
      subst ha
      rw [g_ref05_RightTerm_7_succ]
      unfold s_ref05_RightTerm_7
      exact Tot.brD (fun h => absurd h (by dsimp only; omega)) fun _ => Tot.some rfl)
    (fun m i a Q hi ha rec no => by
      subst ha
      rw [g_ref05_RightTerm_7_succ]
      unfold s_ref05_RightTerm_7
      have hm : vs[i] ∈ vs := List.getElem_mem hi
      have d0 : decide ((0 : Int) ≤ (i : Int)) = true := decide_eq_true (by omega)
      have d1 : decide ((i : Int) < ((vs.length : Nat) : Int)) = true := decide_eq_true (by omega)
      simp only [d0, d1, br_true, Int.toNat_natCast, at_lt hi, Option.bind_some, ref05_maybe_is hN (h3 _ hm), wi (i := i) (by omega)]
      cases c : maybeB N vs[i]
      · exact Tot.some (no c _ rfl)
      · exact rec c _ rfl)
    N ((0, ()), ((k, op, vs), ()), ()) (by omega) rfl
  have one : ∀ x : Int, (br (decide (1 ≤ ((vs.length : Nat) : Int))) (some ((decide (((vs.length : Nat) : Int) ≤ (16 : Int))), ())) (some (false, ()))) = some ((decide (1 ≤ vs.length) && decide (vs.length ≤ 16)), ()) := by
    intro x
    by_cases c : 1 ≤ vs.length
    · rw [decide_eq_true (show (1 : Int) ≤ ((vs.length : Nat) : Int) by omega), decide_eq_true c, br_true, Bool.true_and]
      congr 2; rw [decide_eq_decide]; omega
    · rw [decide_eq_false (show ¬ (1 : Int) ≤ ((vs.length : Nat) : Int) by omega), decide_eq_false c, br_false, Bool.false_and]
  have dl : decide (((vs.length : Nat) : Int) = 0) = decide (vs.length = 0) := by rw [decide_eq_decide]; omega
  unfold G_ref05_RightTerm S_ref05_RightTerm rightTm
  simp only [ref01_Word_is hN h1, Option.bind_some]
  cases hw : wordB N k
  · rfl
  simp only [Bool.not_true, br_false, Bool.true_and]
  by_cases e1 : op = 1
  · simp only [decide_eq_true e1, br_true, e, Option.bind_some, if_pos (show op = 1 ∨ op = 2 from .inl e1)]
    rcases ho with ⟨h, rfl⟩ | ⟨h, rfl⟩
    · simp only [Sum.elim_inl, h, Bool.true_and]; exact one 0
    · simp only [Sum.elim_inr, h, Bool.false_and]
  by_cases e2 : op = 2
  · simp only [decide_eq_false e1, decide_eq_true e2, br_true, br_false, e, Option.bind_some, if_pos (show op = 1 ∨ op = 2 from .inr e2)]
    rcases ho with ⟨h, rfl⟩ | ⟨h, rfl⟩
    · simp only [Sum.elim_inl, h, Bool.true_and]; exact one 0
    · simp only [Sum.elim_inr, h, Bool.false_and]
  rw [if_neg (show ¬ (op = 1 ∨ op = 2) by omega)]
  by_cases e3 : op = 3
  · simp only [decide_eq_false e1, decide_eq_false e2, decide_eq_true e3, br_true, br_false, if_pos (show op = 3 ∨ op = 4 from .inl e3), dl]
  by_cases e4 : op = 4
  · simp only [decide_eq_false e1, decide_eq_false e2, decide_eq_false e3, decide_eq_true e4, br_true, br_false, if_pos (show op = 3 ∨ op = 4 from .inr e4), dl]
  rw [if_neg (show ¬ (op = 3 ∨ op = 4) by omega)]
  have last : (br (Bool.not (decide (((vs.length : Nat) : Int) = 1))) (some (false, ())) (Option.bind (vs[(Int.toNat 0)]?) (fun v1 => (Option.bind (G_ref03_Number N (v1, ())) (fun v2 => (some ((decide (v2.2.1 = 0)), ()))))))) = some (numOne vs, ()) := by
    by_cases c : vs.length = 1
    · obtain ⟨v, rfl⟩ := one_list c
      have d1 : decide ((([v].length : Nat) : Int) = 1) = true := rfl
      have g0 : [v][(Int.toNat 0)]? = some v := rfl
      simp only [d1, br_true, g0, numOne] ; simp only [Option.bind_some, ref03_Number_is N hN (h3 v (by simp)), Bool.not_true, br_false]
    · rw [decide_eq_false (show ¬ ((vs.length : Nat) : Int) = 1 by omega), Bool.not_false, br_true]
      match vs, c with
      | [], _ => rfl
      | [_], c => exact absurd rfl c
      | _ :: _ :: _, _ => rfl
  by_cases e5 : op = 5
  · simp only [decide_eq_false e1, decide_eq_false e2, decide_eq_false e3, decide_eq_false e4, decide_eq_true e5, br_true, br_false, if_pos (show op = 5 ∨ op = 6 from .inl e5), last]
  by_cases e6 : op = 6
  · simp only [decide_eq_false e1, decide_eq_false e2, decide_eq_false e3, decide_eq_false e4, decide_eq_false e5, decide_eq_true e6, br_true, br_false, if_pos (show op = 5 ∨ op = 6 from .inr e6), last]
  simp only [decide_eq_false e1, decide_eq_false e2, decide_eq_false e3, decide_eq_false e4, decide_eq_false e5, decide_eq_false e6, br_false, if_neg (show ¬ (op = 5 ∨ op = 6) by omega)]
/-- Light labels, and terms. -/
theorem ref05_Light_tel (N : Nat) (hN : Big N) {l : Labels} (hl : okL l) : Tot (G_ref05_Light N (l, ())) fun v => v.1 = true → l.length ≤ 40 ∧ ∀ x ∈ l, x.1.size ≤ 300 ∧ x.2.size ≤ 300 := by
  have hN' := hN
  unfold Big at hN'; obtain ⟨h1, h2⟩ := hl
  obtain ⟨o, e, ho⟩ := Tot.allL (f := g_ref05_Light_4 N) (l := l) (q := fun x => decide (x.1.size ≤ 300) && decide (x.2.size ≤ 300)) (Inv := fun i x => x = ((l, (i : Int), ()), ())) (Y := fun o => ∃ y, o = .inl y) (No := fun o => ∃ y, o = .inr ((false, ()), y))
    (fun m a ha => by
      subst ha
      rw [g_ref05_Light_4_succ]
      unfold s_ref05_Light_4
      exact Tot.brD (fun h => absurd h (by dsimp only; omega)) fun _ => Tot.some ⟨_, rfl⟩)
    (fun m i a Q hi ha rec no => by
      subst ha
      rw [g_ref05_Light_4_succ]
      unfold s_ref05_Light_4
      have d0 : decide ((0 : Int) ≤ (i : Int)) = true := decide_eq_true (by omega)
      have d1 : decide ((i : Int) < ((l.length : Nat) : Int)) = true := decide_eq_true (by omega)
      simp only [d0, d1, br_true, Int.toNat_natCast, at_lt hi, Option.bind_some, wi (i := i) (by omega)]
      refine Tot.brD (fun c => Tot.some (no (by rw [decide_eq_false (show ¬ l[i].1.size ≤ 300 by omega)]; rfl) _ ⟨_, rfl⟩)) fun c => ?_
      refine Tot.brD (fun c => Tot.some (no (by rw [decide_eq_false (show ¬ l[i].2.size ≤ 300 by omega), Bool.and_false]) _ ⟨_, rfl⟩)) fun c' => ?_
      exact rec (by rw [decide_eq_true (show l[i].1.size ≤ 300 by omega), decide_eq_true (show l[i].2.size ≤ 300 by omega)]; rfl) _ rfl)
    N ((l, 0, ()), ()) (by omega) rfl
  unfold G_ref05_Light S_ref05_Light
  simp only [e, Option.bind_some]
  refine Tot.brD (fun _ => Tot.some fun h => by cases h) fun h => ?_
  rcases ho with ⟨ha, y, rfl⟩ | ⟨_, y, rfl⟩
  · refine Tot.some fun _ => ⟨by omega, fun x hx => ?_⟩
    have := List.all_eq_true.1 ha x hx
    simpa using this
  · exact Tot.some fun h => by cases h
theorem ref05_LightTerm_tot (N : Nat) (hN : Big N) {t : Term} (ht : okTm t) : Tot (G_ref05_LightTerm N (t, ())) fun v => v.1 = true → t.1.size ≤ 300 ∧ t.2.2.length ≤ 40 ∧ ∀ v ∈ t.2.2, v.size ≤ 300 := by
  obtain ⟨k, op, vs⟩ := t
  obtain ⟨h1, h2, h3⟩ := ht
  have h2 : vs.length ≤ 140737488355328 := h2
  have hN' := hN
  unfold Big at hN'
  obtain ⟨o, e, ho⟩ := Tot.allL (f := g_ref05_LightTerm_4 N) (l := vs) (q := fun x => decide (x.size ≤ 300)) (Inv := fun i x => x = (((i : Int), ()), ((k, op, vs), ()), ())) (Y := fun o => ∃ y, o = .inl y) (No := fun o => ∃ y, o = .inr ((false, ()), y))
    (fun m a ha => by
      subst ha
      rw [g_ref05_LightTerm_4_succ]
      unfold s_ref05_LightTerm_4
      exact Tot.brD (fun h => absurd h (by dsimp only; omega)) fun _ => Tot.some ⟨_, rfl⟩)
    (fun m i a Q hi ha rec no => by
      subst ha
      rw [g_ref05_LightTerm_4_succ]
      unfold s_ref05_LightTerm_4
      have d0 : decide ((0 : Int) ≤ (i : Int)) = true := decide_eq_true (by omega)
      have d1 : decide ((i : Int) < ((vs.length : Nat) : Int)) = true := decide_eq_true (by omega)
      simp only [d0, d1, br_true, Int.toNat_natCast, at_lt hi, Option.bind_some, wi (i := i) (by omega)]
      refine Tot.brD (fun c => Tot.some (no (by rw [decide_eq_false (show ¬ vs[i].size ≤ 300 by omega)]) _ ⟨_, rfl⟩)) fun c => ?_
      exact rec (by rw [decide_eq_true (show vs[i].size ≤ 300 by omega)]) _ rfl)
    N ((0, ()), ((k, op, vs), ()), ()) (by omega) rfl
  unfold G_ref05_LightTerm S_ref05_LightTerm
  simp only [e, Option.bind_some]
  refine Tot.brD (fun _ => Tot.some fun h => by cases h) fun h => ?_
  refine Tot.brD (fun _ => Tot.some fun h => by cases h) fun h' => ?_
  rcases ho with ⟨ha, y, rfl⟩ | ⟨_, y, rfl⟩
  · refine Tot.some fun _ => ⟨by show k.size ≤ 300; omega, by show vs.length ≤ 40; omega, fun x hx => ?_⟩
    have := List.all_eq_true.1 ha x hx
    simpa using this
  · exact Tot.some fun h => by cases h
end Go.Proofs.Ytncfllndmjjljaa.Bt
