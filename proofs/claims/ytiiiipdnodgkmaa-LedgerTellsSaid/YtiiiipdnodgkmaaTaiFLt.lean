/- The document: taints that are right. -/
import Derived.Test.YtiiiipdnodgkmaaTaiSLt
namespace Go.Proofs.Ytiiiipdnodgkmaa.Lt
open Go Go.VI
set_option linter.unusedVariables false
set_option linter.unusedSimpArgs false
set_option maxRecDepth 100000

theorem ref06_maybe_is {N : Nat} (hN : Big N) {s : ByteArray} (hs : okS s) : G_ref06_maybe N (s, ()) = some (maybeB N s, ()) := by
  unfold G_ref06_maybe S_ref06_maybe maybeB
  simp only [ref01_Word_is hN hs, Option.bind_some]
  by_cases h : s = nameless <;> simp [h, br]
theorem ref06_effect_is (N : Nat) (n : Int) : G_ref06_effect N (n, ()) = some (decide (1 ≤ n ∧ n ≤ 3), ()) := by
  unfold G_ref06_effect S_ref06_effect
  by_cases h1 : 1 ≤ n
  · simp only [decide_eq_true h1, br_true]
    congr 2; rw [decide_eq_decide]; omega
  · simp only [decide_eq_false h1, br_false]
    congr 2; symm; rw [decide_eq_false_iff_not]; omega
theorem ref06_Right_is (N : Nat) (hN : Big N) {l : Taints} (hl : okT l) : G_ref06_Right N (l, ()) = some (rightT N l, ()) := by
  have hN' := hN
  unfold Big at hN'; obtain ⟨h1, h2⟩ := hl
  have inner : ∀ k (hk : k < l.length), Tot (g_ref06_Right_9 N N ((l, (k : Int), 0, ()), ())) fun o => if (l.take k).all (fun y => !twin l[k] y) = true then o = .inl ((l, (k : Int), ()), ()) else ∃ y, o = .inr ((false, ()), y) := by
    intro k hk
    have := Tot.all (f := g_ref06_Right_9 N) (Inv := fun i x => x = ((l, (k : Int), (i : Int), ()), ())) (Y := fun o => o = .inl ((l, (k : Int), ()), ())) (No := fun o => ∃ y, o = .inr ((false, ()), y)) k (atP (fun y => !twin l[k] y) l)
      (fun m a ha => by
        subst ha
        rw [g_ref06_Right_9_succ]
        unfold s_ref06_Right_9
        exact Tot.brD (fun h => absurd h (by dsimp only; omega)) fun _ => Tot.some rfl)
      (fun m i a Q ha hi rec no => by
        subst ha
        rw [g_ref06_Right_9_succ]
        unfold s_ref06_Right_9
        have d0 : decide ((0 : Int) ≤ (i : Int)) = true := decide_eq_true (by omega)
        have d0' : decide ((0 : Int) ≤ (k : Int)) = true := decide_eq_true (by omega)
        have d1 : decide ((i : Int) < (k : Int)) = true := decide_eq_true (by omega)
        have hi' : i < l.length := by omega
        simp only [d0, d0', d1, br_true, Int.toNat_natCast, at_lt hi', at_lt hk, Option.bind_some, wi (i := i) (by omega)]
        simp only [atP_lt hi', twin] at rec no
        by_cases e1 : l[i].1 = l[k].1
        · by_cases e2 : l[i].2.2 = l[k].2.2
          · simp only [decide_eq_true e1, decide_eq_true e2, br_true]
            exact Tot.some (no (by simp [e1, e2]) _ ⟨_, rfl⟩)
          · simp only [decide_eq_true e1, decide_eq_false e2, br_true, br_false]
            exact rec (by simp [e1, e2]) _ rfl
        · simp only [decide_eq_false e1, br_false]
          exact rec (by simp [e1]) _ rfl)
      N 0 ((l, (k : Int), 0, ()), ()) (by omega) rfl (by omega)
    rw [Nat.sub_zero, all_take (by omega)] at this
    exact this
  have loop := Tot.all (f := g_ref06_Right_4 N) (Inv := fun i x => x = ((l, (i : Int), ()), ())) (Y := fun o => ∃ y, o = .inl y) (No := fun o => ∃ y, o = .inr ((false, ()), y)) l.length (okTai N l)
    (fun m a ha => by
      subst ha
      rw [g_ref06_Right_4_succ]
      unfold s_ref06_Right_4
      exact Tot.brD (fun h => absurd h (by dsimp only; omega)) fun _ => Tot.some ⟨_, rfl⟩)
    (fun m i a Q ha hi rec no => by
      subst ha
      rw [g_ref06_Right_4_succ]
      unfold s_ref06_Right_4
      have hm : l[i] ∈ l := List.getElem_mem hi
      have d0 : decide ((0 : Int) ≤ (i : Int)) = true := decide_eq_true (by omega)
      have d1 : decide ((i : Int) < ((l.length : Nat) : Int)) = true := decide_eq_true (by omega)
      simp only [d0, d1, br_true, Int.toNat_natCast, at_lt hi, Option.bind_some, ref01_Word_is hN (h2 _ hm).1, ref06_maybe_is hN (h2 _ hm).2, ref06_effect_is]
      have hok : okTai N l i = (((wordB N l[i].1 && maybeB N l[i].2.1) && decide (1 ≤ l[i].2.2 ∧ l[i].2.2 ≤ 3)) && (l.take i).all (fun y => !twin l[i] y)) := by unfold okTai; rw [at_lt hi]; first | done | rfl
      cases hw : wordB N l[i].1
      · rw [hw] at hok
        exact Tot.some (no (by rw [hok]; rfl) _ ⟨_, rfl⟩)
      cases hv : maybeB N l[i].2.1
      · rw [hw, hv] at hok
        exact Tot.some (no (by rw [hok]; rfl) _ ⟨_, rfl⟩)
      cases he : decide (1 ≤ l[i].2.2 ∧ l[i].2.2 ≤ 3)
      · rw [hw, hv, he] at hok
        exact Tot.some (no (by rw [hok]; rfl) _ ⟨_, rfl⟩)
      rw [hw, hv, he] at hok
      simp only [Bool.not_true, br_false]
      refine Tot.bind (inner i hi) fun v hv => ?_
      cases ha : (l.take i).all (fun y => !twin l[i] y)
      · rw [ha] at hok hv
        rw [if_neg (by decide)] at hv
        obtain ⟨y, rfl⟩ := hv
        exact Tot.some (no (by rw [hok]; rfl) _ ⟨_, rfl⟩)
      · rw [ha] at hok hv
        rw [if_pos rfl] at hv
        subst hv
        simp only [Sum.elim_inl, wi (i := i) (by omega)]
        exact rec (by rw [hok]; rfl) _ rfl)
    N 0 ((l, 0, ()), ()) (by omega) rfl (by omega)
  obtain ⟨o, e, ho⟩ := loop
  unfold G_ref06_Right S_ref06_Right rightT
  simp only [e, Option.bind_some]
  by_cases h : l.length ≤ 16
  · have d1 : decide ((16 : Int) < ((l.length : Nat) : Int)) = false := decide_eq_false (by omega)
    simp only [d1, br_false, decide_eq_true h, Bool.true_and]
    rw [Nat.sub_zero] at ho
    split at ho
    · rename_i hy; obtain ⟨y, rfl⟩ := ho; rw [hy]; rfl
    · rename_i hy; obtain ⟨y, rfl⟩ := ho; rw [Bool.not_eq_true] at hy; rw [hy]; rfl
  · have d1 : decide ((16 : Int) < ((l.length : Nat) : Int)) = true := decide_eq_true (by omega)
    simp only [d1, br_true, decide_eq_false h, Bool.false_and]

end Go.Proofs.Ytiiiipdnodgkmaa.Lt
