/- taints.Right. -/
import Derived.Test.YtiiiipdnodgkmaaTaiSLt
namespace Go.Proofs.Ytiiiipdnodgkmaa.Lt
open Go Go.VI
set_option linter.unusedVariables false
set_option linter.unusedSimpArgs false
set_option maxRecDepth 100000

theorem taints_maybe_is {N : Nat} (hN : Big N) {s : ByteArray} (hs : okS s) : G_taints_maybe N (s, ()) = some (maybeB N s, ()) := by
  unfold G_taints_maybe S_taints_maybe maybeB
  simp only [lex_Word_is hN hs, Option.bind_some]
  by_cases h : s = nameless <;> simp [h, br]
theorem taints_known_is (N : Nat) (n : Int) : G_taints_known N (n, ()) = some (decide (1 ≤ n ∧ n ≤ 3), ()) := by
  unfold G_taints_known S_taints_known
  by_cases h1 : n = 1
  · subst h1; rfl
  · by_cases h2 : n = 2
    · subst h2; rfl
    · simp only [decide_eq_false h1, decide_eq_false h2, br_false]
      congr 2; rw [decide_eq_decide]; omega
theorem taints_Right_is (N : Nat) (hN : Big N) {l : Taints} (hl : okT l) : G_taints_Right N (l, ()) = some (rightT N l, ()) := by
  have hN' := hN
  unfold Big at hN'; obtain ⟨h1, h2⟩ := hl
  have inner : ∀ k (hk : k < l.length), Tot (g_taints_Right_7 N N ((l, l, (l.length : Int), (k : Int), l.take k, (((l.take k).length : Nat) : Int), 0, ()), (l[k], ()), ())) fun o => if (l.take k).all (fun y => !twin l[k] y) = true then ∃ y, o = .inl ((l, l, (l.length : Int), (k : Int), ()), y) else ∃ y, o = .inr ((false, ()), y) := by
    intro k hk
    have hlen : (l.take k).length = k := by rw [List.length_take]; omega
    have := Tot.all (f := g_taints_Right_7 N) (Inv := fun i x => x = ((l, l, (l.length : Int), (k : Int), l.take k, (k : Int), (i : Int), ()), (l[k], ()), ())) (Y := fun o => ∃ y, o = .inl ((l, l, (l.length : Int), (k : Int), ()), y)) (No := fun o => ∃ y, o = .inr ((false, ()), y)) k (atP (fun y => !twin l[k] y) l)
      (fun m a ha => by
        subst ha
        rw [g_taints_Right_7_succ]
        unfold s_taints_Right_7
        exact Tot.brD (fun h => absurd h (by dsimp only; omega)) fun _ => Tot.some ⟨_, rfl⟩)
      (fun m i a Q ha hi rec no => by
        subst ha
        rw [g_taints_Right_7_succ]
        unfold s_taints_Right_7
        have d0 : decide ((0 : Int) ≤ (i : Int)) = true := decide_eq_true (by omega)
        have d1 : decide ((i : Int) < (k : Int)) = true := decide_eq_true (by omega)
        have hi' : i < l.length := by omega
        have hg : (l.take k)[i]? = some l[i] := by rw [List.getElem?_take_of_lt hi]; exact at_lt hi'
        simp only [d0, d1, br_true, Int.toNat_natCast, hg, Option.bind_some, wi (i := i) (by omega), G_taints_like, S_taints_like, decide_true, Bool.true_and, Bool.and_true]
        simp only [atP_lt hi', twin] at rec no
        by_cases e1 : l[i].1 = l[k].1
        · by_cases e2 : l[i].2.2 = l[k].2.2
          · simp only [decide_eq_true e1.symm, decide_eq_true e2.symm, Bool.and_true, br_true]
            exact Tot.some (no (by simp [e1, e2]) _ ⟨_, rfl⟩)
          · simp only [decide_eq_true e1.symm, decide_eq_false (Ne.symm e2), Bool.and_false, br_false]
            exact rec (by simp [e1, e2]) _ rfl
        · simp only [decide_eq_false (Ne.symm e1), Bool.false_and, br_false]
          exact rec (by simp [e1]) _ rfl)
      N 0 ((l, l, (l.length : Int), (k : Int), l.take k, (k : Int), 0, ()), (l[k], ()), ()) (by omega) rfl (by omega)
    rw [Nat.sub_zero, all_take (by omega)] at this
    rw [hlen]
    exact this
  have loop := Tot.all (f := g_taints_Right_2 N) (Inv := fun i x => x = ((l, l, (l.length : Int), (i : Int), ()), ())) (Y := fun o => ∃ y, o = .inl ((l, ()), y)) (No := fun o => ∃ y, o = .inr ((false, ()), y)) l.length (okTai N l)
    (fun m a ha => by
      subst ha
      rw [g_taints_Right_2_succ]
      unfold s_taints_Right_2
      exact Tot.brD (fun h => absurd h (by dsimp only; omega)) fun _ => Tot.some ⟨_, rfl⟩)
    (fun m i a Q ha hi rec no => by
      subst ha
      rw [g_taints_Right_2_succ]
      unfold s_taints_Right_2
      have hm : l[i] ∈ l := List.getElem_mem hi
      have d0 : decide ((0 : Int) ≤ (i : Int)) = true := decide_eq_true (by omega)
      have d1 : decide ((i : Int) < ((l.length : Nat) : Int)) = true := decide_eq_true (by omega)
      have d2 : decide ((i : Int) ≤ ((l.length : Nat) : Int)) = true := decide_eq_true (by omega)
      simp only [d0, d1, d2, br_true, Bool.and_true, Int.toNat_natCast, at_lt hi, Option.bind_some, lex_Word_is hN (h2 _ hm).1, taints_maybe_is hN (h2 _ hm).2, taints_known_is]
      have hok : okTai N l i = (((wordB N l[i].1 && maybeB N l[i].2.1) && decide (1 ≤ l[i].2.2 ∧ l[i].2.2 ≤ 3)) && (l.take i).all (fun y => !twin l[i] y)) := by unfold okTai; rw [at_lt hi]; first | done | rfl
      cases hw : wordB N l[i].1
      · rw [hw] at hok
        exact Tot.some (no (by rw [hok]; rfl) _ ⟨_, rfl⟩)
      cases hv : maybeB N l[i].2.1
      · rw [hw, hv] at hok
        exact Tot.some (no (by rw [hok]; rfl) _ ⟨_, rfl⟩)
      cases he : decide (1 ≤ l[i].2.2 ∧ l[i].2.2 ≤ 3)
      · rw [hw, hv, he] at hok
        exact Tot.some (no (by rw [hok]; rfl) _ ⟨_, rfl⟩)
      rw [hw, hv, he] at hok
      simp only [Bool.not_true, br_false]
      refine Tot.bind (inner i hi) fun v hv => ?_
      cases ha : (l.take i).all (fun y => !twin l[i] y)
      · rw [ha] at hok hv
        rw [if_neg (by decide)] at hv
        obtain ⟨y, rfl⟩ := hv
        exact Tot.some (no (by rw [hok]; rfl) _ ⟨_, rfl⟩)
      · rw [ha] at hok hv
        rw [if_pos rfl] at hv
        obtain ⟨y, rfl⟩ := hv
        simp only [Sum.elim_inl, wi (i := i) (by omega)]
        exact rec (by rw [hok]; rfl) _ rfl)
    N 0 ((l, l, (l.length : Int), 0, ()), ()) (by omega) rfl (by omega)
  obtain ⟨o, e, ho⟩ := loop
  unfold G_taints_Right S_taints_Right rightT
  simp only [e, Option.bind_some]
  rw [Nat.sub_zero] at ho
  split at ho
  · rename_i hy; obtain ⟨y, rfl⟩ := ho; rw [hy, Bool.and_true]
    show some (decide (((l.length : Nat) : Int) ≤ 16), ()) = _
    congr 2; rw [decide_eq_decide]; omega
  · rename_i hy; obtain ⟨y, rfl⟩ := ho; rw [Bool.not_eq_true] at hy; rw [hy, Bool.and_false]; rfl

end Go.Proofs.Ytiiiipdnodgkmaa.Lt
