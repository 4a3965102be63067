/- A single option is chosen, in each way; one that is worse behind the others changes nothing: the pure statement. -/
import Derived.Test.YtplgkdfmpbkfpaaHEx10
import Derived.Test.YtplgkdfmpbkfpaaExKnown
import Derived.Test.YtplgkdfmpbkfpaaExRef
namespace Go.Proofs.Ytplgkdfmpbkfpaa.Pure
open Go.RowKit Go.Proofs.Ytplgkdfmpbkfpaa.HEx Go.Proofs.YtplgkdfmpbkfpaaW.PrintWords Go.Proofs.YtplgkdfmpbkfpaaW.PrintLast Go.Proofs.Ytplgkdfmpbkfpaa.PU Go.Proofs.Ytplgkdfmpbkfpaa.Pick

theorem chosen_one (o : S27) (how seed : Int) (h : isWay how = true ∨ how = 4) : chosen [o] how seed = 0 := by
  unfold chosen
  rw [if_neg (by simp)]
  by_cases hw : isWay how = true
  · have hp := pick0 (bett_weak how) z27 [o] (by simp)
    rw [if_pos hw]
    have := hp.1
    simp at this
    rw [this]
    rfl
  · rw [if_neg hw, if_pos (h.resolve_left hw)]
    simp

set_option linter.unusedVariables false in
theorem one_end (l : List S27) (o : S27) (how : Int) (hl : l.length ≤ 60) (hw : isWay how = true) (h0 : ¬ l.length = 0) : chosen (l ++ [o]) how 0 = if bett how o (l.getD (pick (bett how) z27 l 0 0 l) z27) = true then (l.length : Int) else ((pick (bett how) z27 l 0 0 l : Nat) : Int) := by
  have hne : l ≠ [] := by intro h; rw [h] at h0; exact h0 rfl
  have hp := pick0 (bett_weak how) z27 l hne
  have hq := pick0 (bett_weak how) z27 (l ++ [o]) (by simp)
  have e : chosen (l ++ [o]) how 0 = ((pick (bett how) z27 (l ++ [o]) 0 0 (l ++ [o]) : Nat) : Int) := by unfold chosen; rw [if_neg (by simp), if_pos hw]
  rw [e]
  generalize pick (bett how) z27 l 0 0 l = n at hp
  obtain ⟨hn, hf⟩ := hp
  have g1 : ∀ j, j < l.length → (l ++ [o]).getD j z27 = l.getD j z27 := by
    intro j hj
    rw [List.getD_eq_getElem?_getD, List.getElem?_append_left hj, ← List.getD_eq_getElem?_getD]
  have g2 : (l ++ [o]).getD l.length z27 = o := by
    rw [List.getD_eq_getElem?_getD, List.getElem?_append_right (by omega)]
    simp
  have W := bett_weak how
  by_cases hb : bett how o (l.getD n z27) = true
  · rw [if_pos hb]
    have hfirst : First (bett how) z27 (l ++ [o]) l.length (l ++ [o]).length := by
      refine ⟨fun j hj => ?_, fun j hj => ?_⟩
      · rw [g2]
        rcases Nat.lt_or_ge j l.length with h1 | h1
        · rw [g1 j h1]
          by_cases h2 : bett how (l.getD j z27) o = true
          · have := W.tr _ _ _ h2 hb
            rw [hf.1 j h1] at this
            cases this
          · simpa using h2
        · have : j = l.length := by simp at hj; omega
          subst this
          rw [g2]
          exact W.irr _
      · rw [g2, g1 j hj]
        by_cases h2 : bett how o (l.getD j z27) = true
        · exact h2
        · have := W.neg _ _ _ (by simpa using h2) (hf.1 j hj)
          rw [hb] at this
          cases this
    rw [hq.2.unique hfirst hq.1 (by simp)]
  · rw [if_neg hb]
    have hfirst : First (bett how) z27 (l ++ [o]) n (l ++ [o]).length := by
      refine ⟨fun j hj => ?_, fun j hj => ?_⟩
      · rw [g1 n hn]
        rcases Nat.lt_or_ge j l.length with h1 | h1
        · rw [g1 j h1]
          exact hf.1 j h1
        · have : j = l.length := by simp at hj; omega
          subst this
          rw [g2]
          simpa using hb
      · rw [g1 n hn, g1 j (by omega)]
        exact hf.2 j hj
    rw [hq.2.unique hfirst hq.1 (by simp; omega)]

theorem ExpandOne : triremelaw21_ExpandOne.Pure := by
  intro l o x2 hB ho hx
  have hx := wf8 hx
  refine Ev.rounds (g := fun k => triremelaw21_ExpandOne.f k l o.f0 o.f1 o.f2 o.f3 o.f4 o.f5 x2) ?_
  have hw0 : wrap64 (1 + (Int.tmod (wrap64 x2) 3)) = 1 + x2 % 3 := by rw [w64 (x := x2) (by omega) (by omega), tmod_pos hx.1, w64 (by omega) (by omega)]
  have hw : isWay (1 + x2 % 3) = true := by simp [isWay]; omega
  by_cases h : (l.length : Int) > 60
  · simp only [triremelaw21_ExpandOne.f, if_pos h]
    exact known_bind
  simp only [triremelaw21_ExpandOne.f, if_neg h, hw0]
  generalize 1 + x2 % 3 = way at hw
  have e1 : Ev (fun k => expand_Choose.f k [o] way 5) 0 := by have := choose_ev [o] way 5 (by simp); rwa [chosen_one o way 5 (.inl hw)] at this
  have e2 : Ev (fun k => expand_Choose.f k [o] 4 5) 0 := by have := choose_ev [o] 4 5 (by simp); rwa [chosen_one o 4 5 (.inr rfl)] at this
  refine Ev.bind e1 ?_
  simp only [if_true]
  refine Ev.bind e2 ?_
  simp only [show ((0 : Int) != 0) = false from rfl]
  refine Ev.step (fun k => by rw [triremelaw21_ExpandOne.j0]) ?_
  simp only [if_neg (show ¬ (false = true) by decide)]
  refine Ev.bind (choose_ev l way 0 (by omega)) ?_
  by_cases h0 : l.length = 0
  · have e : chosen l way 0 = -1 := by unfold chosen; rw [if_pos h0]
    simp only [e, if_pos (show (-1 : Int) < 0 by omega)]
    refine Ev.step (fun k => by rw [triremelaw21_ExpandOne.j1]) ?_
    simp only [if_true, if_pos (show (l.length : Int) = 0 by omega)]
    exact known_bind
  have hne : l ≠ [] := by intro h; rw [h] at h0; exact h0 rfl
  have hp := pick0 (bett_weak way) z27 l hne
  have hend := one_end l o way (by omega) hw h0
  have e : chosen l way 0 = ((pick (bett way) z27 l 0 0 l : Nat) : Int) := by unfold chosen; rw [if_neg h0, if_pos hw]
  rw [e]
  generalize pick (bett way) z27 l 0 0 l = n at hp hend
  simp only [if_neg (show ¬ (n : Int) < 0 by omega), decide_eq_false (show ¬ (n : Int) ≥ (l.length : Int) by omega)]
  refine Ev.step (fun k => by rw [triremelaw21_ExpandOne.j1]) ?_
  simp only [if_neg (show ¬ (false = true) by decide), Option.bind_some, List.length_nil, Nat.zero_add, List.nil_append, if_pos (show l.length < 1954687338268 by omega)]
  refine Ev.bind (choose_ev (l ++ [o]) way 0 (by simp; omega)) ?_
  simp only [if_pos (show (0 : Int) ≤ (n : Int) by omega), if_pos (show (n : Int) < (l.length : Int) by omega), rd_nat]
  refine Ev.bind (better_ev o _ way) ?_
  rw [hend]
  simp only [hw, Bool.true_and]
  by_cases hb : bett way o (l.getD n z27) = true
  · simp only [if_pos hb]
    exact known_bind
  · simp only [if_neg hb, if_true]
    exact known_bind
end Go.Proofs.Ytplgkdfmpbkfpaa.Pure
