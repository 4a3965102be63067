/- In whatever order options stand, one that is as good is chosen: the pure statement. -/
import Derived.Test.YtplgkdfmpbkfpaaHEx8
import Derived.Test.YtplgkdfmpbkfpaaExKnown
import Derived.Test.YtplgkdfmpbkfpaaExRef
namespace Go.Proofs.Ytplgkdfmpbkfpaa.Pure
open Go.RowKit Go.Proofs.Ytplgkdfmpbkfpaa.HEx Go.Proofs.YtplgkdfmpbkfpaaW.PrintWords Go.Proofs.YtplgkdfmpbkfpaaW.PrintLast Go.Proofs.Ytplgkdfmpbkfpaa.PU Go.Proofs.Ytplgkdfmpbkfpaa.Pick

theorem order_end (l : List S27) (how : Int) (hl : l.length ≤ 60) (hw : isWay how = true) (h0 : ¬ l.length = 0) : Ev (fun k => (expand_Choose.f k l how 0).bind fun t161 => ((expand_Choose.f k l.reverse how 0).bind fun t162 => (if t161 < 0 then triremelaw21_ExpandOrder.j2 k l how l.reverse t161 t162 true else (if t161 ≥ (l.length : Int) then triremelaw21_ExpandOrder.j2 k l how l.reverse t161 t162 true else (if t162 < 0 then triremelaw21_ExpandOrder.j2 k l how l.reverse t161 t162 true else (triremelaw21_ExpandOrder.j2 k l how l.reverse t161 t162 (decide (t162 ≥ (l.length : Int))))))))) true := by
  have hne : l ≠ [] := by intro h; rw [h] at h0; exact h0 rfl
  have hp := pick0 (bett_weak how) z27 l hne
  have hq := pick0 (bett_weak how) z27 l.reverse (by simpa using hne)
  have e1 : chosen l how 0 = ((pick (bett how) z27 l 0 0 l : Nat) : Int) := by unfold chosen; rw [if_neg h0, if_pos hw]
  have e2 : chosen l.reverse how 0 = ((pick (bett how) z27 l.reverse 0 0 l.reverse : Nat) : Int) := by unfold chosen; rw [if_neg (by simpa using h0), if_pos hw]
  refine Ev.bind (choose_ev l how 0 (by omega)) (Ev.bind (choose_ev l.reverse how 0 (by simp; omega)) ?_)
  rw [e1, e2]
  generalize pick (bett how) z27 l 0 0 l = a at hp
  generalize pick (bett how) z27 l.reverse 0 0 l.reverse = b at hq
  obtain ⟨ha, hfa⟩ := hp
  obtain ⟨hb, hfb⟩ := hq
  have hb' : b < l.length := by simpa using hb
  simp only [if_neg (show ¬ (a : Int) < 0 by omega), if_neg (show ¬ (a : Int) ≥ (l.length : Int) by omega), if_neg (show ¬ (b : Int) < 0 by omega), decide_eq_false (show ¬ (b : Int) ≥ (l.length : Int) by omega)]
  have rev : ∀ j, j < l.length → l.reverse.getD j z27 = l.getD (l.length - 1 - j) z27 := by
    intro j hj
    rw [List.getD_eq_getElem?_getD, List.getElem?_reverse hj, ← List.getD_eq_getElem?_getD]
  have n1 : bett how (l.getD a z27) (l.reverse.getD b z27) = false := by
    have := hfb.1 (l.length - 1 - a) (by simp; omega)
    rw [rev _ (by omega), show l.length - 1 - (l.length - 1 - a) = a by omega] at this
    exact this
  have n2 : bett how (l.reverse.getD b z27) (l.getD a z27) = false := by
    rw [rev b hb']
    exact hfa.1 _ (by omega)
  refine Ev.step (fun k => by rw [triremelaw21_ExpandOrder.j2]) ?_
  simp only [if_neg (show ¬ (false = true) by decide), if_pos (show (0 : Int) ≤ (a : Int) by omega), if_pos (show (a : Int) < (l.length : Int) by omega), if_pos (show (0 : Int) ≤ (b : Int) by omega), if_pos (show (b : Int) < (l.reverse.length : Int) by omega), rd_nat]
  refine Ev.bind (better_ev _ _ how) ?_
  simp only [n1, Bool.and_false, if_neg (show ¬ (false = true) by decide)]
  refine Ev.bind (better_ev _ _ how) ?_
  simp only [n2, Bool.and_false, if_neg (show ¬ (false = true) by decide)]
  exact known_bind

theorem order_loop (l : List S27) (how : Int) (hl : l.length ≤ 60) (hw : isWay how = true) (h0 : ¬ l.length = 0) : ∀ (i : Nat), i ≤ l.length → Ev (fun k => triremelaw21_ExpandOrder.l0 k l how (l.drop i).reverse ((i : Int) - 1)) true
  | 0, hi => by
    refine Ev.step (fun k => by rw [triremelaw21_ExpandOrder.l0]) ?_
    simp only [if_neg (show ¬ ((0 : Nat) : Int) - 1 ≥ 0 by omega), List.drop_zero]
    exact order_end l how hl hw h0
  | i + 1, hi => by
    refine Ev.step (fun k => by rw [triremelaw21_ExpandOrder.l0]) ?_
    have hi' : i < l.length := by omega
    have e1 : ((i + 1 : Nat) : Int) - 1 = (i : Int) := by omega
    have e2 : wrap64 ((i : Int) - 1) = (i : Int) - 1 := w64 (by omega) (by omega)
    have e3 : (l.drop (i + 1)).reverse ++ [l.getD i z27] = (l.drop i).reverse := by
      rw [List.drop_eq_getElem_cons hi', List.reverse_cons, List.getD_eq_getElem?_getD, List.getElem?_eq_getElem hi']
      rfl
    simp only [e1, if_pos (show (i : Int) ≥ 0 by omega), if_pos (show (i : Int) < (l.length : Int) by omega), if_pos (show (l.drop (i + 1)).reverse.length < 1954687338268 by simp; omega), rd_nat, e2, e3]
    exact order_loop l how hl hw h0 i (by omega)

theorem ExpandOrder : triremelaw21_ExpandOrder.Pure := by
  intro l x1 hB hx
  have hx := wf8 hx
  refine Ev.rounds (g := fun k => triremelaw21_ExpandOrder.f k l x1) ?_
  have hj0 : Ev (fun k => triremelaw21_ExpandOrder.j0 k l x1 true) true := by
    refine Ev.step (fun k => by rw [triremelaw21_ExpandOrder.j0]) ?_
    simp only [if_true]
    exact known_bind
  by_cases h : (l.length : Int) > 60
  · simp only [triremelaw21_ExpandOrder.f, if_pos h]
    exact hj0
  simp only [triremelaw21_ExpandOrder.f, if_neg h]
  by_cases h0 : (l.length : Int) = 0
  · simp only [show ((l.length : Int) == 0) = true by simpa using h0]
    exact hj0
  simp only [show ((l.length : Int) == 0) = false by simpa using h0]
  refine Ev.step (fun k => by rw [triremelaw21_ExpandOrder.j0]) ?_
  have hw0 : wrap64 (1 + (Int.tmod (wrap64 x1) 3)) = 1 + x1 % 3 := by rw [w64 (x := x1) (by omega) (by omega), tmod_pos hx.1, w64 (by omega) (by omega)]
  have hw : isWay (1 + x1 % 3) = true := by simp [isWay]; omega
  have e : wrap64 ((l.length : Int) - 1) = (l.length : Int) - 1 := w64 (by omega) (by omega)
  have e2 : ([] : List S27) = (l.drop l.length).reverse := by simp
  simp only [hw0, e, if_neg (show ¬ (false = true) by decide)]
  rw [e2]
  exact order_loop l _ (by omega) hw (by omega) l.length (by omega)
end Go.Proofs.Ytplgkdfmpbkfpaa.Pure
