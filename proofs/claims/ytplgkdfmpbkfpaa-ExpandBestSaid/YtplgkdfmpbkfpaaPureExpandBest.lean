/- What is chosen is one of the options, and none is better; what is chosen stands for one that is as good when the others are fewer: the pure statement. -/
import Derived.Test.YtplgkdfmpbkfpaaHEx7
import Derived.Test.YtplgkdfmpbkfpaaExKnown
import Derived.Test.YtplgkdfmpbkfpaaExRef
namespace Go.Proofs.Ytplgkdfmpbkfpaa.Pure
open Go.RowKit Go.Proofs.Ytplgkdfmpbkfpaa.HEx Go.Proofs.YtplgkdfmpbkfpaaW.PrintWords Go.Proofs.YtplgkdfmpbkfpaaW.PrintLast Go.Proofs.Ytplgkdfmpbkfpaa.PU Go.Proofs.Ytplgkdfmpbkfpaa.Pick

theorem getD_drop' {α : Type} (l : List α) (n j : Nat) (d : α) : (l.drop n).getD j d = l.getD (n + j) d := by
  rw [List.getD_eq_getElem?_getD, List.getElem?_drop, ← List.getD_eq_getElem?_getD]

theorem best_loop (l : List S27) (how seed : Int) (n : Nat) (hl : l.length ≤ 60) (hw : isWay how = true) (hn : n < l.length) (hf : First (bett how) z27 l n l.length) : ∀ (d i : Nat), l.length - i = d → i ≤ l.length → Ev (fun k => triremelaw21_ExpandBest.l0 k l seed how (n : Int) (i : Int)) true
  | 0, i, hd, hi => by
    refine Ev.step (fun k => by rw [triremelaw21_ExpandBest.l0]) ?_
    simp only [if_neg (show ¬ (i : Int) < (l.length : Int) by omega), if_pos (show (0 : Int) ≤ (n : Int) by omega), if_pos (show (n : Int) ≤ (l.length : Int) by omega), Int.toNat_natCast]
    refine Ev.bind (choose_ev (l.drop n) how seed (by rw [List.length_drop]; omega)) ?_
    have hne : ¬ (l.drop n).length = 0 := by rw [List.length_drop]; omega
    have hp := pick0 (bett_weak how) z27 (l.drop n) (by intro h; rw [h] at hne; exact hne rfl)
    have h0 : First (bett how) z27 (l.drop n) 0 (l.drop n).length := ⟨fun j hj => by rw [List.length_drop] at hj; rw [getD_drop', getD_drop']; exact hf.1 _ (by omega), fun j hj => by omega⟩
    have e : chosen (l.drop n) how seed = 0 := by
      unfold chosen
      rw [if_neg hne, if_pos hw, hp.2.unique h0 hp.1 (by omega)]
      rfl
    simp only [e, if_true]
    exact known_bind
  | d + 1, i, hd, hi => by
    have hi' : i < l.length := by omega
    refine Ev.step (fun k => by rw [triremelaw21_ExpandBest.l0]) ?_
    simp only [if_pos (show (i : Int) < (l.length : Int) by omega), if_pos (show (0 : Int) ≤ (i : Int) by omega), if_pos (show (0 : Int) ≤ (n : Int) by omega), if_pos (show (n : Int) < (l.length : Int) by omega), rd_nat]
    refine Ev.bind (better_ev _ _ how) ?_
    simp only [hf.1 i hi', Bool.and_false, if_neg (show ¬ (false = true) by decide), wsucc hi' (show l.length ≤ 1000000000000 by omega)]
    exact best_loop l how seed n hl hw hn hf d (i + 1) (by omega) (by omega)

theorem ExpandBest : triremelaw21_ExpandBest.Pure := by
  intro l x1 seed hB hx _
  have hx := wf8 hx
  refine Ev.rounds (g := fun k => triremelaw21_ExpandBest.f k l x1 seed) ?_
  have hj0 : Ev (fun k => triremelaw21_ExpandBest.j0 k l x1 seed true) true := by
    refine Ev.step (fun k => by rw [triremelaw21_ExpandBest.j0]) ?_
    simp only [if_true]
    exact known_bind
  by_cases h : (l.length : Int) > 60
  · simp only [triremelaw21_ExpandBest.f, if_pos h]
    exact hj0
  simp only [triremelaw21_ExpandBest.f, if_neg h]
  by_cases h0 : (l.length : Int) = 0
  · simp only [show ((l.length : Int) == 0) = true by simpa using h0]
    exact hj0
  simp only [show ((l.length : Int) == 0) = false by simpa using h0]
  refine Ev.step (fun k => by rw [triremelaw21_ExpandBest.j0]) ?_
  have hw0 : wrap64 (1 + (Int.tmod (wrap64 x1) 4)) = 1 + x1 % 4 := by rw [w64 (x := x1) (by omega) (by omega), tmod_pos hx.1, w64 (by omega) (by omega)]
  generalize hway : 1 + x1 % 4 = way at hw0
  simp only [hw0, if_neg (show ¬ (false = true) by decide)]
  refine Ev.bind (choose_ev l way seed (by omega)) ?_
  have hc : 0 ≤ chosen l way seed ∧ chosen l way seed < l.length := by
    unfold chosen
    rw [if_neg (by omega)]
    by_cases hw : isWay way = true
    · have hp := pick0 (bett_weak way) z27 l (by intro h; rw [h] at h0; exact h0 rfl)
      rw [if_pos hw]
      omega
    · have : way = 4 := by
        simp [isWay] at hw
        omega
      rw [if_neg hw, if_pos this]
      exact ⟨Int.emod_nonneg _ h0, Int.emod_lt_of_pos _ (by omega)⟩
  simp only [if_neg (show ¬ chosen l way seed < 0 by omega), decide_eq_false (show ¬ chosen l way seed ≥ (l.length : Int) by omega)]
  refine Ev.step (fun k => by rw [triremelaw21_ExpandBest.j1]) ?_
  simp only [if_neg (show ¬ (false = true) by decide)]
  by_cases h4 : way = 4
  · simp only [if_pos h4]
    refine Ev.bind (choose_ev l way seed (by omega)) ?_
    simp only [if_true]
    exact known_bind
  · simp only [if_neg h4]
    have hw : isWay way = true := by simp [isWay]; omega
    have hp := pick0 (bett_weak way) z27 l (by intro h; rw [h] at h0; exact h0 rfl)
    have e : chosen l way seed = ((pick (bett way) z27 l 0 0 l : Nat) : Int) := by
      unfold chosen
      rw [if_neg (by omega), if_pos hw]
    rw [e]
    exact best_loop l way seed _ (by omega) hw hp.1 hp.2 _ 0 rfl (by omega)
end Go.Proofs.Ytplgkdfmpbkfpaa.Pure
