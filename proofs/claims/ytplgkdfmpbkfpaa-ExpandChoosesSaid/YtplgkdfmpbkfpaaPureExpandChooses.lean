/- Which option is chosen, and whether one is better, is as the document says: the pure statement. -/
import Derived.Test.YtplgkdfmpbkfpaaHEx6
import Derived.Test.YtplgkdfmpbkfpaaExKnown
import Derived.Test.YtplgkdfmpbkfpaaExRef
namespace Go.Proofs.Ytplgkdfmpbkfpaa.Pure
open Go.RowKit Go.Proofs.Ytplgkdfmpbkfpaa.HEx Go.Proofs.YtplgkdfmpbkfpaaW.PrintWords Go.Proofs.YtplgkdfmpbkfpaaW.PrintLast Go.Proofs.Ytplgkdfmpbkfpaa.PU

theorem chooses_loop (l : List S27) (how seed : Int) (hl : l.length ≤ 60) (hB : ∀ x ∈ l, B27 x) : ∀ (d i : Nat), l.length - i = d → i ≤ l.length → Ev (fun k => triremelaw21_ExpandChooses.l0 k l how seed (i : Int)) true
  | 0, i, hd, hi => by
    refine Ev.step (fun k => by rw [triremelaw21_ExpandChooses.l0]) ?_
    simp only [if_neg (show ¬ (i : Int) < (l.length : Int) by omega)]
    refine Ev.bind (choose_ev l how seed (by omega)) (Ev.bind (rchoose_ev l how seed (by omega) hB) ?_)
    simp only [if_true, next_f, rnext_f, Option.bind_some]
    exact known_bind
  | d + 1, i, hd, hi => by
    have hi' : i < l.length := by omega
    have h0 : 0 < l.length := by omega
    refine Ev.step (fun k => by rw [triremelaw21_ExpandChooses.l0]) ?_
    have e0 : rd_T27 l 0 = l.getD 0 z27 := rd_nat l 0
    simp only [if_pos (show (i : Int) < (l.length : Int) by omega), if_pos (show (0 : Int) ≤ (i : Int) by omega), if_pos (show (0 : Int) < (l.length : Int) by omega), rd_nat, e0]
    refine Ev.bind (better_ev _ _ how) ?_
    simp only [rbetter_f _ _ (mem_getD hB hi') (mem_getD hB h0), Option.bind_some, bne_self_eq_false, if_neg (show ¬ (false = true) by decide), wsucc hi' (show l.length ≤ 1000000000000 by omega)]
    exact chooses_loop l how seed hl hB d (i + 1) (by omega) (by omega)

theorem ExpandChooses : triremelaw21_ExpandChooses.Pure := by
  intro l how seed hB _ _
  refine Ev.rounds (g := fun k => triremelaw21_ExpandChooses.f k l how seed) ?_
  by_cases h : (l.length : Int) > 60
  · simp only [triremelaw21_ExpandChooses.f, if_pos h]
    exact known_bind
  · simp only [triremelaw21_ExpandChooses.f, if_neg h]
    exact chooses_loop l how seed (by omega) hB.2 _ 0 rfl (by omega)
end Go.Proofs.Ytplgkdfmpbkfpaa.Pure
