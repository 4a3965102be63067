/- What comes by chance, in numbers: 31 bits, of one seed always the same, of two seeds one apart not the same. -/
import Derived.Test.YtplgkdfmpbkfpaaHEx9
import Derived.Test.YtplgkdfmpbkfpaaExKnown
import Derived.Test.YtplgkdfmpbkfpaaPU
namespace Go.Proofs.Ytplgkdfmpbkfpaa.Pure
open Go.RowKit Go.Proofs.Ytplgkdfmpbkfpaa.HEx Go.Proofs.YtplgkdfmpbkfpaaW.PrintWords Go.Proofs.YtplgkdfmpbkfpaaW.PrintLast Go.Proofs.Ytplgkdfmpbkfpaa.PU

theorem ExpandNext : triremelaw21_ExpandNext.Pure := by
  intro x0 hx
  have hx := wf64 hx
  refine Ev.rounds (g := fun k => triremelaw21_ExpandNext.f k x0) ?_
  have hr := nx_range x0
  simp only [triremelaw21_ExpandNext.f, next_f, Option.bind_some, if_neg (show ¬ nx x0 < 0 by omega), if_neg (show ¬ nx x0 ≥ 2147483648 by omega), show (nx x0 != nx x0) = false by simp]
  refine Ev.step (fun k => by rw [triremelaw21_ExpandNext.j0]) ?_
  simp only [if_neg (show ¬ (false = true) by decide)]
  by_cases h0 : x0 < 0
  · simp only [if_pos h0]
    exact known_bind
  by_cases h1 : x0 ≥ 2147483647
  · simp only [if_neg h0, if_pos h1]
    exact known_bind
  have hne : ¬ nx (x0 + 1) = nx x0 := by
    unfold nx
    rw [if_neg (by omega), if_neg (by omega), if_neg (by omega), if_neg (by omega)]
    omega
  simp only [if_neg h0, if_neg h1, w64 (show -9223372036854775808 ≤ x0 + 1 by omega) (by omega), next_f, Option.bind_some, if_neg hne]
  exact known_bind
end Go.Proofs.Ytplgkdfmpbkfpaa.Pure
