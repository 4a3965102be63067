/- The fixed calls of the laws on choosing options answer as they must. -/
import Derived.Test.YtplgkdfmpbkfpaaHEx4
import Derived.Test.YtplgkdfmpbkfpaaExFacts
namespace Go.Proofs.Ytplgkdfmpbkfpaa.HEx
open Go.RowKit Go.Proofs.YtplgkdfmpbkfpaaW.PrintWords Go.Proofs.YtplgkdfmpbkfpaaW.PrintLast
theorem known_ev : Ev (fun k => triremelaw21_known.f k) true := Ev.of (fun k => triremelaw21_known.mono k) (k := 30) (by decide +kernel)
theorem known_bind : Ev (fun k => (triremelaw21_known.f k).bind fun t => some t) true := Ev.bind known_ev (Ev.now true)
end Go.Proofs.Ytplgkdfmpbkfpaa.HEx
