/- Machines of a group, plainly. -/
import Derived.Test.YtiiiipdnodgkmaaGrpSGm
import Derived.Test.YtiiiipdnodgkmaaNumPGm
namespace Go.Proofs.Ytiiiipdnodgkmaa.Gm
open Go Go.VI
set_option linter.unusedVariables false
set_option linter.unusedSimpArgs false
set_option maxRecDepth 100000

def dash : ByteArray := ByteArray.mk (List.toArray [45])
/-- What a group's machines' names begin with. -/
def hdG (g : Grp) : List UInt8 := g.1.data.toList ++ [45]
def litG (g : Grp) : Prop := g.1.size ≤ 1000 ∧ g.2.2.2.1.2.2.2.1.length ≤ 1000 ∧ g.2.2.2.1.2.2.2.2.1.length ≤ 1000
def zeroM : Mach := (nameless, nameless, (0, 0, 0, 0, 0), [], [], false)
def machB (g : Grp) (n : Int) : Mach := if n < 1 ∨ 999999999 < n then zeroM else ((g.1 ++ dash) ++ numS n.toNat, g.2.2.2.1.2)
theorem nameM (g : Grp) {n : Nat} (h1 : 0 < n) (h2 : n ≤ 999999999) : (machB g (n : Int)).1.data.toList = hdG g ++ dec n := by
  unfold machB
  rw [if_neg (by omega)]
  show ((g.1 ++ dash) ++ numS (n : Int).toNat).data.toList = _
  rw [ba_append, ba_append, Int.toNat_natCast, numS_list]; rfl
end Go.Proofs.Ytiiiipdnodgkmaa.Gm
