/- Groups that are right, plainly. -/
import Derived.Test.YtiiiipdnodgkmaaMacSLt
namespace Go.Proofs.Ytiiiipdnodgkmaa.Lt
open Go Go.VI
set_option linter.unusedVariables false
set_option linter.unusedSimpArgs false
set_option maxRecDepth 100000

abbrev Grp := ByteArray × Int × Int × Mach × Int × Int
def okG (g : Grp) : Prop := okS g.1 ∧ okM g.2.2.2.1
def inB (n lo hi : Int) : Bool := decide (lo ≤ n ∧ n ≤ hi)
def rightG (N : Nat) (g : Grp) : Bool := wordB N g.1 && (inB g.2.2.1 1 200 && (inB g.2.1 0 g.2.2.1 && (inB g.2.2.2.2.1 0 1125899906842624 && (inB g.2.2.2.2.2 0 1000 && (rightM N g.2.2.2.1 &&
  (decide (g.2.2.2.1.1 = nameless) && (decide (g.2.2.2.1.2.1 = g.1) && g.2.2.2.1.2.2.2.2.2)))))))
/-- A group's place. -/
def fndF (name : ByteArray) : List Grp → Nat → Int
  | [], _ => -1
  | g :: l, i => if g.1 = name then (i : Int) else fndF name l (i + 1)
def fnd (l : List Grp) (name : ByteArray) : Int := fndF name l 0
def okGs (l : List Grp) : Prop := l.length ≤ 140737488355328 ∧ ∀ g ∈ l, okG g
def okGr (N : Nat) (l : List Grp) (i : Nat) : Bool := match l[i]? with
  | some g => rightG N g && (decide (g.1.size ≤ 48) && decide (fnd l g.1 = (i : Int)))
  | none => false
def rightGs (N : Nat) (l : List Grp) : Bool := decide (l.length ≤ 16) && allN (okGr N l) 0 l.length
end Go.Proofs.Ytiiiipdnodgkmaa.Lt
