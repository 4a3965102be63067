/-
  No cell of these rows narrows 'for every input' (looked for: loops, veiled, ifaces, maps, wideKeys, modest, calm, conditions, laid).
  DERIVED. THE GIVEN ROWS OF THIS SEAT. 8 by the template 'for every input the law returns true; each argument reads behind the call as it read before'; 0 by the template 'total and deterministic' (their statements: YtiiiipdnodgkmaaTotals.lean).
  GIVEN WITH THE SEED: the statements are not yours to turn. If you find one false, say at which input.
  Laid BY PROGRAM, IN A SANDBOX (cutbox-rows.mjs): the forced cells as the released guide's own fill.sh prints them over the translation 2f15969530163e9e… (all of the seat's roots in one cut). By AI agents, Wed Nov 11 2026. No macro, syntax, notation, axiom, sorry.
-/
import Derived.Test.YtiiiipdnodgkmaaChecked
import GoSem.Claim
import GoSem.ClaimJoined
import GoSem.ClaimMapViews
import Derived.JoinedTies
import Derived.KernelRfl
namespace Go.Proofs.Ytiiiipdnodgkmaa
/- THE CELL 'sum', in the pinned program and in every row, IS THE sha256 OF THE DUMP (.gsa) THAT YtiiiipdnodgkmaaProg.lean LOADS. Nothing in Lean hashes anything: it is a label: what it is worth is what the hold of that sum in a sandbox is worth. -/
noncomputable def Try.pinned : Pinned := { name := "ytiiiipdnodgkmaa", sum := "2f15969530163e9efb4e55068c673be2acf8bc8fad243dbe41acddbeda358acd", checked := Try.checked }
namespace Rows
def none {H : Type} : Left H := { results := [], args := [] }

/-- 'triremelaw16.GroupTells': WHATEVER THE INPUT: true; the input reads as it did. -/
def groupTellsSpec : ChangeSpec := { name := "groupTells", fn := fun _ => fun
  | [d1, d2, d3] => { results := [.lit (.bool true)], args := [d1, d2, d3] }
  | _ => none }
def groupTellsRow : OpenClaim := { program := "ytiiiipdnodgkmaa", sum := "2f15969530163e9efb4e55068c673be2acf8bc8fad243dbe41acddbeda358acd", func := "trireme/triremelaw16.GroupTells", spec := "groupTells", unfollowed := true, recurses := true, apart := false }
def GroupTellsSaid : Prop := groupTellsRow.holds Try.pinned (OpenSpec.ofChange groupTellsSpec)

/-- ITS FALSE NEIGHBOUR: 'it returns false'. Refute it at one input. -/
def groupTellsWrong : ChangeSpec := { name := "groupTells", fn := fun _ => fun
  | [d1, d2, d3] => { results := [.lit (.bool false)], args := [d1, d2, d3] }
  | _ => none }
def GroupTellsWrongFalsely : Prop := groupTellsRow.holds Try.pinned (OpenSpec.ofChange groupTellsWrong)

/-- 'triremelaw16.GroupMachines': WHATEVER THE INPUT: true; the input reads as it did. -/
def groupMachinesSpec : ChangeSpec := { name := "groupMachines", fn := fun _ => fun
  | [d1, d2, d3] => { results := [.lit (.bool true)], args := [d1, d2, d3] }
  | _ => none }
def groupMachinesRow : OpenClaim := { program := "ytiiiipdnodgkmaa", sum := "2f15969530163e9efb4e55068c673be2acf8bc8fad243dbe41acddbeda358acd", func := "trireme/triremelaw16.GroupMachines", spec := "groupMachines", unfollowed := true, recurses := true, apart := false }
def GroupMachinesSaid : Prop := groupMachinesRow.holds Try.pinned (OpenSpec.ofChange groupMachinesSpec)

/-- ITS FALSE NEIGHBOUR: 'it returns false'. Refute it at one input. -/
def groupMachinesWrong : ChangeSpec := { name := "groupMachines", fn := fun _ => fun
  | [d1, d2, d3] => { results := [.lit (.bool false)], args := [d1, d2, d3] }
  | _ => none }
def GroupMachinesWrongFalsely : Prop := groupMachinesRow.holds Try.pinned (OpenSpec.ofChange groupMachinesWrong)

/-- 'triremelaw16.GroupOnce': WHATEVER THE INPUT: true; the input reads as it did. -/
def groupOnceSpec : ChangeSpec := { name := "groupOnce", fn := fun _ => fun
  | [d1, d2, d3] => { results := [.lit (.bool true)], args := [d1, d2, d3] }
  | _ => none }
def groupOnceRow : OpenClaim := { program := "ytiiiipdnodgkmaa", sum := "2f15969530163e9efb4e55068c673be2acf8bc8fad243dbe41acddbeda358acd", func := "trireme/triremelaw16.GroupOnce", spec := "groupOnce", unfollowed := true, recurses := true, apart := false }
def GroupOnceSaid : Prop := groupOnceRow.holds Try.pinned (OpenSpec.ofChange groupOnceSpec)

/-- ITS FALSE NEIGHBOUR: 'it returns false'. Refute it at one input. -/
def groupOnceWrong : ChangeSpec := { name := "groupOnce", fn := fun _ => fun
  | [d1, d2, d3] => { results := [.lit (.bool false)], args := [d1, d2, d3] }
  | _ => none }
def GroupOnceWrongFalsely : Prop := groupOnceRow.holds Try.pinned (OpenSpec.ofChange groupOnceWrong)

/-- 'triremelaw16.GroupFind': WHATEVER THE INPUT: true; the input reads as it did. -/
def groupFindSpec : ChangeSpec := { name := "groupFind", fn := fun _ => fun
  | [d1, d2] => { results := [.lit (.bool true)], args := [d1, d2] }
  | _ => none }
def groupFindRow : OpenClaim := { program := "ytiiiipdnodgkmaa", sum := "2f15969530163e9efb4e55068c673be2acf8bc8fad243dbe41acddbeda358acd", func := "trireme/triremelaw16.GroupFind", spec := "groupFind", unfollowed := true, recurses := true, apart := false }
def GroupFindSaid : Prop := groupFindRow.holds Try.pinned (OpenSpec.ofChange groupFindSpec)

/-- ITS FALSE NEIGHBOUR: 'it returns false'. Refute it at one input. -/
def groupFindWrong : ChangeSpec := { name := "groupFind", fn := fun _ => fun
  | [d1, d2] => { results := [.lit (.bool false)], args := [d1, d2] }
  | _ => none }
def GroupFindWrongFalsely : Prop := groupFindRow.holds Try.pinned (OpenSpec.ofChange groupFindWrong)

/-- 'triremelaw35.LedgerTells': WHATEVER THE INPUT: true; the input reads as it did. -/
def ledgerTellsSpec : ChangeSpec := { name := "ledgerTells", fn := fun _ => fun
  | [d1, d2, d3] => { results := [.lit (.bool true)], args := [d1, d2, d3] }
  | _ => none }
def ledgerTellsRow : OpenClaim := { program := "ytiiiipdnodgkmaa", sum := "2f15969530163e9efb4e55068c673be2acf8bc8fad243dbe41acddbeda358acd", func := "trireme/triremelaw35.LedgerTells", spec := "ledgerTells", unfollowed := true, recurses := true, apart := false }
def LedgerTellsSaid : Prop := ledgerTellsRow.holds Try.pinned (OpenSpec.ofChange ledgerTellsSpec)

/-- ITS FALSE NEIGHBOUR: 'it returns false'. Refute it at one input. -/
def ledgerTellsWrong : ChangeSpec := { name := "ledgerTells", fn := fun _ => fun
  | [d1, d2, d3] => { results := [.lit (.bool false)], args := [d1, d2, d3] }
  | _ => none }
def LedgerTellsWrongFalsely : Prop := ledgerTellsRow.holds Try.pinned (OpenSpec.ofChange ledgerTellsWrong)

/-- 'triremelaw35.LedgerGrows': WHATEVER THE INPUT: true; the input reads as it did. -/
def ledgerGrowsSpec : ChangeSpec := { name := "ledgerGrows", fn := fun _ => fun
  | [d1, d2] => { results := [.lit (.bool true)], args := [d1, d2] }
  | _ => none }
def ledgerGrowsRow : OpenClaim := { program := "ytiiiipdnodgkmaa", sum := "2f15969530163e9efb4e55068c673be2acf8bc8fad243dbe41acddbeda358acd", func := "trireme/triremelaw35.LedgerGrows", spec := "ledgerGrows", unfollowed := true, recurses := true, apart := false }
def LedgerGrowsSaid : Prop := ledgerGrowsRow.holds Try.pinned (OpenSpec.ofChange ledgerGrowsSpec)

/-- ITS FALSE NEIGHBOUR: 'it returns false'. Refute it at one input. -/
def ledgerGrowsWrong : ChangeSpec := { name := "ledgerGrows", fn := fun _ => fun
  | [d1, d2] => { results := [.lit (.bool false)], args := [d1, d2] }
  | _ => none }
def LedgerGrowsWrongFalsely : Prop := ledgerGrowsRow.holds Try.pinned (OpenSpec.ofChange ledgerGrowsWrong)

/-- 'triremelaw35.LedgerNil': WHATEVER THE INPUT: true; the input reads as it did. -/
def ledgerNilSpec : ChangeSpec := { name := "ledgerNil", fn := fun _ => fun
  | [d] => { results := [.lit (.bool true)], args := [d] }
  | _ => none }
def ledgerNilRow : OpenClaim := { program := "ytiiiipdnodgkmaa", sum := "2f15969530163e9efb4e55068c673be2acf8bc8fad243dbe41acddbeda358acd", func := "trireme/triremelaw35.LedgerNil", spec := "ledgerNil", unfollowed := true, recurses := true, apart := false }
def LedgerNilSaid : Prop := ledgerNilRow.holds Try.pinned (OpenSpec.ofChange ledgerNilSpec)

/-- ITS FALSE NEIGHBOUR: 'it returns false'. Refute it at one input. -/
def ledgerNilWrong : ChangeSpec := { name := "ledgerNil", fn := fun _ => fun
  | [d] => { results := [.lit (.bool false)], args := [d] }
  | _ => none }
def LedgerNilWrongFalsely : Prop := ledgerNilRow.holds Try.pinned (OpenSpec.ofChange ledgerNilWrong)

/-- 'triremelaw35.LedgerTwice': WHATEVER THE INPUT: true; the input reads as it did. -/
def ledgerTwiceSpec : ChangeSpec := { name := "ledgerTwice", fn := fun _ => fun
  | [d1, d2, d3] => { results := [.lit (.bool true)], args := [d1, d2, d3] }
  | _ => none }
def ledgerTwiceRow : OpenClaim := { program := "ytiiiipdnodgkmaa", sum := "2f15969530163e9efb4e55068c673be2acf8bc8fad243dbe41acddbeda358acd", func := "trireme/triremelaw35.LedgerTwice", spec := "ledgerTwice", unfollowed := true, recurses := true, apart := false }
def LedgerTwiceSaid : Prop := ledgerTwiceRow.holds Try.pinned (OpenSpec.ofChange ledgerTwiceSpec)

/-- ITS FALSE NEIGHBOUR: 'it returns false'. Refute it at one input. -/
def ledgerTwiceWrong : ChangeSpec := { name := "ledgerTwice", fn := fun _ => fun
  | [d1, d2, d3] => { results := [.lit (.bool false)], args := [d1, d2, d3] }
  | _ => none }
def LedgerTwiceWrongFalsely : Prop := ledgerTwiceRow.holds Try.pinned (OpenSpec.ofChange ledgerTwiceWrong)

/- THE SECOND FORM. 'bulk': how many values and letters a reading holds, each counted each time it is reached (what is shared counts as often as it is met; a slice's spare places count too). A statement '..UptoSaid' is the law's where the arguments, and the package variables that the reading takes, are together of bulk at most 1048576: NARROWER than '..Said'. Prove '..Said' where nothing that the law and all that it calls make is longer than what came in: it says more and counts as full. Else prove '..UptoSaid'. A law counts once. -/
mutual
def uptoBulk {H : Type} : DataW H → Nat
  | .lit (.string bytes) => bytes.length + 1
  | .lit _ => 1
  | .nil => 1
  | .ptr d => uptoBulk d + 1
  | .slice elems spare => uptoBulkAll elems + uptoBulkAll spare + 1
  | .agg parts => uptoBulkAll parts + 1
  | .iface _ d => uptoBulk d + 1
  | .map entries => uptoBulkEntries entries + 1
  | .held _ => 1
def uptoBulkAll {H : Type} : List (DataW H) → Nat
  | [] => 0
  | d :: r => uptoBulk d + uptoBulkAll r
def uptoBulkEntries {H : Type} : List (Lit × DataW H) → Nat
  | [] => 0
  | x :: r => uptoBulkEntry x + uptoBulkEntries r
def uptoBulkEntry {H : Type} : Lit × DataW H → Nat
  | (.string bytes, d) => bytes.length + uptoBulk d + 1
  | (_, d) => uptoBulk d + 1
 end
def uptoSmall : (H : Type) → List (DataW H) → Bool := fun _ ds => decide (uptoBulkAll ds ≤ 1048576)
def OpenSpec.upto (s : _root_.Go.ChangeSpec) : _root_.Go.OpenSpec := { _root_.Go.OpenSpec.ofChange s with cond := some uptoSmall }

/-- 'triremelaw16.GroupTells', WHERE WHAT IT READS IS OF BULK AT MOST 1048576: true; the input reads as it did. -/
def groupTellsUptoRow : OpenClaim := { program := "ytiiiipdnodgkmaa", sum := "2f15969530163e9efb4e55068c673be2acf8bc8fad243dbe41acddbeda358acd", func := "trireme/triremelaw16.GroupTells", spec := "groupTells", unfollowed := true, recurses := true, apart := false, narrowed := true }
def GroupTellsUptoSaid : Prop := groupTellsUptoRow.holds Try.pinned (OpenSpec.upto groupTellsSpec)

/-- 'triremelaw16.GroupMachines', WHERE WHAT IT READS IS OF BULK AT MOST 1048576: true; the input reads as it did. -/
def groupMachinesUptoRow : OpenClaim := { program := "ytiiiipdnodgkmaa", sum := "2f15969530163e9efb4e55068c673be2acf8bc8fad243dbe41acddbeda358acd", func := "trireme/triremelaw16.GroupMachines", spec := "groupMachines", unfollowed := true, recurses := true, apart := false, narrowed := true }
def GroupMachinesUptoSaid : Prop := groupMachinesUptoRow.holds Try.pinned (OpenSpec.upto groupMachinesSpec)

/-- 'triremelaw16.GroupOnce', WHERE WHAT IT READS IS OF BULK AT MOST 1048576: true; the input reads as it did. -/
def groupOnceUptoRow : OpenClaim := { program := "ytiiiipdnodgkmaa", sum := "2f15969530163e9efb4e55068c673be2acf8bc8fad243dbe41acddbeda358acd", func := "trireme/triremelaw16.GroupOnce", spec := "groupOnce", unfollowed := true, recurses := true, apart := false, narrowed := true }
def GroupOnceUptoSaid : Prop := groupOnceUptoRow.holds Try.pinned (OpenSpec.upto groupOnceSpec)

/-- 'triremelaw16.GroupFind', WHERE WHAT IT READS IS OF BULK AT MOST 1048576: true; the input reads as it did. -/
def groupFindUptoRow : OpenClaim := { program := "ytiiiipdnodgkmaa", sum := "2f15969530163e9efb4e55068c673be2acf8bc8fad243dbe41acddbeda358acd", func := "trireme/triremelaw16.GroupFind", spec := "groupFind", unfollowed := true, recurses := true, apart := false, narrowed := true }
def GroupFindUptoSaid : Prop := groupFindUptoRow.holds Try.pinned (OpenSpec.upto groupFindSpec)

/-- 'triremelaw35.LedgerTells', WHERE WHAT IT READS IS OF BULK AT MOST 1048576: true; the input reads as it did. -/
def ledgerTellsUptoRow : OpenClaim := { program := "ytiiiipdnodgkmaa", sum := "2f15969530163e9efb4e55068c673be2acf8bc8fad243dbe41acddbeda358acd", func := "trireme/triremelaw35.LedgerTells", spec := "ledgerTells", unfollowed := true, recurses := true, apart := false, narrowed := true }
def LedgerTellsUptoSaid : Prop := ledgerTellsUptoRow.holds Try.pinned (OpenSpec.upto ledgerTellsSpec)

/-- 'triremelaw35.LedgerGrows', WHERE WHAT IT READS IS OF BULK AT MOST 1048576: true; the input reads as it did. -/
def ledgerGrowsUptoRow : OpenClaim := { program := "ytiiiipdnodgkmaa", sum := "2f15969530163e9efb4e55068c673be2acf8bc8fad243dbe41acddbeda358acd", func := "trireme/triremelaw35.LedgerGrows", spec := "ledgerGrows", unfollowed := true, recurses := true, apart := false, narrowed := true }
def LedgerGrowsUptoSaid : Prop := ledgerGrowsUptoRow.holds Try.pinned (OpenSpec.upto ledgerGrowsSpec)

/-- 'triremelaw35.LedgerNil', WHERE WHAT IT READS IS OF BULK AT MOST 1048576: true; the input reads as it did. -/
def ledgerNilUptoRow : OpenClaim := { program := "ytiiiipdnodgkmaa", sum := "2f15969530163e9efb4e55068c673be2acf8bc8fad243dbe41acddbeda358acd", func := "trireme/triremelaw35.LedgerNil", spec := "ledgerNil", unfollowed := true, recurses := true, apart := false, narrowed := true }
def LedgerNilUptoSaid : Prop := ledgerNilUptoRow.holds Try.pinned (OpenSpec.upto ledgerNilSpec)

/-- 'triremelaw35.LedgerTwice', WHERE WHAT IT READS IS OF BULK AT MOST 1048576: true; the input reads as it did. -/
def ledgerTwiceUptoRow : OpenClaim := { program := "ytiiiipdnodgkmaa", sum := "2f15969530163e9efb4e55068c673be2acf8bc8fad243dbe41acddbeda358acd", func := "trireme/triremelaw35.LedgerTwice", spec := "ledgerTwice", unfollowed := true, recurses := true, apart := false, narrowed := true }
def LedgerTwiceUptoSaid : Prop := ledgerTwiceUptoRow.holds Try.pinned (OpenSpec.upto ledgerTwiceSpec)

end Rows
end Go.Proofs.Ytiiiipdnodgkmaa
