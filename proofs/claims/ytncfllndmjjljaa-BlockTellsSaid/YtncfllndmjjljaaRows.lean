/-
  No cell of these rows narrows 'for every input' (looked for: loops, veiled, ifaces, maps, wideKeys, modest, calm, conditions, laid).
  DERIVED. THE GIVEN ROWS OF THIS SEAT. 8 by the template 'for every input the law returns true; each argument reads behind the call as it read before'; 0 by the template 'total and deterministic' (their statements: YtncfllndmjjljaaTotals.lean).
  GIVEN WITH THE SEED: the statements are not yours to turn. If you find one false, say at which input.
  Laid BY PROGRAM, IN A SANDBOX (cutbox-rows.mjs): the forced cells as the released guide's own fill.sh prints them over the translation f107df4d7c12aaa7… (all of the seat's roots in one cut). By AI agents, Wed Nov 11 2026. No macro, syntax, notation, axiom, sorry.
-/
import Derived.Test.YtncfllndmjjljaaChecked
import GoSem.Claim
import GoSem.ClaimJoined
import GoSem.ClaimMapViews
import Derived.JoinedTies
import Derived.KernelRfl
namespace Go.Proofs.Ytncfllndmjjljaa
/- THE CELL 'sum', in the pinned program and in every row, IS THE sha256 OF THE DUMP (.gsa) THAT YtncfllndmjjljaaProg.lean LOADS. Nothing in Lean hashes anything: it is a label: what it is worth is what the hold of that sum in a sandbox is worth. -/
noncomputable def Try.pinned : Pinned := { name := "ytncfllndmjjljaa", sum := "f107df4d7c12aaa782c0a91862005bf45089b8cf15fc783b6a3d221027b0e763", checked := Try.checked }
namespace Rows
def none {H : Type} : Left H := { results := [], args := [] }

/-- 'triremelaw25.BlockTells': WHATEVER THE INPUT: true; the input reads as it did. -/
def blockTellsSpec : ChangeSpec := { name := "blockTells", fn := fun _ => fun
  | [d1, d2, d3] => { results := [.lit (.bool true)], args := [d1, d2, d3] }
  | _ => none }
def blockTellsRow : OpenClaim := { program := "ytncfllndmjjljaa", sum := "f107df4d7c12aaa782c0a91862005bf45089b8cf15fc783b6a3d221027b0e763", func := "trireme/triremelaw25.BlockTells", spec := "blockTells", unfollowed := true, recurses := true, apart := false }
def BlockTellsSaid : Prop := blockTellsRow.holds Try.pinned (OpenSpec.ofChange blockTellsSpec)

/-- ITS FALSE NEIGHBOUR: 'it returns false'. Refute it at one input. -/
def blockTellsWrong : ChangeSpec := { name := "blockTells", fn := fun _ => fun
  | [d1, d2, d3] => { results := [.lit (.bool false)], args := [d1, d2, d3] }
  | _ => none }
def BlockTellsWrongFalsely : Prop := blockTellsRow.holds Try.pinned (OpenSpec.ofChange blockTellsWrong)

/-- 'triremelaw25.BlockFree': WHATEVER THE INPUT: true; the input reads as it did. -/
def blockFreeSpec : ChangeSpec := { name := "blockFree", fn := fun _ => fun
  | [d1, d2, d3] => { results := [.lit (.bool true)], args := [d1, d2, d3] }
  | _ => none }
def blockFreeRow : OpenClaim := { program := "ytncfllndmjjljaa", sum := "f107df4d7c12aaa782c0a91862005bf45089b8cf15fc783b6a3d221027b0e763", func := "trireme/triremelaw25.BlockFree", spec := "blockFree", unfollowed := true, recurses := true, apart := false }
def BlockFreeSaid : Prop := blockFreeRow.holds Try.pinned (OpenSpec.ofChange blockFreeSpec)

/-- ITS FALSE NEIGHBOUR: 'it returns false'. Refute it at one input. -/
def blockFreeWrong : ChangeSpec := { name := "blockFree", fn := fun _ => fun
  | [d1, d2, d3] => { results := [.lit (.bool false)], args := [d1, d2, d3] }
  | _ => none }
def BlockFreeWrongFalsely : Prop := blockFreeRow.holds Try.pinned (OpenSpec.ofChange blockFreeWrong)

/-- 'triremelaw25.BlockIdle': WHATEVER THE INPUT: true; the input reads as it did. -/
def blockIdleSpec : ChangeSpec := { name := "blockIdle", fn := fun _ => fun
  | [d1, d2, d3] => { results := [.lit (.bool true)], args := [d1, d2, d3] }
  | _ => none }
def blockIdleRow : OpenClaim := { program := "ytncfllndmjjljaa", sum := "f107df4d7c12aaa782c0a91862005bf45089b8cf15fc783b6a3d221027b0e763", func := "trireme/triremelaw25.BlockIdle", spec := "blockIdle", unfollowed := true, recurses := true, apart := false }
def BlockIdleSaid : Prop := blockIdleRow.holds Try.pinned (OpenSpec.ofChange blockIdleSpec)

/-- ITS FALSE NEIGHBOUR: 'it returns false'. Refute it at one input. -/
def blockIdleWrong : ChangeSpec := { name := "blockIdle", fn := fun _ => fun
  | [d1, d2, d3] => { results := [.lit (.bool false)], args := [d1, d2, d3] }
  | _ => none }
def BlockIdleWrongFalsely : Prop := blockIdleRow.holds Try.pinned (OpenSpec.ofChange blockIdleWrong)

/-- 'triremelaw25.BlockLess': WHATEVER THE INPUT: true; the input reads as it did. -/
def blockLessSpec : ChangeSpec := { name := "blockLess", fn := fun _ => fun
  | [d1, d2, d3] => { results := [.lit (.bool true)], args := [d1, d2, d3] }
  | _ => none }
def blockLessRow : OpenClaim := { program := "ytncfllndmjjljaa", sum := "f107df4d7c12aaa782c0a91862005bf45089b8cf15fc783b6a3d221027b0e763", func := "trireme/triremelaw25.BlockLess", spec := "blockLess", unfollowed := true, recurses := true, apart := false }
def BlockLessSaid : Prop := blockLessRow.holds Try.pinned (OpenSpec.ofChange blockLessSpec)

/-- ITS FALSE NEIGHBOUR: 'it returns false'. Refute it at one input. -/
def blockLessWrong : ChangeSpec := { name := "blockLess", fn := fun _ => fun
  | [d1, d2, d3] => { results := [.lit (.bool false)], args := [d1, d2, d3] }
  | _ => none }
def BlockLessWrongFalsely : Prop := blockLessRow.holds Try.pinned (OpenSpec.ofChange blockLessWrong)

/-- 'triremelaw08.KinGroups': WHATEVER THE INPUT: true; the input reads as it did. -/
def kinGroupsSpec : ChangeSpec := { name := "kinGroups", fn := fun _ => fun
  | [d] => { results := [.lit (.bool true)], args := [d] }
  | _ => none }
def kinGroupsRow : OpenClaim := { program := "ytncfllndmjjljaa", sum := "f107df4d7c12aaa782c0a91862005bf45089b8cf15fc783b6a3d221027b0e763", func := "trireme/triremelaw08.KinGroups", spec := "kinGroups", unfollowed := true, recurses := true, apart := false }
def KinGroupsSaid : Prop := kinGroupsRow.holds Try.pinned (OpenSpec.ofChange kinGroupsSpec)

/-- ITS FALSE NEIGHBOUR: 'it returns false'. Refute it at one input. -/
def kinGroupsWrong : ChangeSpec := { name := "kinGroups", fn := fun _ => fun
  | [d] => { results := [.lit (.bool false)], args := [d] }
  | _ => none }
def KinGroupsWrongFalsely : Prop := kinGroupsRow.holds Try.pinned (OpenSpec.ofChange kinGroupsWrong)

/-- 'triremelaw08.KinTells': WHATEVER THE INPUT: true; the input reads as it did. -/
def kinTellsSpec : ChangeSpec := { name := "kinTells", fn := fun _ => fun
  | [d1, d2] => { results := [.lit (.bool true)], args := [d1, d2] }
  | _ => none }
def kinTellsRow : OpenClaim := { program := "ytncfllndmjjljaa", sum := "f107df4d7c12aaa782c0a91862005bf45089b8cf15fc783b6a3d221027b0e763", func := "trireme/triremelaw08.KinTells", spec := "kinTells", unfollowed := true, recurses := true, apart := false }
def KinTellsSaid : Prop := kinTellsRow.holds Try.pinned (OpenSpec.ofChange kinTellsSpec)

/-- ITS FALSE NEIGHBOUR: 'it returns false'. Refute it at one input. -/
def kinTellsWrong : ChangeSpec := { name := "kinTells", fn := fun _ => fun
  | [d1, d2] => { results := [.lit (.bool false)], args := [d1, d2] }
  | _ => none }
def KinTellsWrongFalsely : Prop := kinTellsRow.holds Try.pinned (OpenSpec.ofChange kinTellsWrong)

/-- 'triremelaw08.KinOnce': WHATEVER THE INPUT: true; the input reads as it did. -/
def kinOnceSpec : ChangeSpec := { name := "kinOnce", fn := fun _ => fun
  | [d] => { results := [.lit (.bool true)], args := [d] }
  | _ => none }
def kinOnceRow : OpenClaim := { program := "ytncfllndmjjljaa", sum := "f107df4d7c12aaa782c0a91862005bf45089b8cf15fc783b6a3d221027b0e763", func := "trireme/triremelaw08.KinOnce", spec := "kinOnce", unfollowed := true, recurses := true, apart := false }
def KinOnceSaid : Prop := kinOnceRow.holds Try.pinned (OpenSpec.ofChange kinOnceSpec)

/-- ITS FALSE NEIGHBOUR: 'it returns false'. Refute it at one input. -/
def kinOnceWrong : ChangeSpec := { name := "kinOnce", fn := fun _ => fun
  | [d] => { results := [.lit (.bool false)], args := [d] }
  | _ => none }
def KinOnceWrongFalsely : Prop := kinOnceRow.holds Try.pinned (OpenSpec.ofChange kinOnceWrong)

/-- 'triremelaw08.KinBack': WHATEVER THE INPUT: true; the input reads as it did. -/
def kinBackSpec : ChangeSpec := { name := "kinBack", fn := fun _ => fun
  | [d] => { results := [.lit (.bool true)], args := [d] }
  | _ => none }
def kinBackRow : OpenClaim := { program := "ytncfllndmjjljaa", sum := "f107df4d7c12aaa782c0a91862005bf45089b8cf15fc783b6a3d221027b0e763", func := "trireme/triremelaw08.KinBack", spec := "kinBack", unfollowed := true, recurses := true, apart := false }
def KinBackSaid : Prop := kinBackRow.holds Try.pinned (OpenSpec.ofChange kinBackSpec)

/-- ITS FALSE NEIGHBOUR: 'it returns false'. Refute it at one input. -/
def kinBackWrong : ChangeSpec := { name := "kinBack", fn := fun _ => fun
  | [d] => { results := [.lit (.bool false)], args := [d] }
  | _ => none }
def KinBackWrongFalsely : Prop := kinBackRow.holds Try.pinned (OpenSpec.ofChange kinBackWrong)

/- THE SECOND FORM. 'bulk': how many values and letters a reading holds, each counted each time it is reached (what is shared counts as often as it is met; a slice's spare places count too). A statement '..UptoSaid' is the law's where the arguments, and the package variables that the reading takes, are together of bulk at most 1048576: NARROWER than '..Said'. Prove '..Said' where nothing that the law and all that it calls make is longer than what came in: it says more and counts as full. Else prove '..UptoSaid'. A law counts once. -/
mutual
def uptoBulk {H : Type} : DataW H → Nat
  | .lit (.string bytes) => bytes.length + 1
  | .lit _ => 1
  | .nil => 1
  | .ptr d => uptoBulk d + 1
  | .slice elems spare => uptoBulkAll elems + uptoBulkAll spare + 1
  | .agg parts => uptoBulkAll parts + 1
  | .iface _ d => uptoBulk d + 1
  | .map entries => uptoBulkEntries entries + 1
  | .held _ => 1
def uptoBulkAll {H : Type} : List (DataW H) → Nat
  | [] => 0
  | d :: r => uptoBulk d + uptoBulkAll r
def uptoBulkEntries {H : Type} : List (Lit × DataW H) → Nat
  | [] => 0
  | x :: r => uptoBulkEntry x + uptoBulkEntries r
def uptoBulkEntry {H : Type} : Lit × DataW H → Nat
  | (.string bytes, d) => bytes.length + uptoBulk d + 1
  | (_, d) => uptoBulk d + 1
 end
def uptoSmall : (H : Type) → List (DataW H) → Bool := fun _ ds => decide (uptoBulkAll ds ≤ 1048576)
def OpenSpec.upto (s : _root_.Go.ChangeSpec) : _root_.Go.OpenSpec := { _root_.Go.OpenSpec.ofChange s with cond := some uptoSmall }

/-- 'triremelaw25.BlockTells', WHERE WHAT IT READS IS OF BULK AT MOST 1048576: true; the input reads as it did. -/
def blockTellsUptoRow : OpenClaim := { program := "ytncfllndmjjljaa", sum := "f107df4d7c12aaa782c0a91862005bf45089b8cf15fc783b6a3d221027b0e763", func := "trireme/triremelaw25.BlockTells", spec := "blockTells", unfollowed := true, recurses := true, apart := false, narrowed := true }
def BlockTellsUptoSaid : Prop := blockTellsUptoRow.holds Try.pinned (OpenSpec.upto blockTellsSpec)

/-- 'triremelaw25.BlockFree', WHERE WHAT IT READS IS OF BULK AT MOST 1048576: true; the input reads as it did. -/
def blockFreeUptoRow : OpenClaim := { program := "ytncfllndmjjljaa", sum := "f107df4d7c12aaa782c0a91862005bf45089b8cf15fc783b6a3d221027b0e763", func := "trireme/triremelaw25.BlockFree", spec := "blockFree", unfollowed := true, recurses := true, apart := false, narrowed := true }
def BlockFreeUptoSaid : Prop := blockFreeUptoRow.holds Try.pinned (OpenSpec.upto blockFreeSpec)

/-- 'triremelaw25.BlockIdle', WHERE WHAT IT READS IS OF BULK AT MOST 1048576: true; the input reads as it did. -/
def blockIdleUptoRow : OpenClaim := { program := "ytncfllndmjjljaa", sum := "f107df4d7c12aaa782c0a91862005bf45089b8cf15fc783b6a3d221027b0e763", func := "trireme/triremelaw25.BlockIdle", spec := "blockIdle", unfollowed := true, recurses := true, apart := false, narrowed := true }
def BlockIdleUptoSaid : Prop := blockIdleUptoRow.holds Try.pinned (OpenSpec.upto blockIdleSpec)

/-- 'triremelaw25.BlockLess', WHERE WHAT IT READS IS OF BULK AT MOST 1048576: true; the input reads as it did. -/
def blockLessUptoRow : OpenClaim := { program := "ytncfllndmjjljaa", sum := "f107df4d7c12aaa782c0a91862005bf45089b8cf15fc783b6a3d221027b0e763", func := "trireme/triremelaw25.BlockLess", spec := "blockLess", unfollowed := true, recurses := true, apart := false, narrowed := true }
def BlockLessUptoSaid : Prop := blockLessUptoRow.holds Try.pinned (OpenSpec.upto blockLessSpec)

/-- 'triremelaw08.KinGroups', WHERE WHAT IT READS IS OF BULK AT MOST 1048576: true; the input reads as it did. -/
def kinGroupsUptoRow : OpenClaim := { program := "ytncfllndmjjljaa", sum := "f107df4d7c12aaa782c0a91862005bf45089b8cf15fc783b6a3d221027b0e763", func := "trireme/triremelaw08.KinGroups", spec := "kinGroups", unfollowed := true, recurses := true, apart := false, narrowed := true }
def KinGroupsUptoSaid : Prop := kinGroupsUptoRow.holds Try.pinned (OpenSpec.upto kinGroupsSpec)

/-- 'triremelaw08.KinTells', WHERE WHAT IT READS IS OF BULK AT MOST 1048576: true; the input reads as it did. -/
def kinTellsUptoRow : OpenClaim := { program := "ytncfllndmjjljaa", sum := "f107df4d7c12aaa782c0a91862005bf45089b8cf15fc783b6a3d221027b0e763", func := "trireme/triremelaw08.KinTells", spec := "kinTells", unfollowed := true, recurses := true, apart := false, narrowed := true }
def KinTellsUptoSaid : Prop := kinTellsUptoRow.holds Try.pinned (OpenSpec.upto kinTellsSpec)

/-- 'triremelaw08.KinOnce', WHERE WHAT IT READS IS OF BULK AT MOST 1048576: true; the input reads as it did. -/
def kinOnceUptoRow : OpenClaim := { program := "ytncfllndmjjljaa", sum := "f107df4d7c12aaa782c0a91862005bf45089b8cf15fc783b6a3d221027b0e763", func := "trireme/triremelaw08.KinOnce", spec := "kinOnce", unfollowed := true, recurses := true, apart := false, narrowed := true }
def KinOnceUptoSaid : Prop := kinOnceUptoRow.holds Try.pinned (OpenSpec.upto kinOnceSpec)

/-- 'triremelaw08.KinBack', WHERE WHAT IT READS IS OF BULK AT MOST 1048576: true; the input reads as it did. -/
def kinBackUptoRow : OpenClaim := { program := "ytncfllndmjjljaa", sum := "f107df4d7c12aaa782c0a91862005bf45089b8cf15fc783b6a3d221027b0e763", func := "trireme/triremelaw08.KinBack", spec := "kinBack", unfollowed := true, recurses := true, apart := false, narrowed := true }
def KinBackUptoSaid : Prop := kinBackUptoRow.holds Try.pinned (OpenSpec.upto kinBackSpec)

end Rows
end Go.Proofs.Ytncfllndmjjljaa
