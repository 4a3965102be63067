/-
  No cell of these rows narrows 'for every input' (looked for: loops, veiled, ifaces, maps, wideKeys, modest, calm, conditions, laid).
  DERIVED. THE GIVEN ROWS OF THIS SEAT. 6 by the template 'for every input the law returns true; each argument reads behind the call as it read before'; 0 by the template 'total and deterministic' (their statements: YtknbdjkbaimelaaTotals.lean).
  GIVEN WITH THE SEED: the statements are not yours to turn. If you find one false, say at which input.
  Laid BY PROGRAM, IN A SANDBOX (cutbox-rows.mjs): the forced cells as the released guide's own fill.sh prints them over the translation ba1ce077f86cc8d3… (all of the seat's roots in one cut). By AI agents, Wed Nov 11 2026. No macro, syntax, notation, axiom, sorry.
-/
import Derived.Test.YtknbdjkbaimelaaChecked
import GoSem.Claim
import GoSem.ClaimJoined
import GoSem.ClaimMapViews
import Derived.JoinedTies
import Derived.KernelRfl
namespace Go.Proofs.Ytknbdjkbaimelaa
/- THE CELL 'sum', in the pinned program and in every row, IS THE sha256 OF THE DUMP (.gsa) THAT YtknbdjkbaimelaaProg.lean LOADS. Nothing in Lean hashes anything: it is a label: what it is worth is what the hold of that sum in a sandbox is worth. -/
noncomputable def Try.pinned : Pinned := { name := "ytknbdjkbaimelaa", sum := "ba1ce077f86cc8d3cee5b5016059ba9a15ff5f276a5f8cccb4e6ea8bb2a9bc41", checked := Try.checked }
namespace Rows
def none {H : Type} : Left H := { results := [], args := [] }

/-- 'triremelaw17.CloudBounds': WHATEVER THE INPUT: true; the input reads as it did. -/
def cloudBoundsSpec : ChangeSpec := { name := "cloudBounds", fn := fun _ => fun
  | [d1, d2, d3] => { results := [.lit (.bool true)], args := [d1, d2, d3] }
  | _ => none }
def cloudBoundsRow : OpenClaim := { program := "ytknbdjkbaimelaa", sum := "ba1ce077f86cc8d3cee5b5016059ba9a15ff5f276a5f8cccb4e6ea8bb2a9bc41", func := "trireme/triremelaw17.CloudBounds", spec := "cloudBounds", unfollowed := true, recurses := true, apart := false }
def CloudBoundsSaid : Prop := cloudBoundsRow.holds Try.pinned (OpenSpec.ofChange cloudBoundsSpec)

/-- ITS FALSE NEIGHBOUR: 'it returns false'. Refute it at one input. -/
def cloudBoundsWrong : ChangeSpec := { name := "cloudBounds", fn := fun _ => fun
  | [d1, d2, d3] => { results := [.lit (.bool false)], args := [d1, d2, d3] }
  | _ => none }
def CloudBoundsWrongFalsely : Prop := cloudBoundsRow.holds Try.pinned (OpenSpec.ofChange cloudBoundsWrong)

/-- 'triremelaw17.CloudSettles': WHATEVER THE INPUT: true; the input reads as it did. -/
def cloudSettlesSpec : ChangeSpec := { name := "cloudSettles", fn := fun _ => fun
  | [d1, d2, d3] => { results := [.lit (.bool true)], args := [d1, d2, d3] }
  | _ => none }
def cloudSettlesRow : OpenClaim := { program := "ytknbdjkbaimelaa", sum := "ba1ce077f86cc8d3cee5b5016059ba9a15ff5f276a5f8cccb4e6ea8bb2a9bc41", func := "trireme/triremelaw17.CloudSettles", spec := "cloudSettles", unfollowed := true, recurses := true, apart := false }
def CloudSettlesSaid : Prop := cloudSettlesRow.holds Try.pinned (OpenSpec.ofChange cloudSettlesSpec)

/-- ITS FALSE NEIGHBOUR: 'it returns false'. Refute it at one input. -/
def cloudSettlesWrong : ChangeSpec := { name := "cloudSettles", fn := fun _ => fun
  | [d1, d2, d3] => { results := [.lit (.bool false)], args := [d1, d2, d3] }
  | _ => none }
def CloudSettlesWrongFalsely : Prop := cloudSettlesRow.holds Try.pinned (OpenSpec.ofChange cloudSettlesWrong)

/-- 'triremelaw17.CloudPlays': WHATEVER THE INPUT: true; the input reads as it did. -/
def cloudPlaysSpec : ChangeSpec := { name := "cloudPlays", fn := fun _ => fun
  | [d1, d2, d3] => { results := [.lit (.bool true)], args := [d1, d2, d3] }
  | _ => none }
def cloudPlaysRow : OpenClaim := { program := "ytknbdjkbaimelaa", sum := "ba1ce077f86cc8d3cee5b5016059ba9a15ff5f276a5f8cccb4e6ea8bb2a9bc41", func := "trireme/triremelaw17.CloudPlays", spec := "cloudPlays", unfollowed := true, recurses := true, apart := false }
def CloudPlaysSaid : Prop := cloudPlaysRow.holds Try.pinned (OpenSpec.ofChange cloudPlaysSpec)

/-- ITS FALSE NEIGHBOUR: 'it returns false'. Refute it at one input. -/
def cloudPlaysWrong : ChangeSpec := { name := "cloudPlays", fn := fun _ => fun
  | [d1, d2, d3] => { results := [.lit (.bool false)], args := [d1, d2, d3] }
  | _ => none }
def CloudPlaysWrongFalsely : Prop := cloudPlaysRow.holds Try.pinned (OpenSpec.ofChange cloudPlaysWrong)

/-- 'triremelaw17.CloudNil': WHATEVER THE INPUT: true; the input reads as it did. -/
def cloudNilSpec : ChangeSpec := { name := "cloudNil", fn := fun _ => fun
  | [d1, d2] => { results := [.lit (.bool true)], args := [d1, d2] }
  | _ => none }
def cloudNilRow : OpenClaim := { program := "ytknbdjkbaimelaa", sum := "ba1ce077f86cc8d3cee5b5016059ba9a15ff5f276a5f8cccb4e6ea8bb2a9bc41", func := "trireme/triremelaw17.CloudNil", spec := "cloudNil", unfollowed := true, recurses := true, apart := false }
def CloudNilSaid : Prop := cloudNilRow.holds Try.pinned (OpenSpec.ofChange cloudNilSpec)

/-- ITS FALSE NEIGHBOUR: 'it returns false'. Refute it at one input. -/
def cloudNilWrong : ChangeSpec := { name := "cloudNil", fn := fun _ => fun
  | [d1, d2] => { results := [.lit (.bool false)], args := [d1, d2] }
  | _ => none }
def CloudNilWrongFalsely : Prop := cloudNilRow.holds Try.pinned (OpenSpec.ofChange cloudNilWrong)

/-- 'triremelaw33.PermitBounds': WHATEVER THE INPUT: true; the input reads as it did. -/
def permitBoundsSpec : ChangeSpec := { name := "permitBounds", fn := fun _ => fun
  | [d1, d2] => { results := [.lit (.bool true)], args := [d1, d2] }
  | _ => none }
def permitBoundsRow : OpenClaim := { program := "ytknbdjkbaimelaa", sum := "ba1ce077f86cc8d3cee5b5016059ba9a15ff5f276a5f8cccb4e6ea8bb2a9bc41", func := "trireme/triremelaw33.PermitBounds", spec := "permitBounds", unfollowed := true, recurses := true, apart := false }
def PermitBoundsSaid : Prop := permitBoundsRow.holds Try.pinned (OpenSpec.ofChange permitBoundsSpec)

/-- ITS FALSE NEIGHBOUR: 'it returns false'. Refute it at one input. -/
def permitBoundsWrong : ChangeSpec := { name := "permitBounds", fn := fun _ => fun
  | [d1, d2] => { results := [.lit (.bool false)], args := [d1, d2] }
  | _ => none }
def PermitBoundsWrongFalsely : Prop := permitBoundsRow.holds Try.pinned (OpenSpec.ofChange permitBoundsWrong)

/-- 'triremelaw33.PermitTaken': WHATEVER THE INPUT: true; the input reads as it did. -/
def permitTakenSpec : ChangeSpec := { name := "permitTaken", fn := fun _ => fun
  | [d] => { results := [.lit (.bool true)], args := [d] }
  | _ => none }
def permitTakenRow : OpenClaim := { program := "ytknbdjkbaimelaa", sum := "ba1ce077f86cc8d3cee5b5016059ba9a15ff5f276a5f8cccb4e6ea8bb2a9bc41", func := "trireme/triremelaw33.PermitTaken", spec := "permitTaken", unfollowed := true, recurses := true, apart := false }
def PermitTakenSaid : Prop := permitTakenRow.holds Try.pinned (OpenSpec.ofChange permitTakenSpec)

/-- ITS FALSE NEIGHBOUR: 'it returns false'. Refute it at one input. -/
def permitTakenWrong : ChangeSpec := { name := "permitTaken", fn := fun _ => fun
  | [d] => { results := [.lit (.bool false)], args := [d] }
  | _ => none }
def PermitTakenWrongFalsely : Prop := permitTakenRow.holds Try.pinned (OpenSpec.ofChange permitTakenWrong)

/- THE SECOND FORM. 'bulk': how many values and letters a reading holds, each counted each time it is reached (what is shared counts as often as it is met; a slice's spare places count too). A statement '..UptoSaid' is the law's where the arguments, and the package variables that the reading takes, are together of bulk at most 1048576: NARROWER than '..Said'. Prove '..Said' where nothing that the law and all that it calls make is longer than what came in: it says more and counts as full. Else prove '..UptoSaid'. A law counts once. -/
mutual
def uptoBulk {H : Type} : DataW H → Nat
  | .lit (.string bytes) => bytes.length + 1
  | .lit _ => 1
  | .nil => 1
  | .ptr d => uptoBulk d + 1
  | .slice elems spare => uptoBulkAll elems + uptoBulkAll spare + 1
  | .agg parts => uptoBulkAll parts + 1
  | .iface _ d => uptoBulk d + 1
  | .map entries => uptoBulkEntries entries + 1
  | .held _ => 1
def uptoBulkAll {H : Type} : List (DataW H) → Nat
  | [] => 0
  | d :: r => uptoBulk d + uptoBulkAll r
def uptoBulkEntries {H : Type} : List (Lit × DataW H) → Nat
  | [] => 0
  | x :: r => uptoBulkEntry x + uptoBulkEntries r
def uptoBulkEntry {H : Type} : Lit × DataW H → Nat
  | (.string bytes, d) => bytes.length + uptoBulk d + 1
  | (_, d) => uptoBulk d + 1
 end
def uptoSmall : (H : Type) → List (DataW H) → Bool := fun _ ds => decide (uptoBulkAll ds ≤ 1048576)
def OpenSpec.upto (s : _root_.Go.ChangeSpec) : _root_.Go.OpenSpec := { _root_.Go.OpenSpec.ofChange s with cond := some uptoSmall }

/-- 'triremelaw17.CloudBounds', WHERE WHAT IT READS IS OF BULK AT MOST 1048576: true; the input reads as it did. -/
def cloudBoundsUptoRow : OpenClaim := { program := "ytknbdjkbaimelaa", sum := "ba1ce077f86cc8d3cee5b5016059ba9a15ff5f276a5f8cccb4e6ea8bb2a9bc41", func := "trireme/triremelaw17.CloudBounds", spec := "cloudBounds", unfollowed := true, recurses := true, apart := false, narrowed := true }
def CloudBoundsUptoSaid : Prop := cloudBoundsUptoRow.holds Try.pinned (OpenSpec.upto cloudBoundsSpec)

/-- 'triremelaw17.CloudSettles', WHERE WHAT IT READS IS OF BULK AT MOST 1048576: true; the input reads as it did. -/
def cloudSettlesUptoRow : OpenClaim := { program := "ytknbdjkbaimelaa", sum := "ba1ce077f86cc8d3cee5b5016059ba9a15ff5f276a5f8cccb4e6ea8bb2a9bc41", func := "trireme/triremelaw17.CloudSettles", spec := "cloudSettles", unfollowed := true, recurses := true, apart := false, narrowed := true }
def CloudSettlesUptoSaid : Prop := cloudSettlesUptoRow.holds Try.pinned (OpenSpec.upto cloudSettlesSpec)

/-- 'triremelaw17.CloudPlays', WHERE WHAT IT READS IS OF BULK AT MOST 1048576: true; the input reads as it did. -/
def cloudPlaysUptoRow : OpenClaim := { program := "ytknbdjkbaimelaa", sum := "ba1ce077f86cc8d3cee5b5016059ba9a15ff5f276a5f8cccb4e6ea8bb2a9bc41", func := "trireme/triremelaw17.CloudPlays", spec := "cloudPlays", unfollowed := true, recurses := true, apart := false, narrowed := true }
def CloudPlaysUptoSaid : Prop := cloudPlaysUptoRow.holds Try.pinned (OpenSpec.upto cloudPlaysSpec)

/-- 'triremelaw17.CloudNil', WHERE WHAT IT READS IS OF BULK AT MOST 1048576: true; the input reads as it did. -/
def cloudNilUptoRow : OpenClaim := { program := "ytknbdjkbaimelaa", sum := "ba1ce077f86cc8d3cee5b5016059ba9a15ff5f276a5f8cccb4e6ea8bb2a9bc41", func := "trireme/triremelaw17.CloudNil", spec := "cloudNil", unfollowed := true, recurses := true, apart := false, narrowed := true }
def CloudNilUptoSaid : Prop := cloudNilUptoRow.holds Try.pinned (OpenSpec.upto cloudNilSpec)

/-- 'triremelaw33.PermitBounds', WHERE WHAT IT READS IS OF BULK AT MOST 1048576: true; the input reads as it did. -/
def permitBoundsUptoRow : OpenClaim := { program := "ytknbdjkbaimelaa", sum := "ba1ce077f86cc8d3cee5b5016059ba9a15ff5f276a5f8cccb4e6ea8bb2a9bc41", func := "trireme/triremelaw33.PermitBounds", spec := "permitBounds", unfollowed := true, recurses := true, apart := false, narrowed := true }
def PermitBoundsUptoSaid : Prop := permitBoundsUptoRow.holds Try.pinned (OpenSpec.upto permitBoundsSpec)

/-- 'triremelaw33.PermitTaken', WHERE WHAT IT READS IS OF BULK AT MOST 1048576: true; the input reads as it did. -/
def permitTakenUptoRow : OpenClaim := { program := "ytknbdjkbaimelaa", sum := "ba1ce077f86cc8d3cee5b5016059ba9a15ff5f276a5f8cccb4e6ea8bb2a9bc41", func := "trireme/triremelaw33.PermitTaken", spec := "permitTaken", unfollowed := true, recurses := true, apart := false, narrowed := true }
def PermitTakenUptoSaid : Prop := permitTakenUptoRow.holds Try.pinned (OpenSpec.upto permitTakenSpec)

end Rows
end Go.Proofs.Ytknbdjkbaimelaa
