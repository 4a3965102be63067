/-
  No cell of these rows narrows 'for every input' (looked for: loops, veiled, ifaces, maps, wideKeys, modest, calm, conditions, laid).
  DERIVED. THE GIVEN ROWS OF THIS SEAT. 12 by the template 'for every input the law returns true; each argument reads behind the call as it read before'; 0 by the template 'total and deterministic' (their statements: YthmajioeldhngaaTotals.lean).
  GIVEN WITH THE SEED: the statements are not yours to turn. If you find one false, say at which input.
  Laid BY PROGRAM, IN A SANDBOX (cutbox-rows.mjs): the forced cells as the released guide's own fill.sh prints them over the translation 5635ceca7be2f835… (all of the seat's roots in one cut). By AI agents, Wed Nov 11 2026. No macro, syntax, notation, axiom, sorry.
-/
import Derived.Test.YthmajioeldhngaaChecked
import GoSem.Claim
import GoSem.ClaimJoined
import GoSem.ClaimMapViews
import Derived.JoinedTies
import Derived.KernelRfl
namespace Go.Proofs.Ythmajioeldhngaa
/- THE CELL 'sum', in the pinned program and in every row, IS THE sha256 OF THE DUMP (.gsa) THAT YthmajioeldhngaaProg.lean LOADS. Nothing in Lean hashes anything: it is a label: what it is worth is what the hold of that sum in a sandbox is worth. -/
noncomputable def Try.pinned : Pinned := { name := "ythmajioeldhngaa", sum := "5635ceca7be2f8354968c6c56bad63a5ca3f3d54008a9f4045e62543376dba8d", checked := Try.checked }
namespace Rows
def none {H : Type} : Left H := { results := [], args := [] }

/-- 'triremelaw05.LabelsRight': WHATEVER THE INPUT: true; the input reads as it did. -/
def labelsRightSpec : ChangeSpec := { name := "labelsRight", fn := fun _ => fun
  | [d1, d2] => { results := [.lit (.bool true)], args := [d1, d2] }
  | _ => none }
def labelsRightRow : OpenClaim := { program := "ythmajioeldhngaa", sum := "5635ceca7be2f8354968c6c56bad63a5ca3f3d54008a9f4045e62543376dba8d", func := "trireme/triremelaw05.LabelsRight", spec := "labelsRight", unfollowed := true, recurses := true, apart := false }
def LabelsRightSaid : Prop := labelsRightRow.holds Try.pinned (OpenSpec.ofChange labelsRightSpec)

/-- ITS FALSE NEIGHBOUR: 'it returns false'. Refute it at one input. -/
def labelsRightWrong : ChangeSpec := { name := "labelsRight", fn := fun _ => fun
  | [d1, d2] => { results := [.lit (.bool false)], args := [d1, d2] }
  | _ => none }
def LabelsRightWrongFalsely : Prop := labelsRightRow.holds Try.pinned (OpenSpec.ofChange labelsRightWrong)

/-- 'triremelaw05.LabelsSet': WHATEVER THE INPUT: true; the input reads as it did. -/
def labelsSetSpec : ChangeSpec := { name := "labelsSet", fn := fun _ => fun
  | [d1, d2, d3] => { results := [.lit (.bool true)], args := [d1, d2, d3] }
  | _ => none }
def labelsSetRow : OpenClaim := { program := "ythmajioeldhngaa", sum := "5635ceca7be2f8354968c6c56bad63a5ca3f3d54008a9f4045e62543376dba8d", func := "trireme/triremelaw05.LabelsSet", spec := "labelsSet", unfollowed := true, recurses := true, apart := false }
def LabelsSetSaid : Prop := labelsSetRow.holds Try.pinned (OpenSpec.ofChange labelsSetSpec)

/-- ITS FALSE NEIGHBOUR: 'it returns false'. Refute it at one input. -/
def labelsSetWrong : ChangeSpec := { name := "labelsSet", fn := fun _ => fun
  | [d1, d2, d3] => { results := [.lit (.bool false)], args := [d1, d2, d3] }
  | _ => none }
def LabelsSetWrongFalsely : Prop := labelsSetRow.holds Try.pinned (OpenSpec.ofChange labelsSetWrong)

/-- 'triremelaw05.LabelsMeets': WHATEVER THE INPUT: true; the input reads as it did. -/
def labelsMeetsSpec : ChangeSpec := { name := "labelsMeets", fn := fun _ => fun
  | [d1, d2, d3] => { results := [.lit (.bool true)], args := [d1, d2, d3] }
  | _ => none }
def labelsMeetsRow : OpenClaim := { program := "ythmajioeldhngaa", sum := "5635ceca7be2f8354968c6c56bad63a5ca3f3d54008a9f4045e62543376dba8d", func := "trireme/triremelaw05.LabelsMeets", spec := "labelsMeets", unfollowed := true, recurses := true, apart := false }
def LabelsMeetsSaid : Prop := labelsMeetsRow.holds Try.pinned (OpenSpec.ofChange labelsMeetsSpec)

/-- ITS FALSE NEIGHBOUR: 'it returns false'. Refute it at one input. -/
def labelsMeetsWrong : ChangeSpec := { name := "labelsMeets", fn := fun _ => fun
  | [d1, d2, d3] => { results := [.lit (.bool false)], args := [d1, d2, d3] }
  | _ => none }
def LabelsMeetsWrongFalsely : Prop := labelsMeetsRow.holds Try.pinned (OpenSpec.ofChange labelsMeetsWrong)

/-- 'triremelaw32.TraceParses': WHATEVER THE INPUT: true; the input reads as it did. -/
def traceParsesSpec : ChangeSpec := { name := "traceParses", fn := fun _ => fun
  | [d] => { results := [.lit (.bool true)], args := [d] }
  | _ => none }
def traceParsesRow : OpenClaim := { program := "ythmajioeldhngaa", sum := "5635ceca7be2f8354968c6c56bad63a5ca3f3d54008a9f4045e62543376dba8d", func := "trireme/triremelaw32.TraceParses", spec := "traceParses", unfollowed := true, recurses := true, apart := false }
def TraceParsesSaid : Prop := traceParsesRow.holds Try.pinned (OpenSpec.ofChange traceParsesSpec)

/-- ITS FALSE NEIGHBOUR: 'it returns false'. Refute it at one input. -/
def traceParsesWrong : ChangeSpec := { name := "traceParses", fn := fun _ => fun
  | [d] => { results := [.lit (.bool false)], args := [d] }
  | _ => none }
def TraceParsesWrongFalsely : Prop := traceParsesRow.holds Try.pinned (OpenSpec.ofChange traceParsesWrong)

/-- 'triremelaw32.TraceTells': WHATEVER THE INPUT: true; the input reads as it did. -/
def traceTellsSpec : ChangeSpec := { name := "traceTells", fn := fun _ => fun
  | [d1, d2] => { results := [.lit (.bool true)], args := [d1, d2] }
  | _ => none }
def traceTellsRow : OpenClaim := { program := "ythmajioeldhngaa", sum := "5635ceca7be2f8354968c6c56bad63a5ca3f3d54008a9f4045e62543376dba8d", func := "trireme/triremelaw32.TraceTells", spec := "traceTells", unfollowed := true, recurses := true, apart := false }
def TraceTellsSaid : Prop := traceTellsRow.holds Try.pinned (OpenSpec.ofChange traceTellsSpec)

/-- ITS FALSE NEIGHBOUR: 'it returns false'. Refute it at one input. -/
def traceTellsWrong : ChangeSpec := { name := "traceTells", fn := fun _ => fun
  | [d1, d2] => { results := [.lit (.bool false)], args := [d1, d2] }
  | _ => none }
def TraceTellsWrongFalsely : Prop := traceTellsRow.holds Try.pinned (OpenSpec.ofChange traceTellsWrong)

/-- 'triremelaw32.TraceBack': WHATEVER THE INPUT: true; the input reads as it did. -/
def traceBackSpec : ChangeSpec := { name := "traceBack", fn := fun _ => fun
  | [d] => { results := [.lit (.bool true)], args := [d] }
  | _ => none }
def traceBackRow : OpenClaim := { program := "ythmajioeldhngaa", sum := "5635ceca7be2f8354968c6c56bad63a5ca3f3d54008a9f4045e62543376dba8d", func := "trireme/triremelaw32.TraceBack", spec := "traceBack", unfollowed := true, recurses := true, apart := false }
def TraceBackSaid : Prop := traceBackRow.holds Try.pinned (OpenSpec.ofChange traceBackSpec)

/-- ITS FALSE NEIGHBOUR: 'it returns false'. Refute it at one input. -/
def traceBackWrong : ChangeSpec := { name := "traceBack", fn := fun _ => fun
  | [d] => { results := [.lit (.bool false)], args := [d] }
  | _ => none }
def TraceBackWrongFalsely : Prop := traceBackRow.holds Try.pinned (OpenSpec.ofChange traceBackWrong)

/-- 'triremelaw32.TraceAhead': WHATEVER THE INPUT: true; the input reads as it did. -/
def traceAheadSpec : ChangeSpec := { name := "traceAhead", fn := fun _ => fun
  | [d1, d2] => { results := [.lit (.bool true)], args := [d1, d2] }
  | _ => none }
def traceAheadRow : OpenClaim := { program := "ythmajioeldhngaa", sum := "5635ceca7be2f8354968c6c56bad63a5ca3f3d54008a9f4045e62543376dba8d", func := "trireme/triremelaw32.TraceAhead", spec := "traceAhead", unfollowed := true, recurses := true, apart := false }
def TraceAheadSaid : Prop := traceAheadRow.holds Try.pinned (OpenSpec.ofChange traceAheadSpec)

/-- ITS FALSE NEIGHBOUR: 'it returns false'. Refute it at one input. -/
def traceAheadWrong : ChangeSpec := { name := "traceAhead", fn := fun _ => fun
  | [d1, d2] => { results := [.lit (.bool false)], args := [d1, d2] }
  | _ => none }
def TraceAheadWrongFalsely : Prop := traceAheadRow.holds Try.pinned (OpenSpec.ofChange traceAheadWrong)

/-- 'triremelaw03.QuantParses': WHATEVER THE INPUT: true; the input reads as it did. -/
def quantParsesSpec : ChangeSpec := { name := "quantParses", fn := fun _ => fun
  | [d] => { results := [.lit (.bool true)], args := [d] }
  | _ => none }
def quantParsesRow : OpenClaim := { program := "ythmajioeldhngaa", sum := "5635ceca7be2f8354968c6c56bad63a5ca3f3d54008a9f4045e62543376dba8d", func := "trireme/triremelaw03.QuantParses", spec := "quantParses", unfollowed := true, recurses := true, named := ["math/bits.divideError", "math/bits.overflowError"], apart := false }
def QuantParsesSaid : Prop := quantParsesRow.holds Try.pinned (OpenSpec.ofChange quantParsesSpec)

/-- ITS FALSE NEIGHBOUR: 'it returns false'. Refute it at one input. -/
def quantParsesWrong : ChangeSpec := { name := "quantParses", fn := fun _ => fun
  | [d] => { results := [.lit (.bool false)], args := [d] }
  | _ => none }
def QuantParsesWrongFalsely : Prop := quantParsesRow.holds Try.pinned (OpenSpec.ofChange quantParsesWrong)

/-- 'triremelaw03.QuantShows': WHATEVER THE INPUT: true; the input reads as it did. -/
def quantShowsSpec : ChangeSpec := { name := "quantShows", fn := fun _ => fun
  | [d] => { results := [.lit (.bool true)], args := [d] }
  | _ => none }
def quantShowsRow : OpenClaim := { program := "ythmajioeldhngaa", sum := "5635ceca7be2f8354968c6c56bad63a5ca3f3d54008a9f4045e62543376dba8d", func := "trireme/triremelaw03.QuantShows", spec := "quantShows", unfollowed := true, recurses := true, named := ["math/bits.divideError", "math/bits.overflowError"], apart := false }
def QuantShowsSaid : Prop := quantShowsRow.holds Try.pinned (OpenSpec.ofChange quantShowsSpec)

/-- ITS FALSE NEIGHBOUR: 'it returns false'. Refute it at one input. -/
def quantShowsWrong : ChangeSpec := { name := "quantShows", fn := fun _ => fun
  | [d] => { results := [.lit (.bool false)], args := [d] }
  | _ => none }
def QuantShowsWrongFalsely : Prop := quantShowsRow.holds Try.pinned (OpenSpec.ofChange quantShowsWrong)

/-- 'triremelaw03.QuantBack': WHATEVER THE INPUT: true; the input reads as it did. -/
def quantBackSpec : ChangeSpec := { name := "quantBack", fn := fun _ => fun
  | [d] => { results := [.lit (.bool true)], args := [d] }
  | _ => none }
def quantBackRow : OpenClaim := { program := "ythmajioeldhngaa", sum := "5635ceca7be2f8354968c6c56bad63a5ca3f3d54008a9f4045e62543376dba8d", func := "trireme/triremelaw03.QuantBack", spec := "quantBack", unfollowed := true, recurses := true, named := ["math/bits.divideError", "math/bits.overflowError"], apart := false }
def QuantBackSaid : Prop := quantBackRow.holds Try.pinned (OpenSpec.ofChange quantBackSpec)

/-- ITS FALSE NEIGHBOUR: 'it returns false'. Refute it at one input. -/
def quantBackWrong : ChangeSpec := { name := "quantBack", fn := fun _ => fun
  | [d] => { results := [.lit (.bool false)], args := [d] }
  | _ => none }
def QuantBackWrongFalsely : Prop := quantBackRow.holds Try.pinned (OpenSpec.ofChange quantBackWrong)

/-- 'triremelaw03.QuantUnits': WHATEVER THE INPUT: true; the input reads as it did. -/
def quantUnitsSpec : ChangeSpec := { name := "quantUnits", fn := fun _ => fun
  | [d1, d2, d3] => { results := [.lit (.bool true)], args := [d1, d2, d3] }
  | _ => none }
def quantUnitsRow : OpenClaim := { program := "ythmajioeldhngaa", sum := "5635ceca7be2f8354968c6c56bad63a5ca3f3d54008a9f4045e62543376dba8d", func := "trireme/triremelaw03.QuantUnits", spec := "quantUnits", unfollowed := true, recurses := true, named := ["math/bits.divideError", "math/bits.overflowError"], apart := false }
def QuantUnitsSaid : Prop := quantUnitsRow.holds Try.pinned (OpenSpec.ofChange quantUnitsSpec)

/-- ITS FALSE NEIGHBOUR: 'it returns false'. Refute it at one input. -/
def quantUnitsWrong : ChangeSpec := { name := "quantUnits", fn := fun _ => fun
  | [d1, d2, d3] => { results := [.lit (.bool false)], args := [d1, d2, d3] }
  | _ => none }
def QuantUnitsWrongFalsely : Prop := quantUnitsRow.holds Try.pinned (OpenSpec.ofChange quantUnitsWrong)

/-- 'triremelaw03.QuantZeros': WHATEVER THE INPUT: true; the input reads as it did. -/
def quantZerosSpec : ChangeSpec := { name := "quantZeros", fn := fun _ => fun
  | [d] => { results := [.lit (.bool true)], args := [d] }
  | _ => none }
def quantZerosRow : OpenClaim := { program := "ythmajioeldhngaa", sum := "5635ceca7be2f8354968c6c56bad63a5ca3f3d54008a9f4045e62543376dba8d", func := "trireme/triremelaw03.QuantZeros", spec := "quantZeros", unfollowed := true, recurses := true, named := ["math/bits.divideError", "math/bits.overflowError"], apart := false }
def QuantZerosSaid : Prop := quantZerosRow.holds Try.pinned (OpenSpec.ofChange quantZerosSpec)

/-- ITS FALSE NEIGHBOUR: 'it returns false'. Refute it at one input. -/
def quantZerosWrong : ChangeSpec := { name := "quantZeros", fn := fun _ => fun
  | [d] => { results := [.lit (.bool false)], args := [d] }
  | _ => none }
def QuantZerosWrongFalsely : Prop := quantZerosRow.holds Try.pinned (OpenSpec.ofChange quantZerosWrong)

/- THE SECOND FORM. 'bulk': how many values and letters a reading holds, each counted each time it is reached (what is shared counts as often as it is met; a slice's spare places count too). A statement '..UptoSaid' is the law's where the arguments, and the package variables that the reading takes, are together of bulk at most 1048576: NARROWER than '..Said'. Prove '..Said' where nothing that the law and all that it calls make is longer than what came in: it says more and counts as full. Else prove '..UptoSaid'. A law counts once. -/
mutual
def uptoBulk {H : Type} : DataW H → Nat
  | .lit (.string bytes) => bytes.length + 1
  | .lit _ => 1
  | .nil => 1
  | .ptr d => uptoBulk d + 1
  | .slice elems spare => uptoBulkAll elems + uptoBulkAll spare + 1
  | .agg parts => uptoBulkAll parts + 1
  | .iface _ d => uptoBulk d + 1
  | .map entries => uptoBulkEntries entries + 1
  | .held _ => 1
def uptoBulkAll {H : Type} : List (DataW H) → Nat
  | [] => 0
  | d :: r => uptoBulk d + uptoBulkAll r
def uptoBulkEntries {H : Type} : List (Lit × DataW H) → Nat
  | [] => 0
  | x :: r => uptoBulkEntry x + uptoBulkEntries r
def uptoBulkEntry {H : Type} : Lit × DataW H → Nat
  | (.string bytes, d) => bytes.length + uptoBulk d + 1
  | (_, d) => uptoBulk d + 1
 end
def uptoSmall : (H : Type) → List (DataW H) → Bool := fun _ ds => decide (uptoBulkAll ds ≤ 1048576)
def OpenSpec.upto (s : _root_.Go.ChangeSpec) : _root_.Go.OpenSpec := { _root_.Go.OpenSpec.ofChange s with cond := some uptoSmall }

/-- 'triremelaw05.LabelsRight', WHERE WHAT IT READS IS OF BULK AT MOST 1048576: true; the input reads as it did. -/
def labelsRightUptoRow : OpenClaim := { program := "ythmajioeldhngaa", sum := "5635ceca7be2f8354968c6c56bad63a5ca3f3d54008a9f4045e62543376dba8d", func := "trireme/triremelaw05.LabelsRight", spec := "labelsRight", unfollowed := true, recurses := true, apart := false, narrowed := true }
def LabelsRightUptoSaid : Prop := labelsRightUptoRow.holds Try.pinned (OpenSpec.upto labelsRightSpec)

/-- 'triremelaw05.LabelsSet', WHERE WHAT IT READS IS OF BULK AT MOST 1048576: true; the input reads as it did. -/
def labelsSetUptoRow : OpenClaim := { program := "ythmajioeldhngaa", sum := "5635ceca7be2f8354968c6c56bad63a5ca3f3d54008a9f4045e62543376dba8d", func := "trireme/triremelaw05.LabelsSet", spec := "labelsSet", unfollowed := true, recurses := true, apart := false, narrowed := true }
def LabelsSetUptoSaid : Prop := labelsSetUptoRow.holds Try.pinned (OpenSpec.upto labelsSetSpec)

/-- 'triremelaw05.LabelsMeets', WHERE WHAT IT READS IS OF BULK AT MOST 1048576: true; the input reads as it did. -/
def labelsMeetsUptoRow : OpenClaim := { program := "ythmajioeldhngaa", sum := "5635ceca7be2f8354968c6c56bad63a5ca3f3d54008a9f4045e62543376dba8d", func := "trireme/triremelaw05.LabelsMeets", spec := "labelsMeets", unfollowed := true, recurses := true, apart := false, narrowed := true }
def LabelsMeetsUptoSaid : Prop := labelsMeetsUptoRow.holds Try.pinned (OpenSpec.upto labelsMeetsSpec)

/-- 'triremelaw32.TraceParses', WHERE WHAT IT READS IS OF BULK AT MOST 1048576: true; the input reads as it did. -/
def traceParsesUptoRow : OpenClaim := { program := "ythmajioeldhngaa", sum := "5635ceca7be2f8354968c6c56bad63a5ca3f3d54008a9f4045e62543376dba8d", func := "trireme/triremelaw32.TraceParses", spec := "traceParses", unfollowed := true, recurses := true, apart := false, narrowed := true }
def TraceParsesUptoSaid : Prop := traceParsesUptoRow.holds Try.pinned (OpenSpec.upto traceParsesSpec)

/-- 'triremelaw32.TraceTells', WHERE WHAT IT READS IS OF BULK AT MOST 1048576: true; the input reads as it did. -/
def traceTellsUptoRow : OpenClaim := { program := "ythmajioeldhngaa", sum := "5635ceca7be2f8354968c6c56bad63a5ca3f3d54008a9f4045e62543376dba8d", func := "trireme/triremelaw32.TraceTells", spec := "traceTells", unfollowed := true, recurses := true, apart := false, narrowed := true }
def TraceTellsUptoSaid : Prop := traceTellsUptoRow.holds Try.pinned (OpenSpec.upto traceTellsSpec)

/-- 'triremelaw32.TraceBack', WHERE WHAT IT READS IS OF BULK AT MOST 1048576: true; the input reads as it did. -/
def traceBackUptoRow : OpenClaim := { program := "ythmajioeldhngaa", sum := "5635ceca7be2f8354968c6c56bad63a5ca3f3d54008a9f4045e62543376dba8d", func := "trireme/triremelaw32.TraceBack", spec := "traceBack", unfollowed := true, recurses := true, apart := false, narrowed := true }
def TraceBackUptoSaid : Prop := traceBackUptoRow.holds Try.pinned (OpenSpec.upto traceBackSpec)

/-- 'triremelaw32.TraceAhead', WHERE WHAT IT READS IS OF BULK AT MOST 1048576: true; the input reads as it did. -/
def traceAheadUptoRow : OpenClaim := { program := "ythmajioeldhngaa", sum := "5635ceca7be2f8354968c6c56bad63a5ca3f3d54008a9f4045e62543376dba8d", func := "trireme/triremelaw32.TraceAhead", spec := "traceAhead", unfollowed := true, recurses := true, apart := false, narrowed := true }
def TraceAheadUptoSaid : Prop := traceAheadUptoRow.holds Try.pinned (OpenSpec.upto traceAheadSpec)

/-- 'triremelaw03.QuantParses', WHERE WHAT IT READS IS OF BULK AT MOST 1048576: true; the input reads as it did. -/
def quantParsesUptoRow : OpenClaim := { program := "ythmajioeldhngaa", sum := "5635ceca7be2f8354968c6c56bad63a5ca3f3d54008a9f4045e62543376dba8d", func := "trireme/triremelaw03.QuantParses", spec := "quantParses", unfollowed := true, recurses := true, named := ["math/bits.divideError", "math/bits.overflowError"], apart := false, narrowed := true }
def QuantParsesUptoSaid : Prop := quantParsesUptoRow.holds Try.pinned (OpenSpec.upto quantParsesSpec)

/-- 'triremelaw03.QuantShows', WHERE WHAT IT READS IS OF BULK AT MOST 1048576: true; the input reads as it did. -/
def quantShowsUptoRow : OpenClaim := { program := "ythmajioeldhngaa", sum := "5635ceca7be2f8354968c6c56bad63a5ca3f3d54008a9f4045e62543376dba8d", func := "trireme/triremelaw03.QuantShows", spec := "quantShows", unfollowed := true, recurses := true, named := ["math/bits.divideError", "math/bits.overflowError"], apart := false, narrowed := true }
def QuantShowsUptoSaid : Prop := quantShowsUptoRow.holds Try.pinned (OpenSpec.upto quantShowsSpec)

/-- 'triremelaw03.QuantBack', WHERE WHAT IT READS IS OF BULK AT MOST 1048576: true; the input reads as it did. -/
def quantBackUptoRow : OpenClaim := { program := "ythmajioeldhngaa", sum := "5635ceca7be2f8354968c6c56bad63a5ca3f3d54008a9f4045e62543376dba8d", func := "trireme/triremelaw03.QuantBack", spec := "quantBack", unfollowed := true, recurses := true, named := ["math/bits.divideError", "math/bits.overflowError"], apart := false, narrowed := true }
def QuantBackUptoSaid : Prop := quantBackUptoRow.holds Try.pinned (OpenSpec.upto quantBackSpec)

/-- 'triremelaw03.QuantUnits', WHERE WHAT IT READS IS OF BULK AT MOST 1048576: true; the input reads as it did. -/
def quantUnitsUptoRow : OpenClaim := { program := "ythmajioeldhngaa", sum := "5635ceca7be2f8354968c6c56bad63a5ca3f3d54008a9f4045e62543376dba8d", func := "trireme/triremelaw03.QuantUnits", spec := "quantUnits", unfollowed := true, recurses := true, named := ["math/bits.divideError", "math/bits.overflowError"], apart := false, narrowed := true }
def QuantUnitsUptoSaid : Prop := quantUnitsUptoRow.holds Try.pinned (OpenSpec.upto quantUnitsSpec)

/-- 'triremelaw03.QuantZeros', WHERE WHAT IT READS IS OF BULK AT MOST 1048576: true; the input reads as it did. -/
def quantZerosUptoRow : OpenClaim := { program := "ythmajioeldhngaa", sum := "5635ceca7be2f8354968c6c56bad63a5ca3f3d54008a9f4045e62543376dba8d", func := "trireme/triremelaw03.QuantZeros", spec := "quantZeros", unfollowed := true, recurses := true, named := ["math/bits.divideError", "math/bits.overflowError"], apart := false, narrowed := true }
def QuantZerosUptoSaid : Prop := quantZerosUptoRow.holds Try.pinned (OpenSpec.upto quantZerosSpec)

end Rows
end Go.Proofs.Ythmajioeldhngaa
