/-
  No cell of these rows narrows 'for every input' (looked for: loops, veiled, ifaces, maps, wideKeys, modest, calm, conditions, laid).
  DERIVED. THE GIVEN ROWS OF THIS SEAT. 11 by the template 'for every input the law returns true; each argument reads behind the call as it read before'; 0 by the template 'total and deterministic' (their statements: YtfifgcaielmbiaaTotals.lean).
  GIVEN WITH THE SEED: the statements are not yours to turn. If you find one false, say at which input.
  Laid BY PROGRAM, IN A SANDBOX (cutbox-rows.mjs): the forced cells as the released guide's own fill.sh prints them over the translation a3f8b772fef585ab… (all of the seat's roots in one cut). By AI agents, Wed Nov 11 2026. No macro, syntax, notation, axiom, sorry.
-/
import Derived.Test.YtfifgcaielmbiaaChecked
import GoSem.Claim
import GoSem.ClaimJoined
import GoSem.ClaimMapViews
import Derived.JoinedTies
import Derived.KernelRfl
namespace Go.Proofs.Ytfifgcaielmbiaa
/- THE CELL 'sum', in the pinned program and in every row, IS THE sha256 OF THE DUMP (.gsa) THAT YtfifgcaielmbiaaProg.lean LOADS. Nothing in Lean hashes anything: it is a label: what it is worth is what the hold of that sum in a sandbox is worth. -/
noncomputable def Try.pinned : Pinned := { name := "ytfifgcaielmbiaa", sum := "a3f8b772fef585ab124e730e3b0c7caec5732a30434d73dd2abf005e658c5367", checked := Try.checked }
namespace Rows
def none {H : Type} : Left H := { results := [], args := [] }

/-- 'triremelaw22.SimilarTells': WHATEVER THE INPUT: true; the input reads as it did. -/
def similarTellsSpec : ChangeSpec := { name := "similarTells", fn := fun _ => fun
  | [d1, d2] => { results := [.lit (.bool true)], args := [d1, d2] }
  | _ => none }
def similarTellsRow : OpenClaim := { program := "ytfifgcaielmbiaa", sum := "a3f8b772fef585ab124e730e3b0c7caec5732a30434d73dd2abf005e658c5367", func := "trireme/triremelaw22.SimilarTells", spec := "similarTells", apart := false }
def SimilarTellsSaid : Prop := similarTellsRow.holds Try.pinned (OpenSpec.ofChange similarTellsSpec)

/-- ITS FALSE NEIGHBOUR: 'it returns false'. Refute it at one input. -/
def similarTellsWrong : ChangeSpec := { name := "similarTells", fn := fun _ => fun
  | [d1, d2] => { results := [.lit (.bool false)], args := [d1, d2] }
  | _ => none }
def SimilarTellsWrongFalsely : Prop := similarTellsRow.holds Try.pinned (OpenSpec.ofChange similarTellsWrong)

/-- 'triremelaw22.SimilarShares': WHATEVER THE INPUT: true; the input reads as it did. -/
def similarSharesSpec : ChangeSpec := { name := "similarShares", fn := fun _ => fun
  | [d1, d2, d3] => { results := [.lit (.bool true)], args := [d1, d2, d3] }
  | _ => none }
def similarSharesRow : OpenClaim := { program := "ytfifgcaielmbiaa", sum := "a3f8b772fef585ab124e730e3b0c7caec5732a30434d73dd2abf005e658c5367", func := "trireme/triremelaw22.SimilarShares", spec := "similarShares", apart := false }
def SimilarSharesSaid : Prop := similarSharesRow.holds Try.pinned (OpenSpec.ofChange similarSharesSpec)

/-- ITS FALSE NEIGHBOUR: 'it returns false'. Refute it at one input. -/
def similarSharesWrong : ChangeSpec := { name := "similarShares", fn := fun _ => fun
  | [d1, d2, d3] => { results := [.lit (.bool false)], args := [d1, d2, d3] }
  | _ => none }
def SimilarSharesWrongFalsely : Prop := similarSharesRow.holds Try.pinned (OpenSpec.ofChange similarSharesWrong)

/-- 'triremelaw22.SimilarEven': WHATEVER THE INPUT: true; the input reads as it did. -/
def similarEvenSpec : ChangeSpec := { name := "similarEven", fn := fun _ => fun
  | [d1, d2, d3] => { results := [.lit (.bool true)], args := [d1, d2, d3] }
  | _ => none }
def similarEvenRow : OpenClaim := { program := "ytfifgcaielmbiaa", sum := "a3f8b772fef585ab124e730e3b0c7caec5732a30434d73dd2abf005e658c5367", func := "trireme/triremelaw22.SimilarEven", spec := "similarEven", apart := false }
def SimilarEvenSaid : Prop := similarEvenRow.holds Try.pinned (OpenSpec.ofChange similarEvenSpec)

/-- ITS FALSE NEIGHBOUR: 'it returns false'. Refute it at one input. -/
def similarEvenWrong : ChangeSpec := { name := "similarEven", fn := fun _ => fun
  | [d1, d2, d3] => { results := [.lit (.bool false)], args := [d1, d2, d3] }
  | _ => none }
def SimilarEvenWrongFalsely : Prop := similarEvenRow.holds Try.pinned (OpenSpec.ofChange similarEvenWrong)

/-- 'triremelaw29.HealthTells': WHATEVER THE INPUT: true; the input reads as it did. -/
def healthTellsSpec : ChangeSpec := { name := "healthTells", fn := fun _ => fun
  | [d1, d2, d3] => { results := [.lit (.bool true)], args := [d1, d2, d3] }
  | _ => none }
def healthTellsRow : OpenClaim := { program := "ytfifgcaielmbiaa", sum := "a3f8b772fef585ab124e730e3b0c7caec5732a30434d73dd2abf005e658c5367", func := "trireme/triremelaw29.HealthTells", spec := "healthTells", unfollowed := true, recurses := true, apart := false }
def HealthTellsSaid : Prop := healthTellsRow.holds Try.pinned (OpenSpec.ofChange healthTellsSpec)

/-- ITS FALSE NEIGHBOUR: 'it returns false'. Refute it at one input. -/
def healthTellsWrong : ChangeSpec := { name := "healthTells", fn := fun _ => fun
  | [d1, d2, d3] => { results := [.lit (.bool false)], args := [d1, d2, d3] }
  | _ => none }
def HealthTellsWrongFalsely : Prop := healthTellsRow.holds Try.pinned (OpenSpec.ofChange healthTellsWrong)

/-- 'triremelaw29.HealthGuests': WHATEVER THE INPUT: true; the input reads as it did. -/
def healthGuestsSpec : ChangeSpec := { name := "healthGuests", fn := fun _ => fun
  | [d1, d2] => { results := [.lit (.bool true)], args := [d1, d2] }
  | _ => none }
def healthGuestsRow : OpenClaim := { program := "ytfifgcaielmbiaa", sum := "a3f8b772fef585ab124e730e3b0c7caec5732a30434d73dd2abf005e658c5367", func := "trireme/triremelaw29.HealthGuests", spec := "healthGuests", unfollowed := true, recurses := true, apart := false }
def HealthGuestsSaid : Prop := healthGuestsRow.holds Try.pinned (OpenSpec.ofChange healthGuestsSpec)

/-- ITS FALSE NEIGHBOUR: 'it returns false'. Refute it at one input. -/
def healthGuestsWrong : ChangeSpec := { name := "healthGuests", fn := fun _ => fun
  | [d1, d2] => { results := [.lit (.bool false)], args := [d1, d2] }
  | _ => none }
def HealthGuestsWrongFalsely : Prop := healthGuestsRow.holds Try.pinned (OpenSpec.ofChange healthGuestsWrong)

/-- 'triremelaw29.HealthParts': WHATEVER THE INPUT: true; the input reads as it did. -/
def healthPartsSpec : ChangeSpec := { name := "healthParts", fn := fun _ => fun
  | [d1, d2, d3] => { results := [.lit (.bool true)], args := [d1, d2, d3] }
  | _ => none }
def healthPartsRow : OpenClaim := { program := "ytfifgcaielmbiaa", sum := "a3f8b772fef585ab124e730e3b0c7caec5732a30434d73dd2abf005e658c5367", func := "trireme/triremelaw29.HealthParts", spec := "healthParts", unfollowed := true, recurses := true, apart := false }
def HealthPartsSaid : Prop := healthPartsRow.holds Try.pinned (OpenSpec.ofChange healthPartsSpec)

/-- ITS FALSE NEIGHBOUR: 'it returns false'. Refute it at one input. -/
def healthPartsWrong : ChangeSpec := { name := "healthParts", fn := fun _ => fun
  | [d1, d2, d3] => { results := [.lit (.bool false)], args := [d1, d2, d3] }
  | _ => none }
def HealthPartsWrongFalsely : Prop := healthPartsRow.holds Try.pinned (OpenSpec.ofChange healthPartsWrong)

/-- 'triremelaw06.TaintsRight': WHATEVER THE INPUT: true; the input reads as it did. -/
def taintsRightSpec : ChangeSpec := { name := "taintsRight", fn := fun _ => fun
  | [d1, d2] => { results := [.lit (.bool true)], args := [d1, d2] }
  | _ => none }
def taintsRightRow : OpenClaim := { program := "ytfifgcaielmbiaa", sum := "a3f8b772fef585ab124e730e3b0c7caec5732a30434d73dd2abf005e658c5367", func := "trireme/triremelaw06.TaintsRight", spec := "taintsRight", unfollowed := true, recurses := true, apart := false }
def TaintsRightSaid : Prop := taintsRightRow.holds Try.pinned (OpenSpec.ofChange taintsRightSpec)

/-- ITS FALSE NEIGHBOUR: 'it returns false'. Refute it at one input. -/
def taintsRightWrong : ChangeSpec := { name := "taintsRight", fn := fun _ => fun
  | [d1, d2] => { results := [.lit (.bool false)], args := [d1, d2] }
  | _ => none }
def TaintsRightWrongFalsely : Prop := taintsRightRow.holds Try.pinned (OpenSpec.ofChange taintsRightWrong)

/-- 'triremelaw06.TaintsBears': WHATEVER THE INPUT: true; the input reads as it did. -/
def taintsBearsSpec : ChangeSpec := { name := "taintsBears", fn := fun _ => fun
  | [d1, d2, d3] => { results := [.lit (.bool true)], args := [d1, d2, d3] }
  | _ => none }
def taintsBearsRow : OpenClaim := { program := "ytfifgcaielmbiaa", sum := "a3f8b772fef585ab124e730e3b0c7caec5732a30434d73dd2abf005e658c5367", func := "trireme/triremelaw06.TaintsBears", spec := "taintsBears", unfollowed := true, recurses := true, apart := false }
def TaintsBearsSaid : Prop := taintsBearsRow.holds Try.pinned (OpenSpec.ofChange taintsBearsSpec)

/-- ITS FALSE NEIGHBOUR: 'it returns false'. Refute it at one input. -/
def taintsBearsWrong : ChangeSpec := { name := "taintsBears", fn := fun _ => fun
  | [d1, d2, d3] => { results := [.lit (.bool false)], args := [d1, d2, d3] }
  | _ => none }
def TaintsBearsWrongFalsely : Prop := taintsBearsRow.holds Try.pinned (OpenSpec.ofChange taintsBearsWrong)

/-- 'triremelaw06.TaintsAdd': WHATEVER THE INPUT: true; the input reads as it did. -/
def taintsAddSpec : ChangeSpec := { name := "taintsAdd", fn := fun _ => fun
  | [d1, d2, d3] => { results := [.lit (.bool true)], args := [d1, d2, d3] }
  | _ => none }
def taintsAddRow : OpenClaim := { program := "ytfifgcaielmbiaa", sum := "a3f8b772fef585ab124e730e3b0c7caec5732a30434d73dd2abf005e658c5367", func := "trireme/triremelaw06.TaintsAdd", spec := "taintsAdd", unfollowed := true, recurses := true, apart := false }
def TaintsAddSaid : Prop := taintsAddRow.holds Try.pinned (OpenSpec.ofChange taintsAddSpec)

/-- ITS FALSE NEIGHBOUR: 'it returns false'. Refute it at one input. -/
def taintsAddWrong : ChangeSpec := { name := "taintsAdd", fn := fun _ => fun
  | [d1, d2, d3] => { results := [.lit (.bool false)], args := [d1, d2, d3] }
  | _ => none }
def TaintsAddWrongFalsely : Prop := taintsAddRow.holds Try.pinned (OpenSpec.ofChange taintsAddWrong)

/-- 'triremelaw06.TaintsMore': WHATEVER THE INPUT: true; the input reads as it did. -/
def taintsMoreSpec : ChangeSpec := { name := "taintsMore", fn := fun _ => fun
  | [d1, d2, d3] => { results := [.lit (.bool true)], args := [d1, d2, d3] }
  | _ => none }
def taintsMoreRow : OpenClaim := { program := "ytfifgcaielmbiaa", sum := "a3f8b772fef585ab124e730e3b0c7caec5732a30434d73dd2abf005e658c5367", func := "trireme/triremelaw06.TaintsMore", spec := "taintsMore", unfollowed := true, recurses := true, apart := false }
def TaintsMoreSaid : Prop := taintsMoreRow.holds Try.pinned (OpenSpec.ofChange taintsMoreSpec)

/-- ITS FALSE NEIGHBOUR: 'it returns false'. Refute it at one input. -/
def taintsMoreWrong : ChangeSpec := { name := "taintsMore", fn := fun _ => fun
  | [d1, d2, d3] => { results := [.lit (.bool false)], args := [d1, d2, d3] }
  | _ => none }
def TaintsMoreWrongFalsely : Prop := taintsMoreRow.holds Try.pinned (OpenSpec.ofChange taintsMoreWrong)

/-- 'triremelaw06.TaintsOrder': WHATEVER THE INPUT: true; the input reads as it did. -/
def taintsOrderSpec : ChangeSpec := { name := "taintsOrder", fn := fun _ => fun
  | [d1, d2, d3] => { results := [.lit (.bool true)], args := [d1, d2, d3] }
  | _ => none }
def taintsOrderRow : OpenClaim := { program := "ytfifgcaielmbiaa", sum := "a3f8b772fef585ab124e730e3b0c7caec5732a30434d73dd2abf005e658c5367", func := "trireme/triremelaw06.TaintsOrder", spec := "taintsOrder", unfollowed := true, recurses := true, apart := false }
def TaintsOrderSaid : Prop := taintsOrderRow.holds Try.pinned (OpenSpec.ofChange taintsOrderSpec)

/-- ITS FALSE NEIGHBOUR: 'it returns false'. Refute it at one input. -/
def taintsOrderWrong : ChangeSpec := { name := "taintsOrder", fn := fun _ => fun
  | [d1, d2, d3] => { results := [.lit (.bool false)], args := [d1, d2, d3] }
  | _ => none }
def TaintsOrderWrongFalsely : Prop := taintsOrderRow.holds Try.pinned (OpenSpec.ofChange taintsOrderWrong)

/- THE SECOND FORM. 'bulk': how many values and letters a reading holds, each counted each time it is reached (what is shared counts as often as it is met; a slice's spare places count too). A statement '..UptoSaid' is the law's where the arguments, and the package variables that the reading takes, are together of bulk at most 1048576: NARROWER than '..Said'. Prove '..Said' where nothing that the law and all that it calls make is longer than what came in: it says more and counts as full. Else prove '..UptoSaid'. A law counts once. -/
mutual
def uptoBulk {H : Type} : DataW H → Nat
  | .lit (.string bytes) => bytes.length + 1
  | .lit _ => 1
  | .nil => 1
  | .ptr d => uptoBulk d + 1
  | .slice elems spare => uptoBulkAll elems + uptoBulkAll spare + 1
  | .agg parts => uptoBulkAll parts + 1
  | .iface _ d => uptoBulk d + 1
  | .map entries => uptoBulkEntries entries + 1
  | .held _ => 1
def uptoBulkAll {H : Type} : List (DataW H) → Nat
  | [] => 0
  | d :: r => uptoBulk d + uptoBulkAll r
def uptoBulkEntries {H : Type} : List (Lit × DataW H) → Nat
  | [] => 0
  | x :: r => uptoBulkEntry x + uptoBulkEntries r
def uptoBulkEntry {H : Type} : Lit × DataW H → Nat
  | (.string bytes, d) => bytes.length + uptoBulk d + 1
  | (_, d) => uptoBulk d + 1
 end
def uptoSmall : (H : Type) → List (DataW H) → Bool := fun _ ds => decide (uptoBulkAll ds ≤ 1048576)
def OpenSpec.upto (s : _root_.Go.ChangeSpec) : _root_.Go.OpenSpec := { _root_.Go.OpenSpec.ofChange s with cond := some uptoSmall }

/-- 'triremelaw22.SimilarTells', WHERE WHAT IT READS IS OF BULK AT MOST 1048576: true; the input reads as it did. -/
def similarTellsUptoRow : OpenClaim := { program := "ytfifgcaielmbiaa", sum := "a3f8b772fef585ab124e730e3b0c7caec5732a30434d73dd2abf005e658c5367", func := "trireme/triremelaw22.SimilarTells", spec := "similarTells", apart := false, narrowed := true }
def SimilarTellsUptoSaid : Prop := similarTellsUptoRow.holds Try.pinned (OpenSpec.upto similarTellsSpec)

/-- 'triremelaw22.SimilarShares', WHERE WHAT IT READS IS OF BULK AT MOST 1048576: true; the input reads as it did. -/
def similarSharesUptoRow : OpenClaim := { program := "ytfifgcaielmbiaa", sum := "a3f8b772fef585ab124e730e3b0c7caec5732a30434d73dd2abf005e658c5367", func := "trireme/triremelaw22.SimilarShares", spec := "similarShares", apart := false, narrowed := true }
def SimilarSharesUptoSaid : Prop := similarSharesUptoRow.holds Try.pinned (OpenSpec.upto similarSharesSpec)

/-- 'triremelaw22.SimilarEven', WHERE WHAT IT READS IS OF BULK AT MOST 1048576: true; the input reads as it did. -/
def similarEvenUptoRow : OpenClaim := { program := "ytfifgcaielmbiaa", sum := "a3f8b772fef585ab124e730e3b0c7caec5732a30434d73dd2abf005e658c5367", func := "trireme/triremelaw22.SimilarEven", spec := "similarEven", apart := false, narrowed := true }
def SimilarEvenUptoSaid : Prop := similarEvenUptoRow.holds Try.pinned (OpenSpec.upto similarEvenSpec)

/-- 'triremelaw29.HealthTells', WHERE WHAT IT READS IS OF BULK AT MOST 1048576: true; the input reads as it did. -/
def healthTellsUptoRow : OpenClaim := { program := "ytfifgcaielmbiaa", sum := "a3f8b772fef585ab124e730e3b0c7caec5732a30434d73dd2abf005e658c5367", func := "trireme/triremelaw29.HealthTells", spec := "healthTells", unfollowed := true, recurses := true, apart := false, narrowed := true }
def HealthTellsUptoSaid : Prop := healthTellsUptoRow.holds Try.pinned (OpenSpec.upto healthTellsSpec)

/-- 'triremelaw29.HealthGuests', WHERE WHAT IT READS IS OF BULK AT MOST 1048576: true; the input reads as it did. -/
def healthGuestsUptoRow : OpenClaim := { program := "ytfifgcaielmbiaa", sum := "a3f8b772fef585ab124e730e3b0c7caec5732a30434d73dd2abf005e658c5367", func := "trireme/triremelaw29.HealthGuests", spec := "healthGuests", unfollowed := true, recurses := true, apart := false, narrowed := true }
def HealthGuestsUptoSaid : Prop := healthGuestsUptoRow.holds Try.pinned (OpenSpec.upto healthGuestsSpec)

/-- 'triremelaw29.HealthParts', WHERE WHAT IT READS IS OF BULK AT MOST 1048576: true; the input reads as it did. -/
def healthPartsUptoRow : OpenClaim := { program := "ytfifgcaielmbiaa", sum := "a3f8b772fef585ab124e730e3b0c7caec5732a30434d73dd2abf005e658c5367", func := "trireme/triremelaw29.HealthParts", spec := "healthParts", unfollowed := true, recurses := true, apart := false, narrowed := true }
def HealthPartsUptoSaid : Prop := healthPartsUptoRow.holds Try.pinned (OpenSpec.upto healthPartsSpec)

/-- 'triremelaw06.TaintsRight', WHERE WHAT IT READS IS OF BULK AT MOST 1048576: true; the input reads as it did. -/
def taintsRightUptoRow : OpenClaim := { program := "ytfifgcaielmbiaa", sum := "a3f8b772fef585ab124e730e3b0c7caec5732a30434d73dd2abf005e658c5367", func := "trireme/triremelaw06.TaintsRight", spec := "taintsRight", unfollowed := true, recurses := true, apart := false, narrowed := true }
def TaintsRightUptoSaid : Prop := taintsRightUptoRow.holds Try.pinned (OpenSpec.upto taintsRightSpec)

/-- 'triremelaw06.TaintsBears', WHERE WHAT IT READS IS OF BULK AT MOST 1048576: true; the input reads as it did. -/
def taintsBearsUptoRow : OpenClaim := { program := "ytfifgcaielmbiaa", sum := "a3f8b772fef585ab124e730e3b0c7caec5732a30434d73dd2abf005e658c5367", func := "trireme/triremelaw06.TaintsBears", spec := "taintsBears", unfollowed := true, recurses := true, apart := false, narrowed := true }
def TaintsBearsUptoSaid : Prop := taintsBearsUptoRow.holds Try.pinned (OpenSpec.upto taintsBearsSpec)

/-- 'triremelaw06.TaintsAdd', WHERE WHAT IT READS IS OF BULK AT MOST 1048576: true; the input reads as it did. -/
def taintsAddUptoRow : OpenClaim := { program := "ytfifgcaielmbiaa", sum := "a3f8b772fef585ab124e730e3b0c7caec5732a30434d73dd2abf005e658c5367", func := "trireme/triremelaw06.TaintsAdd", spec := "taintsAdd", unfollowed := true, recurses := true, apart := false, narrowed := true }
def TaintsAddUptoSaid : Prop := taintsAddUptoRow.holds Try.pinned (OpenSpec.upto taintsAddSpec)

/-- 'triremelaw06.TaintsMore', WHERE WHAT IT READS IS OF BULK AT MOST 1048576: true; the input reads as it did. -/
def taintsMoreUptoRow : OpenClaim := { program := "ytfifgcaielmbiaa", sum := "a3f8b772fef585ab124e730e3b0c7caec5732a30434d73dd2abf005e658c5367", func := "trireme/triremelaw06.TaintsMore", spec := "taintsMore", unfollowed := true, recurses := true, apart := false, narrowed := true }
def TaintsMoreUptoSaid : Prop := taintsMoreUptoRow.holds Try.pinned (OpenSpec.upto taintsMoreSpec)

/-- 'triremelaw06.TaintsOrder', WHERE WHAT IT READS IS OF BULK AT MOST 1048576: true; the input reads as it did. -/
def taintsOrderUptoRow : OpenClaim := { program := "ytfifgcaielmbiaa", sum := "a3f8b772fef585ab124e730e3b0c7caec5732a30434d73dd2abf005e658c5367", func := "trireme/triremelaw06.TaintsOrder", spec := "taintsOrder", unfollowed := true, recurses := true, apart := false, narrowed := true }
def TaintsOrderUptoSaid : Prop := taintsOrderUptoRow.holds Try.pinned (OpenSpec.upto taintsOrderSpec)

end Rows
end Go.Proofs.Ytfifgcaielmbiaa
