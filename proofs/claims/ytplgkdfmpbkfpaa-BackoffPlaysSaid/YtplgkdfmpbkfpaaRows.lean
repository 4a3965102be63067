/-
  No cell of these rows narrows 'for every input' (looked for: loops, veiled, ifaces, maps, wideKeys, modest, calm, conditions, laid).
  DERIVED. THE GIVEN ROWS OF THIS SEAT. 12 by the template 'for every input the law returns true; each argument reads behind the call as it read before'; 0 by the template 'total and deterministic' (their statements: YtplgkdfmpbkfpaaTotals.lean).
  GIVEN WITH THE SEED: the statements are not yours to turn. If you find one false, say at which input.
  Laid BY PROGRAM, IN A SANDBOX (cutbox-rows.mjs): the forced cells as the released guide's own fill.sh prints them over the translation 4a57a28b4403c015… (all of the seat's roots in one cut). By AI agents, Wed Nov 11 2026. No macro, syntax, notation, axiom, sorry.
-/
import Derived.Test.YtplgkdfmpbkfpaaChecked
import GoSem.Claim
import GoSem.ClaimJoined
import GoSem.ClaimMapViews
import Derived.JoinedTies
import Derived.KernelRfl
namespace Go.Proofs.Ytplgkdfmpbkfpaa
/- THE CELL 'sum', in the pinned program and in every row, IS THE sha256 OF THE DUMP (.gsa) THAT YtplgkdfmpbkfpaaProg.lean LOADS. Nothing in Lean hashes anything: it is a label: what it is worth is what the hold of that sum in a sandbox is worth. -/
noncomputable def Try.pinned : Pinned := { name := "ytplgkdfmpbkfpaa", sum := "4a57a28b4403c01559a8eccb442dbacc4dccdceb1389bfc65a7c112b6f61c749", checked := Try.checked }
namespace Rows
def none {H : Type} : Left H := { results := [], args := [] }

/-- 'triremelaw21.ExpandChooses': WHATEVER THE INPUT: true; the input reads as it did. -/
def expandChoosesSpec : ChangeSpec := { name := "expandChooses", fn := fun _ => fun
  | [d1, d2, d3] => { results := [.lit (.bool true)], args := [d1, d2, d3] }
  | _ => none }
def expandChoosesRow : OpenClaim := { program := "ytplgkdfmpbkfpaa", sum := "4a57a28b4403c01559a8eccb442dbacc4dccdceb1389bfc65a7c112b6f61c749", func := "trireme/triremelaw21.ExpandChooses", spec := "expandChooses", unfollowed := true, recurses := true, apart := false }
def ExpandChoosesSaid : Prop := expandChoosesRow.holds Try.pinned (OpenSpec.ofChange expandChoosesSpec)

/-- ITS FALSE NEIGHBOUR: 'it returns false'. Refute it at one input. -/
def expandChoosesWrong : ChangeSpec := { name := "expandChooses", fn := fun _ => fun
  | [d1, d2, d3] => { results := [.lit (.bool false)], args := [d1, d2, d3] }
  | _ => none }
def ExpandChoosesWrongFalsely : Prop := expandChoosesRow.holds Try.pinned (OpenSpec.ofChange expandChoosesWrong)

/-- 'triremelaw21.ExpandBest': WHATEVER THE INPUT: true; the input reads as it did. -/
def expandBestSpec : ChangeSpec := { name := "expandBest", fn := fun _ => fun
  | [d1, d2, d3] => { results := [.lit (.bool true)], args := [d1, d2, d3] }
  | _ => none }
def expandBestRow : OpenClaim := { program := "ytplgkdfmpbkfpaa", sum := "4a57a28b4403c01559a8eccb442dbacc4dccdceb1389bfc65a7c112b6f61c749", func := "trireme/triremelaw21.ExpandBest", spec := "expandBest", unfollowed := true, recurses := true, apart := false }
def ExpandBestSaid : Prop := expandBestRow.holds Try.pinned (OpenSpec.ofChange expandBestSpec)

/-- ITS FALSE NEIGHBOUR: 'it returns false'. Refute it at one input. -/
def expandBestWrong : ChangeSpec := { name := "expandBest", fn := fun _ => fun
  | [d1, d2, d3] => { results := [.lit (.bool false)], args := [d1, d2, d3] }
  | _ => none }
def ExpandBestWrongFalsely : Prop := expandBestRow.holds Try.pinned (OpenSpec.ofChange expandBestWrong)

/-- 'triremelaw21.ExpandOrder': WHATEVER THE INPUT: true; the input reads as it did. -/
def expandOrderSpec : ChangeSpec := { name := "expandOrder", fn := fun _ => fun
  | [d1, d2] => { results := [.lit (.bool true)], args := [d1, d2] }
  | _ => none }
def expandOrderRow : OpenClaim := { program := "ytplgkdfmpbkfpaa", sum := "4a57a28b4403c01559a8eccb442dbacc4dccdceb1389bfc65a7c112b6f61c749", func := "trireme/triremelaw21.ExpandOrder", spec := "expandOrder", unfollowed := true, recurses := true, apart := false }
def ExpandOrderSaid : Prop := expandOrderRow.holds Try.pinned (OpenSpec.ofChange expandOrderSpec)

/-- ITS FALSE NEIGHBOUR: 'it returns false'. Refute it at one input. -/
def expandOrderWrong : ChangeSpec := { name := "expandOrder", fn := fun _ => fun
  | [d1, d2] => { results := [.lit (.bool false)], args := [d1, d2] }
  | _ => none }
def ExpandOrderWrongFalsely : Prop := expandOrderRow.holds Try.pinned (OpenSpec.ofChange expandOrderWrong)

/-- 'triremelaw21.ExpandNext': WHATEVER THE INPUT: true; the input reads as it did. -/
def expandNextSpec : ChangeSpec := { name := "expandNext", fn := fun _ => fun
  | [d] => { results := [.lit (.bool true)], args := [d] }
  | _ => none }
def expandNextRow : OpenClaim := { program := "ytplgkdfmpbkfpaa", sum := "4a57a28b4403c01559a8eccb442dbacc4dccdceb1389bfc65a7c112b6f61c749", func := "trireme/triremelaw21.ExpandNext", spec := "expandNext", unfollowed := true, recurses := true, apart := false }
def ExpandNextSaid : Prop := expandNextRow.holds Try.pinned (OpenSpec.ofChange expandNextSpec)

/-- ITS FALSE NEIGHBOUR: 'it returns false'. Refute it at one input. -/
def expandNextWrong : ChangeSpec := { name := "expandNext", fn := fun _ => fun
  | [d] => { results := [.lit (.bool false)], args := [d] }
  | _ => none }
def ExpandNextWrongFalsely : Prop := expandNextRow.holds Try.pinned (OpenSpec.ofChange expandNextWrong)

/-- 'triremelaw21.ExpandOne': WHATEVER THE INPUT: true; the input reads as it did. -/
def expandOneSpec : ChangeSpec := { name := "expandOne", fn := fun _ => fun
  | [d1, d2, d3] => { results := [.lit (.bool true)], args := [d1, d2, d3] }
  | _ => none }
def expandOneRow : OpenClaim := { program := "ytplgkdfmpbkfpaa", sum := "4a57a28b4403c01559a8eccb442dbacc4dccdceb1389bfc65a7c112b6f61c749", func := "trireme/triremelaw21.ExpandOne", spec := "expandOne", unfollowed := true, recurses := true, apart := false }
def ExpandOneSaid : Prop := expandOneRow.holds Try.pinned (OpenSpec.ofChange expandOneSpec)

/-- ITS FALSE NEIGHBOUR: 'it returns false'. Refute it at one input. -/
def expandOneWrong : ChangeSpec := { name := "expandOne", fn := fun _ => fun
  | [d1, d2, d3] => { results := [.lit (.bool false)], args := [d1, d2, d3] }
  | _ => none }
def ExpandOneWrongFalsely : Prop := expandOneRow.holds Try.pinned (OpenSpec.ofChange expandOneWrong)

/-- 'triremelaw24.BackoffDoubles': WHATEVER THE INPUT: true; the input reads as it did. -/
def backoffDoublesSpec : ChangeSpec := { name := "backoffDoubles", fn := fun _ => fun
  | [d1, d2, d3] => { results := [.lit (.bool true)], args := [d1, d2, d3] }
  | _ => none }
def backoffDoublesRow : OpenClaim := { program := "ytplgkdfmpbkfpaa", sum := "4a57a28b4403c01559a8eccb442dbacc4dccdceb1389bfc65a7c112b6f61c749", func := "trireme/triremelaw24.BackoffDoubles", spec := "backoffDoubles", apart := false }
def BackoffDoublesSaid : Prop := backoffDoublesRow.holds Try.pinned (OpenSpec.ofChange backoffDoublesSpec)

/-- ITS FALSE NEIGHBOUR: 'it returns false'. Refute it at one input. -/
def backoffDoublesWrong : ChangeSpec := { name := "backoffDoubles", fn := fun _ => fun
  | [d1, d2, d3] => { results := [.lit (.bool false)], args := [d1, d2, d3] }
  | _ => none }
def BackoffDoublesWrongFalsely : Prop := backoffDoublesRow.holds Try.pinned (OpenSpec.ofChange backoffDoublesWrong)

/-- 'triremelaw24.BackoffApart': WHATEVER THE INPUT: true; the input reads as it did. -/
def backoffApartSpec : ChangeSpec := { name := "backoffApart", fn := fun _ => fun
  | [d] => { results := [.lit (.bool true)], args := [d] }
  | _ => none }
def backoffApartRow : OpenClaim := { program := "ytplgkdfmpbkfpaa", sum := "4a57a28b4403c01559a8eccb442dbacc4dccdceb1389bfc65a7c112b6f61c749", func := "trireme/triremelaw24.BackoffApart", spec := "backoffApart", apart := false }
def BackoffApartSaid : Prop := backoffApartRow.holds Try.pinned (OpenSpec.ofChange backoffApartSpec)

/-- ITS FALSE NEIGHBOUR: 'it returns false'. Refute it at one input. -/
def backoffApartWrong : ChangeSpec := { name := "backoffApart", fn := fun _ => fun
  | [d] => { results := [.lit (.bool false)], args := [d] }
  | _ => none }
def BackoffApartWrongFalsely : Prop := backoffApartRow.holds Try.pinned (OpenSpec.ofChange backoffApartWrong)

/-- 'triremelaw23.CapsTell': WHATEVER THE INPUT: true; the input reads as it did. -/
def capsTellSpec : ChangeSpec := { name := "capsTell", fn := fun _ => fun
  | [d1, d2, d3] => { results := [.lit (.bool true)], args := [d1, d2, d3] }
  | _ => none }
def capsTellRow : OpenClaim := { program := "ytplgkdfmpbkfpaa", sum := "4a57a28b4403c01559a8eccb442dbacc4dccdceb1389bfc65a7c112b6f61c749", func := "trireme/triremelaw23.CapsTell", spec := "capsTell", unfollowed := true, recurses := true, apart := false }
def CapsTellSaid : Prop := capsTellRow.holds Try.pinned (OpenSpec.ofChange capsTellSpec)

/-- ITS FALSE NEIGHBOUR: 'it returns false'. Refute it at one input. -/
def capsTellWrong : ChangeSpec := { name := "capsTell", fn := fun _ => fun
  | [d1, d2, d3] => { results := [.lit (.bool false)], args := [d1, d2, d3] }
  | _ => none }
def CapsTellWrongFalsely : Prop := capsTellRow.holds Try.pinned (OpenSpec.ofChange capsTellWrong)

/-- 'triremelaw23.CapsRoom': WHATEVER THE INPUT: true; the input reads as it did. -/
def capsRoomSpec : ChangeSpec := { name := "capsRoom", fn := fun _ => fun
  | [d1, d2, d3] => { results := [.lit (.bool true)], args := [d1, d2, d3] }
  | _ => none }
def capsRoomRow : OpenClaim := { program := "ytplgkdfmpbkfpaa", sum := "4a57a28b4403c01559a8eccb442dbacc4dccdceb1389bfc65a7c112b6f61c749", func := "trireme/triremelaw23.CapsRoom", spec := "capsRoom", unfollowed := true, recurses := true, apart := false }
def CapsRoomSaid : Prop := capsRoomRow.holds Try.pinned (OpenSpec.ofChange capsRoomSpec)

/-- ITS FALSE NEIGHBOUR: 'it returns false'. Refute it at one input. -/
def capsRoomWrong : ChangeSpec := { name := "capsRoom", fn := fun _ => fun
  | [d1, d2, d3] => { results := [.lit (.bool false)], args := [d1, d2, d3] }
  | _ => none }
def CapsRoomWrongFalsely : Prop := capsRoomRow.holds Try.pinned (OpenSpec.ofChange capsRoomWrong)

/-- 'triremelaw23.CapsLess': WHATEVER THE INPUT: true; the input reads as it did. -/
def capsLessSpec : ChangeSpec := { name := "capsLess", fn := fun _ => fun
  | [d1, d2, d3] => { results := [.lit (.bool true)], args := [d1, d2, d3] }
  | _ => none }
def capsLessRow : OpenClaim := { program := "ytplgkdfmpbkfpaa", sum := "4a57a28b4403c01559a8eccb442dbacc4dccdceb1389bfc65a7c112b6f61c749", func := "trireme/triremelaw23.CapsLess", spec := "capsLess", unfollowed := true, recurses := true, apart := false }
def CapsLessSaid : Prop := capsLessRow.holds Try.pinned (OpenSpec.ofChange capsLessSpec)

/-- ITS FALSE NEIGHBOUR: 'it returns false'. Refute it at one input. -/
def capsLessWrong : ChangeSpec := { name := "capsLess", fn := fun _ => fun
  | [d1, d2, d3] => { results := [.lit (.bool false)], args := [d1, d2, d3] }
  | _ => none }
def CapsLessWrongFalsely : Prop := capsLessRow.holds Try.pinned (OpenSpec.ofChange capsLessWrong)

/-- 'triremelaw24.BackoffPlays': WHATEVER THE INPUT: true; the input reads as it did. -/
def backoffPlaysSpec : ChangeSpec := { name := "backoffPlays", fn := fun _ => fun
  | [d1, d2] => { results := [.lit (.bool true)], args := [d1, d2] }
  | _ => none }
def backoffPlaysRow : OpenClaim := { program := "ytplgkdfmpbkfpaa", sum := "4a57a28b4403c01559a8eccb442dbacc4dccdceb1389bfc65a7c112b6f61c749", func := "trireme/triremelaw24.BackoffPlays", spec := "backoffPlays", apart := false }
def BackoffPlaysSaid : Prop := backoffPlaysRow.holds Try.pinned (OpenSpec.ofChange backoffPlaysSpec)

/-- ITS FALSE NEIGHBOUR: 'it returns false'. Refute it at one input. -/
def backoffPlaysWrong : ChangeSpec := { name := "backoffPlays", fn := fun _ => fun
  | [d1, d2] => { results := [.lit (.bool false)], args := [d1, d2] }
  | _ => none }
def BackoffPlaysWrongFalsely : Prop := backoffPlaysRow.holds Try.pinned (OpenSpec.ofChange backoffPlaysWrong)

/-- 'triremelaw24.BackoffNil': WHATEVER THE INPUT: true; the input reads as it did. -/
def backoffNilSpec : ChangeSpec := { name := "backoffNil", fn := fun _ => fun
  | [d1, d2] => { results := [.lit (.bool true)], args := [d1, d2] }
  | _ => none }
def backoffNilRow : OpenClaim := { program := "ytplgkdfmpbkfpaa", sum := "4a57a28b4403c01559a8eccb442dbacc4dccdceb1389bfc65a7c112b6f61c749", func := "trireme/triremelaw24.BackoffNil", spec := "backoffNil", apart := false }
def BackoffNilSaid : Prop := backoffNilRow.holds Try.pinned (OpenSpec.ofChange backoffNilSpec)

/-- ITS FALSE NEIGHBOUR: 'it returns false'. Refute it at one input. -/
def backoffNilWrong : ChangeSpec := { name := "backoffNil", fn := fun _ => fun
  | [d1, d2] => { results := [.lit (.bool false)], args := [d1, d2] }
  | _ => none }
def BackoffNilWrongFalsely : Prop := backoffNilRow.holds Try.pinned (OpenSpec.ofChange backoffNilWrong)

/- THE SECOND FORM. 'bulk': how many values and letters a reading holds, each counted each time it is reached (what is shared counts as often as it is met; a slice's spare places count too). A statement '..UptoSaid' is the law's where the arguments, and the package variables that the reading takes, are together of bulk at most 1048576: NARROWER than '..Said'. Prove '..Said' where nothing that the law and all that it calls make is longer than what came in: it says more and counts as full. Else prove '..UptoSaid'. A law counts once. -/
mutual
def uptoBulk {H : Type} : DataW H → Nat
  | .lit (.string bytes) => bytes.length + 1
  | .lit _ => 1
  | .nil => 1
  | .ptr d => uptoBulk d + 1
  | .slice elems spare => uptoBulkAll elems + uptoBulkAll spare + 1
  | .agg parts => uptoBulkAll parts + 1
  | .iface _ d => uptoBulk d + 1
  | .map entries => uptoBulkEntries entries + 1
  | .held _ => 1
def uptoBulkAll {H : Type} : List (DataW H) → Nat
  | [] => 0
  | d :: r => uptoBulk d + uptoBulkAll r
def uptoBulkEntries {H : Type} : List (Lit × DataW H) → Nat
  | [] => 0
  | x :: r => uptoBulkEntry x + uptoBulkEntries r
def uptoBulkEntry {H : Type} : Lit × DataW H → Nat
  | (.string bytes, d) => bytes.length + uptoBulk d + 1
  | (_, d) => uptoBulk d + 1
 end
def uptoSmall : (H : Type) → List (DataW H) → Bool := fun _ ds => decide (uptoBulkAll ds ≤ 1048576)
def OpenSpec.upto (s : _root_.Go.ChangeSpec) : _root_.Go.OpenSpec := { _root_.Go.OpenSpec.ofChange s with cond := some uptoSmall }

/-- 'triremelaw21.ExpandChooses', WHERE WHAT IT READS IS OF BULK AT MOST 1048576: true; the input reads as it did. -/
def expandChoosesUptoRow : OpenClaim := { program := "ytplgkdfmpbkfpaa", sum := "4a57a28b4403c01559a8eccb442dbacc4dccdceb1389bfc65a7c112b6f61c749", func := "trireme/triremelaw21.ExpandChooses", spec := "expandChooses", unfollowed := true, recurses := true, apart := false, narrowed := true }
def ExpandChoosesUptoSaid : Prop := expandChoosesUptoRow.holds Try.pinned (OpenSpec.upto expandChoosesSpec)

/-- 'triremelaw21.ExpandBest', WHERE WHAT IT READS IS OF BULK AT MOST 1048576: true; the input reads as it did. -/
def expandBestUptoRow : OpenClaim := { program := "ytplgkdfmpbkfpaa", sum := "4a57a28b4403c01559a8eccb442dbacc4dccdceb1389bfc65a7c112b6f61c749", func := "trireme/triremelaw21.ExpandBest", spec := "expandBest", unfollowed := true, recurses := true, apart := false, narrowed := true }
def ExpandBestUptoSaid : Prop := expandBestUptoRow.holds Try.pinned (OpenSpec.upto expandBestSpec)

/-- 'triremelaw21.ExpandOrder', WHERE WHAT IT READS IS OF BULK AT MOST 1048576: true; the input reads as it did. -/
def expandOrderUptoRow : OpenClaim := { program := "ytplgkdfmpbkfpaa", sum := "4a57a28b4403c01559a8eccb442dbacc4dccdceb1389bfc65a7c112b6f61c749", func := "trireme/triremelaw21.ExpandOrder", spec := "expandOrder", unfollowed := true, recurses := true, apart := false, narrowed := true }
def ExpandOrderUptoSaid : Prop := expandOrderUptoRow.holds Try.pinned (OpenSpec.upto expandOrderSpec)

/-- 'triremelaw21.ExpandNext', WHERE WHAT IT READS IS OF BULK AT MOST 1048576: true; the input reads as it did. -/
def expandNextUptoRow : OpenClaim := { program := "ytplgkdfmpbkfpaa", sum := "4a57a28b4403c01559a8eccb442dbacc4dccdceb1389bfc65a7c112b6f61c749", func := "trireme/triremelaw21.ExpandNext", spec := "expandNext", unfollowed := true, recurses := true, apart := false, narrowed := true }
def ExpandNextUptoSaid : Prop := expandNextUptoRow.holds Try.pinned (OpenSpec.upto expandNextSpec)

/-- 'triremelaw21.ExpandOne', WHERE WHAT IT READS IS OF BULK AT MOST 1048576: true; the input reads as it did. -/
def expandOneUptoRow : OpenClaim := { program := "ytplgkdfmpbkfpaa", sum := "4a57a28b4403c01559a8eccb442dbacc4dccdceb1389bfc65a7c112b6f61c749", func := "trireme/triremelaw21.ExpandOne", spec := "expandOne", unfollowed := true, recurses := true, apart := false, narrowed := true }
def ExpandOneUptoSaid : Prop := expandOneUptoRow.holds Try.pinned (OpenSpec.upto expandOneSpec)

/-- 'triremelaw24.BackoffDoubles', WHERE WHAT IT READS IS OF BULK AT MOST 1048576: true; the input reads as it did. -/
def backoffDoublesUptoRow : OpenClaim := { program := "ytplgkdfmpbkfpaa", sum := "4a57a28b4403c01559a8eccb442dbacc4dccdceb1389bfc65a7c112b6f61c749", func := "trireme/triremelaw24.BackoffDoubles", spec := "backoffDoubles", apart := false, narrowed := true }
def BackoffDoublesUptoSaid : Prop := backoffDoublesUptoRow.holds Try.pinned (OpenSpec.upto backoffDoublesSpec)

/-- 'triremelaw24.BackoffApart', WHERE WHAT IT READS IS OF BULK AT MOST 1048576: true; the input reads as it did. -/
def backoffApartUptoRow : OpenClaim := { program := "ytplgkdfmpbkfpaa", sum := "4a57a28b4403c01559a8eccb442dbacc4dccdceb1389bfc65a7c112b6f61c749", func := "trireme/triremelaw24.BackoffApart", spec := "backoffApart", apart := false, narrowed := true }
def BackoffApartUptoSaid : Prop := backoffApartUptoRow.holds Try.pinned (OpenSpec.upto backoffApartSpec)

/-- 'triremelaw23.CapsTell', WHERE WHAT IT READS IS OF BULK AT MOST 1048576: true; the input reads as it did. -/
def capsTellUptoRow : OpenClaim := { program := "ytplgkdfmpbkfpaa", sum := "4a57a28b4403c01559a8eccb442dbacc4dccdceb1389bfc65a7c112b6f61c749", func := "trireme/triremelaw23.CapsTell", spec := "capsTell", unfollowed := true, recurses := true, apart := false, narrowed := true }
def CapsTellUptoSaid : Prop := capsTellUptoRow.holds Try.pinned (OpenSpec.upto capsTellSpec)

/-- 'triremelaw23.CapsRoom', WHERE WHAT IT READS IS OF BULK AT MOST 1048576: true; the input reads as it did. -/
def capsRoomUptoRow : OpenClaim := { program := "ytplgkdfmpbkfpaa", sum := "4a57a28b4403c01559a8eccb442dbacc4dccdceb1389bfc65a7c112b6f61c749", func := "trireme/triremelaw23.CapsRoom", spec := "capsRoom", unfollowed := true, recurses := true, apart := false, narrowed := true }
def CapsRoomUptoSaid : Prop := capsRoomUptoRow.holds Try.pinned (OpenSpec.upto capsRoomSpec)

/-- 'triremelaw23.CapsLess', WHERE WHAT IT READS IS OF BULK AT MOST 1048576: true; the input reads as it did. -/
def capsLessUptoRow : OpenClaim := { program := "ytplgkdfmpbkfpaa", sum := "4a57a28b4403c01559a8eccb442dbacc4dccdceb1389bfc65a7c112b6f61c749", func := "trireme/triremelaw23.CapsLess", spec := "capsLess", unfollowed := true, recurses := true, apart := false, narrowed := true }
def CapsLessUptoSaid : Prop := capsLessUptoRow.holds Try.pinned (OpenSpec.upto capsLessSpec)

/-- 'triremelaw24.BackoffPlays', WHERE WHAT IT READS IS OF BULK AT MOST 1048576: true; the input reads as it did. -/
def backoffPlaysUptoRow : OpenClaim := { program := "ytplgkdfmpbkfpaa", sum := "4a57a28b4403c01559a8eccb442dbacc4dccdceb1389bfc65a7c112b6f61c749", func := "trireme/triremelaw24.BackoffPlays", spec := "backoffPlays", apart := false, narrowed := true }
def BackoffPlaysUptoSaid : Prop := backoffPlaysUptoRow.holds Try.pinned (OpenSpec.upto backoffPlaysSpec)

/-- 'triremelaw24.BackoffNil', WHERE WHAT IT READS IS OF BULK AT MOST 1048576: true; the input reads as it did. -/
def backoffNilUptoRow : OpenClaim := { program := "ytplgkdfmpbkfpaa", sum := "4a57a28b4403c01559a8eccb442dbacc4dccdceb1389bfc65a7c112b6f61c749", func := "trireme/triremelaw24.BackoffNil", spec := "backoffNil", apart := false, narrowed := true }
def BackoffNilUptoSaid : Prop := backoffNilUptoRow.holds Try.pinned (OpenSpec.upto backoffNilSpec)

end Rows
end Go.Proofs.Ytplgkdfmpbkfpaa
