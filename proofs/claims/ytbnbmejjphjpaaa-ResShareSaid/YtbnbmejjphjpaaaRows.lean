/-
  No cell of these rows narrows 'for every input' (looked for: loops, veiled, ifaces, maps, wideKeys, modest, calm, conditions, laid).
  DERIVED. THE GIVEN ROWS OF THIS SEAT. 11 by the template 'for every input the law returns true; each argument reads behind the call as it read before'; 0 by the template 'total and deterministic' (their statements: YtbnbmejjphjpaaaTotals.lean).
  GIVEN WITH THE SEED: the statements are not yours to turn. If you find one false, say at which input.
  Laid BY PROGRAM, IN A SANDBOX (cutbox-rows.mjs): the forced cells as the released guide's own fill.sh prints them over the translation 7c7f91cc93ddffa9… (all of the seat's roots in one cut). By AI agents, Wed Nov 11 2026. No macro, syntax, notation, axiom, sorry.
-/
import Derived.Test.YtbnbmejjphjpaaaChecked
import GoSem.Claim
import GoSem.ClaimJoined
import GoSem.ClaimMapViews
import Derived.JoinedTies
import Derived.KernelRfl
namespace Go.Proofs.Ytbnbmejjphjpaaa
/- THE CELL 'sum', in the pinned program and in every row, IS THE sha256 OF THE DUMP (.gsa) THAT YtbnbmejjphjpaaaProg.lean LOADS. Nothing in Lean hashes anything: it is a label: what it is worth is what the hold of that sum in a sandbox is worth. -/
noncomputable def Try.pinned : Pinned := { name := "ytbnbmejjphjpaaa", sum := "7c7f91cc93ddffa926b9166ff707f7895206cb90d7f9fa383350ac29d3c00bf2", checked := Try.checked }
namespace Rows
def none {H : Type} : Left H := { results := [], args := [] }

/-- 'triremelaw27.TimerKeeps': WHATEVER THE INPUT: true; the input reads as it did. -/
def timerKeepsSpec : ChangeSpec := { name := "timerKeeps", fn := fun _ => fun
  | [d1, d2] => { results := [.lit (.bool true)], args := [d1, d2] }
  | _ => none }
def timerKeepsRow : OpenClaim := { program := "ytbnbmejjphjpaaa", sum := "7c7f91cc93ddffa926b9166ff707f7895206cb90d7f9fa383350ac29d3c00bf2", func := "trireme/triremelaw27.TimerKeeps", spec := "timerKeeps", apart := false }
def TimerKeepsSaid : Prop := timerKeepsRow.holds Try.pinned (OpenSpec.ofChange timerKeepsSpec)

/-- ITS FALSE NEIGHBOUR: 'it returns false'. Refute it at one input. -/
def timerKeepsWrong : ChangeSpec := { name := "timerKeeps", fn := fun _ => fun
  | [d1, d2] => { results := [.lit (.bool false)], args := [d1, d2] }
  | _ => none }
def TimerKeepsWrongFalsely : Prop := timerKeepsRow.holds Try.pinned (OpenSpec.ofChange timerKeepsWrong)

/-- 'triremelaw27.TimerMore': WHATEVER THE INPUT: true; the input reads as it did. -/
def timerMoreSpec : ChangeSpec := { name := "timerMore", fn := fun _ => fun
  | [d1, d2, d3] => { results := [.lit (.bool true)], args := [d1, d2, d3] }
  | _ => none }
def timerMoreRow : OpenClaim := { program := "ytbnbmejjphjpaaa", sum := "7c7f91cc93ddffa926b9166ff707f7895206cb90d7f9fa383350ac29d3c00bf2", func := "trireme/triremelaw27.TimerMore", spec := "timerMore", apart := false }
def TimerMoreSaid : Prop := timerMoreRow.holds Try.pinned (OpenSpec.ofChange timerMoreSpec)

/-- ITS FALSE NEIGHBOUR: 'it returns false'. Refute it at one input. -/
def timerMoreWrong : ChangeSpec := { name := "timerMore", fn := fun _ => fun
  | [d1, d2, d3] => { results := [.lit (.bool false)], args := [d1, d2, d3] }
  | _ => none }
def TimerMoreWrongFalsely : Prop := timerMoreRow.holds Try.pinned (OpenSpec.ofChange timerMoreWrong)

/-- 'triremelaw04.ResSums': WHATEVER THE INPUT: true; the input reads as it did. -/
def resSumsSpec : ChangeSpec := { name := "resSums", fn := fun _ => fun
  | [d1, d2, d3] => { results := [.lit (.bool true)], args := [d1, d2, d3] }
  | _ => none }
def resSumsRow : OpenClaim := { program := "ytbnbmejjphjpaaa", sum := "7c7f91cc93ddffa926b9166ff707f7895206cb90d7f9fa383350ac29d3c00bf2", func := "trireme/triremelaw04.ResSums", spec := "resSums", unfollowed := true, recurses := true, apart := false }
def ResSumsSaid : Prop := resSumsRow.holds Try.pinned (OpenSpec.ofChange resSumsSpec)

/-- ITS FALSE NEIGHBOUR: 'it returns false'. Refute it at one input. -/
def resSumsWrong : ChangeSpec := { name := "resSums", fn := fun _ => fun
  | [d1, d2, d3] => { results := [.lit (.bool false)], args := [d1, d2, d3] }
  | _ => none }
def ResSumsWrongFalsely : Prop := resSumsRow.holds Try.pinned (OpenSpec.ofChange resSumsWrong)

/-- 'triremelaw04.ResBack': WHATEVER THE INPUT: true; the input reads as it did. -/
def resBackSpec : ChangeSpec := { name := "resBack", fn := fun _ => fun
  | [d1, d2] => { results := [.lit (.bool true)], args := [d1, d2] }
  | _ => none }
def resBackRow : OpenClaim := { program := "ytbnbmejjphjpaaa", sum := "7c7f91cc93ddffa926b9166ff707f7895206cb90d7f9fa383350ac29d3c00bf2", func := "trireme/triremelaw04.ResBack", spec := "resBack", unfollowed := true, recurses := true, apart := false }
def ResBackSaid : Prop := resBackRow.holds Try.pinned (OpenSpec.ofChange resBackSpec)

/-- ITS FALSE NEIGHBOUR: 'it returns false'. Refute it at one input. -/
def resBackWrong : ChangeSpec := { name := "resBack", fn := fun _ => fun
  | [d1, d2] => { results := [.lit (.bool false)], args := [d1, d2] }
  | _ => none }
def ResBackWrongFalsely : Prop := resBackRow.holds Try.pinned (OpenSpec.ofChange resBackWrong)

/-- 'triremelaw04.ResTimes': WHATEVER THE INPUT: true; the input reads as it did. -/
def resTimesSpec : ChangeSpec := { name := "resTimes", fn := fun _ => fun
  | [d1, d2] => { results := [.lit (.bool true)], args := [d1, d2] }
  | _ => none }
def resTimesRow : OpenClaim := { program := "ytbnbmejjphjpaaa", sum := "7c7f91cc93ddffa926b9166ff707f7895206cb90d7f9fa383350ac29d3c00bf2", func := "trireme/triremelaw04.ResTimes", spec := "resTimes", unfollowed := true, recurses := true, apart := false }
def ResTimesSaid : Prop := resTimesRow.holds Try.pinned (OpenSpec.ofChange resTimesSpec)

/-- ITS FALSE NEIGHBOUR: 'it returns false'. Refute it at one input. -/
def resTimesWrong : ChangeSpec := { name := "resTimes", fn := fun _ => fun
  | [d1, d2] => { results := [.lit (.bool false)], args := [d1, d2] }
  | _ => none }
def ResTimesWrongFalsely : Prop := resTimesRow.holds Try.pinned (OpenSpec.ofChange resTimesWrong)

/-- 'triremelaw04.ResShare': WHATEVER THE INPUT: true; the input reads as it did. -/
def resShareSpec : ChangeSpec := { name := "resShare", fn := fun _ => fun
  | [d1, d2, d3] => { results := [.lit (.bool true)], args := [d1, d2, d3] }
  | _ => none }
def resShareRow : OpenClaim := { program := "ytbnbmejjphjpaaa", sum := "7c7f91cc93ddffa926b9166ff707f7895206cb90d7f9fa383350ac29d3c00bf2", func := "trireme/triremelaw04.ResShare", spec := "resShare", unfollowed := true, recurses := true, apart := false }
def ResShareSaid : Prop := resShareRow.holds Try.pinned (OpenSpec.ofChange resShareSpec)

/-- ITS FALSE NEIGHBOUR: 'it returns false'. Refute it at one input. -/
def resShareWrong : ChangeSpec := { name := "resShare", fn := fun _ => fun
  | [d1, d2, d3] => { results := [.lit (.bool false)], args := [d1, d2, d3] }
  | _ => none }
def ResShareWrongFalsely : Prop := resShareRow.holds Try.pinned (OpenSpec.ofChange resShareWrong)

/-- 'triremelaw04.ResAssoc': WHATEVER THE INPUT: true; the input reads as it did. -/
def resAssocSpec : ChangeSpec := { name := "resAssoc", fn := fun _ => fun
  | [d1, d2, d3] => { results := [.lit (.bool true)], args := [d1, d2, d3] }
  | _ => none }
def resAssocRow : OpenClaim := { program := "ytbnbmejjphjpaaa", sum := "7c7f91cc93ddffa926b9166ff707f7895206cb90d7f9fa383350ac29d3c00bf2", func := "trireme/triremelaw04.ResAssoc", spec := "resAssoc", unfollowed := true, recurses := true, apart := false }
def ResAssocSaid : Prop := resAssocRow.holds Try.pinned (OpenSpec.ofChange resAssocSpec)

/-- ITS FALSE NEIGHBOUR: 'it returns false'. Refute it at one input. -/
def resAssocWrong : ChangeSpec := { name := "resAssoc", fn := fun _ => fun
  | [d1, d2, d3] => { results := [.lit (.bool false)], args := [d1, d2, d3] }
  | _ => none }
def ResAssocWrongFalsely : Prop := resAssocRow.holds Try.pinned (OpenSpec.ofChange resAssocWrong)

/-- 'triremelaw27.TimerPlays': WHATEVER THE INPUT: true; the input reads as it did. -/
def timerPlaysSpec : ChangeSpec := { name := "timerPlays", fn := fun _ => fun
  | [d] => { results := [.lit (.bool true)], args := [d] }
  | _ => none }
def timerPlaysRow : OpenClaim := { program := "ytbnbmejjphjpaaa", sum := "7c7f91cc93ddffa926b9166ff707f7895206cb90d7f9fa383350ac29d3c00bf2", func := "trireme/triremelaw27.TimerPlays", spec := "timerPlays", apart := false }
def TimerPlaysSaid : Prop := timerPlaysRow.holds Try.pinned (OpenSpec.ofChange timerPlaysSpec)

/-- ITS FALSE NEIGHBOUR: 'it returns false'. Refute it at one input. -/
def timerPlaysWrong : ChangeSpec := { name := "timerPlays", fn := fun _ => fun
  | [d] => { results := [.lit (.bool false)], args := [d] }
  | _ => none }
def TimerPlaysWrongFalsely : Prop := timerPlaysRow.holds Try.pinned (OpenSpec.ofChange timerPlaysWrong)

/-- 'triremelaw27.TimerNil': WHATEVER THE INPUT: true; the input reads as it did. -/
def timerNilSpec : ChangeSpec := { name := "timerNil", fn := fun _ => fun
  | [d1, d2] => { results := [.lit (.bool true)], args := [d1, d2] }
  | _ => none }
def timerNilRow : OpenClaim := { program := "ytbnbmejjphjpaaa", sum := "7c7f91cc93ddffa926b9166ff707f7895206cb90d7f9fa383350ac29d3c00bf2", func := "trireme/triremelaw27.TimerNil", spec := "timerNil", apart := false }
def TimerNilSaid : Prop := timerNilRow.holds Try.pinned (OpenSpec.ofChange timerNilSpec)

/-- ITS FALSE NEIGHBOUR: 'it returns false'. Refute it at one input. -/
def timerNilWrong : ChangeSpec := { name := "timerNil", fn := fun _ => fun
  | [d1, d2] => { results := [.lit (.bool false)], args := [d1, d2] }
  | _ => none }
def TimerNilWrongFalsely : Prop := timerNilRow.holds Try.pinned (OpenSpec.ofChange timerNilWrong)

/-- 'triremelaw04.ResFits': WHATEVER THE INPUT: true; the input reads as it did. -/
def resFitsSpec : ChangeSpec := { name := "resFits", fn := fun _ => fun
  | [d1, d2] => { results := [.lit (.bool true)], args := [d1, d2] }
  | _ => none }
def resFitsRow : OpenClaim := { program := "ytbnbmejjphjpaaa", sum := "7c7f91cc93ddffa926b9166ff707f7895206cb90d7f9fa383350ac29d3c00bf2", func := "trireme/triremelaw04.ResFits", spec := "resFits", unfollowed := true, recurses := true, apart := false }
def ResFitsSaid : Prop := resFitsRow.holds Try.pinned (OpenSpec.ofChange resFitsSpec)

/-- ITS FALSE NEIGHBOUR: 'it returns false'. Refute it at one input. -/
def resFitsWrong : ChangeSpec := { name := "resFits", fn := fun _ => fun
  | [d1, d2] => { results := [.lit (.bool false)], args := [d1, d2] }
  | _ => none }
def ResFitsWrongFalsely : Prop := resFitsRow.holds Try.pinned (OpenSpec.ofChange resFitsWrong)

/-- 'triremelaw04.ResOrder': WHATEVER THE INPUT: true; the input reads as it did. -/
def resOrderSpec : ChangeSpec := { name := "resOrder", fn := fun _ => fun
  | [d1, d2, d3] => { results := [.lit (.bool true)], args := [d1, d2, d3] }
  | _ => none }
def resOrderRow : OpenClaim := { program := "ytbnbmejjphjpaaa", sum := "7c7f91cc93ddffa926b9166ff707f7895206cb90d7f9fa383350ac29d3c00bf2", func := "trireme/triremelaw04.ResOrder", spec := "resOrder", unfollowed := true, recurses := true, apart := false }
def ResOrderSaid : Prop := resOrderRow.holds Try.pinned (OpenSpec.ofChange resOrderSpec)

/-- ITS FALSE NEIGHBOUR: 'it returns false'. Refute it at one input. -/
def resOrderWrong : ChangeSpec := { name := "resOrder", fn := fun _ => fun
  | [d1, d2, d3] => { results := [.lit (.bool false)], args := [d1, d2, d3] }
  | _ => none }
def ResOrderWrongFalsely : Prop := resOrderRow.holds Try.pinned (OpenSpec.ofChange resOrderWrong)

/- THE SECOND FORM. 'bulk': how many values and letters a reading holds, each counted each time it is reached (what is shared counts as often as it is met; a slice's spare places count too). A statement '..UptoSaid' is the law's where the arguments, and the package variables that the reading takes, are together of bulk at most 1048576: NARROWER than '..Said'. Prove '..Said' where nothing that the law and all that it calls make is longer than what came in: it says more and counts as full. Else prove '..UptoSaid'. A law counts once. -/
mutual
def uptoBulk {H : Type} : DataW H → Nat
  | .lit (.string bytes) => bytes.length + 1
  | .lit _ => 1
  | .nil => 1
  | .ptr d => uptoBulk d + 1
  | .slice elems spare => uptoBulkAll elems + uptoBulkAll spare + 1
  | .agg parts => uptoBulkAll parts + 1
  | .iface _ d => uptoBulk d + 1
  | .map entries => uptoBulkEntries entries + 1
  | .held _ => 1
def uptoBulkAll {H : Type} : List (DataW H) → Nat
  | [] => 0
  | d :: r => uptoBulk d + uptoBulkAll r
def uptoBulkEntries {H : Type} : List (Lit × DataW H) → Nat
  | [] => 0
  | x :: r => uptoBulkEntry x + uptoBulkEntries r
def uptoBulkEntry {H : Type} : Lit × DataW H → Nat
  | (.string bytes, d) => bytes.length + uptoBulk d + 1
  | (_, d) => uptoBulk d + 1
 end
def uptoSmall : (H : Type) → List (DataW H) → Bool := fun _ ds => decide (uptoBulkAll ds ≤ 1048576)
def OpenSpec.upto (s : _root_.Go.ChangeSpec) : _root_.Go.OpenSpec := { _root_.Go.OpenSpec.ofChange s with cond := some uptoSmall }

/-- 'triremelaw27.TimerKeeps', WHERE WHAT IT READS IS OF BULK AT MOST 1048576: true; the input reads as it did. -/
def timerKeepsUptoRow : OpenClaim := { program := "ytbnbmejjphjpaaa", sum := "7c7f91cc93ddffa926b9166ff707f7895206cb90d7f9fa383350ac29d3c00bf2", func := "trireme/triremelaw27.TimerKeeps", spec := "timerKeeps", apart := false, narrowed := true }
def TimerKeepsUptoSaid : Prop := timerKeepsUptoRow.holds Try.pinned (OpenSpec.upto timerKeepsSpec)

/-- 'triremelaw27.TimerMore', WHERE WHAT IT READS IS OF BULK AT MOST 1048576: true; the input reads as it did. -/
def timerMoreUptoRow : OpenClaim := { program := "ytbnbmejjphjpaaa", sum := "7c7f91cc93ddffa926b9166ff707f7895206cb90d7f9fa383350ac29d3c00bf2", func := "trireme/triremelaw27.TimerMore", spec := "timerMore", apart := false, narrowed := true }
def TimerMoreUptoSaid : Prop := timerMoreUptoRow.holds Try.pinned (OpenSpec.upto timerMoreSpec)

/-- 'triremelaw04.ResSums', WHERE WHAT IT READS IS OF BULK AT MOST 1048576: true; the input reads as it did. -/
def resSumsUptoRow : OpenClaim := { program := "ytbnbmejjphjpaaa", sum := "7c7f91cc93ddffa926b9166ff707f7895206cb90d7f9fa383350ac29d3c00bf2", func := "trireme/triremelaw04.ResSums", spec := "resSums", unfollowed := true, recurses := true, apart := false, narrowed := true }
def ResSumsUptoSaid : Prop := resSumsUptoRow.holds Try.pinned (OpenSpec.upto resSumsSpec)

/-- 'triremelaw04.ResBack', WHERE WHAT IT READS IS OF BULK AT MOST 1048576: true; the input reads as it did. -/
def resBackUptoRow : OpenClaim := { program := "ytbnbmejjphjpaaa", sum := "7c7f91cc93ddffa926b9166ff707f7895206cb90d7f9fa383350ac29d3c00bf2", func := "trireme/triremelaw04.ResBack", spec := "resBack", unfollowed := true, recurses := true, apart := false, narrowed := true }
def ResBackUptoSaid : Prop := resBackUptoRow.holds Try.pinned (OpenSpec.upto resBackSpec)

/-- 'triremelaw04.ResTimes', WHERE WHAT IT READS IS OF BULK AT MOST 1048576: true; the input reads as it did. -/
def resTimesUptoRow : OpenClaim := { program := "ytbnbmejjphjpaaa", sum := "7c7f91cc93ddffa926b9166ff707f7895206cb90d7f9fa383350ac29d3c00bf2", func := "trireme/triremelaw04.ResTimes", spec := "resTimes", unfollowed := true, recurses := true, apart := false, narrowed := true }
def ResTimesUptoSaid : Prop := resTimesUptoRow.holds Try.pinned (OpenSpec.upto resTimesSpec)

/-- 'triremelaw04.ResShare', WHERE WHAT IT READS IS OF BULK AT MOST 1048576: true; the input reads as it did. -/
def resShareUptoRow : OpenClaim := { program := "ytbnbmejjphjpaaa", sum := "7c7f91cc93ddffa926b9166ff707f7895206cb90d7f9fa383350ac29d3c00bf2", func := "trireme/triremelaw04.ResShare", spec := "resShare", unfollowed := true, recurses := true, apart := false, narrowed := true }
def ResShareUptoSaid : Prop := resShareUptoRow.holds Try.pinned (OpenSpec.upto resShareSpec)

/-- 'triremelaw04.ResAssoc', WHERE WHAT IT READS IS OF BULK AT MOST 1048576: true; the input reads as it did. -/
def resAssocUptoRow : OpenClaim := { program := "ytbnbmejjphjpaaa", sum := "7c7f91cc93ddffa926b9166ff707f7895206cb90d7f9fa383350ac29d3c00bf2", func := "trireme/triremelaw04.ResAssoc", spec := "resAssoc", unfollowed := true, recurses := true, apart := false, narrowed := true }
def ResAssocUptoSaid : Prop := resAssocUptoRow.holds Try.pinned (OpenSpec.upto resAssocSpec)

/-- 'triremelaw27.TimerPlays', WHERE WHAT IT READS IS OF BULK AT MOST 1048576: true; the input reads as it did. -/
def timerPlaysUptoRow : OpenClaim := { program := "ytbnbmejjphjpaaa", sum := "7c7f91cc93ddffa926b9166ff707f7895206cb90d7f9fa383350ac29d3c00bf2", func := "trireme/triremelaw27.TimerPlays", spec := "timerPlays", apart := false, narrowed := true }
def TimerPlaysUptoSaid : Prop := timerPlaysUptoRow.holds Try.pinned (OpenSpec.upto timerPlaysSpec)

/-- 'triremelaw27.TimerNil', WHERE WHAT IT READS IS OF BULK AT MOST 1048576: true; the input reads as it did. -/
def timerNilUptoRow : OpenClaim := { program := "ytbnbmejjphjpaaa", sum := "7c7f91cc93ddffa926b9166ff707f7895206cb90d7f9fa383350ac29d3c00bf2", func := "trireme/triremelaw27.TimerNil", spec := "timerNil", apart := false, narrowed := true }
def TimerNilUptoSaid : Prop := timerNilUptoRow.holds Try.pinned (OpenSpec.upto timerNilSpec)

/-- 'triremelaw04.ResFits', WHERE WHAT IT READS IS OF BULK AT MOST 1048576: true; the input reads as it did. -/
def resFitsUptoRow : OpenClaim := { program := "ytbnbmejjphjpaaa", sum := "7c7f91cc93ddffa926b9166ff707f7895206cb90d7f9fa383350ac29d3c00bf2", func := "trireme/triremelaw04.ResFits", spec := "resFits", unfollowed := true, recurses := true, apart := false, narrowed := true }
def ResFitsUptoSaid : Prop := resFitsUptoRow.holds Try.pinned (OpenSpec.upto resFitsSpec)

/-- 'triremelaw04.ResOrder', WHERE WHAT IT READS IS OF BULK AT MOST 1048576: true; the input reads as it did. -/
def resOrderUptoRow : OpenClaim := { program := "ytbnbmejjphjpaaa", sum := "7c7f91cc93ddffa926b9166ff707f7895206cb90d7f9fa383350ac29d3c00bf2", func := "trireme/triremelaw04.ResOrder", spec := "resOrder", unfollowed := true, recurses := true, apart := false, narrowed := true }
def ResOrderUptoSaid : Prop := resOrderUptoRow.holds Try.pinned (OpenSpec.upto resOrderSpec)

end Rows
end Go.Proofs.Ytbnbmejjphjpaaa
