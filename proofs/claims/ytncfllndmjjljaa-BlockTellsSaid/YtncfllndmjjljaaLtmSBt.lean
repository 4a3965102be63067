/- Terms, plainly; labels that stand in order. -/
import Derived.Test.YtncfllndmjjljaaQnuSBt
import Derived.Test.YtncfllndmjjljaaLabSBt
namespace Go.Proofs.Ytncfllndmjjljaa.Bt
open Go Go.VI
set_option linter.unusedVariables false
set_option linter.unusedSimpArgs false
set_option maxRecDepth 100000

abbrev Term := ByteArray × (Int × List ByteArray)
def okTm (t : Term) : Prop := okS t.1 ∧ t.2.2.length ≤ 140737488355328 ∧ ∀ v ∈ t.2.2, okS v
def numOne : List ByteArray → Bool
  | [v] => decide ((numQ v).2 = 0)
  | _ => false
def rightTm (N : Nat) (t : Term) : Bool := wordB N t.1 &&
  (if t.2.1 = 1 ∨ t.2.1 = 2 then t.2.2.all (maybeB N) && (decide (1 ≤ t.2.2.length) && decide (t.2.2.length ≤ 16)) else if t.2.1 = 3 ∨ t.2.1 = 4 then decide (t.2.2.length = 0) else if t.2.1 = 5 ∨ t.2.1 = 6 then numOne t.2.2 else false)
def SortL (l : Labels) : Prop := l.Pairwise fun a b => bl a.1 b.1 = true
theorem sortL_of {N : Nat} {l : Labels} (h : rightL N l = true) : SortL l := by
  unfold rightL at h
  rw [Bool.and_eq_true] at h
  have h := allN_iff.1 h.2
  have lt : ∀ d i (hd : i + d + 1 < l.length), bl (l[i]'(by omega)).1 (l[i + d + 1]).1 = true := by
    intro d
    induction d with
    | zero =>
      intro i hd
      have := h (i + 1) (by omega) (by omega)
      unfold okLab at this
      rw [at_lt (by omega)] at this
      have hp : l[i + 1 - 1]? = some l[i] := at_lt (l := l) (i := i) (by omega)
      rw [hp] at this
      simp only [Bool.and_eq_true, Bool.or_eq_true, beq_iff_eq] at this
      rcases this.2 with h0 | h0
      · omega
      · exact h0
    | succ d ih =>
      intro i hd
      have s1 := ih i (by omega)
      have := h (i + d + 1 + 1) (by omega) (by omega)
      unfold okLab at this
      rw [at_lt (by omega)] at this
      have hp : l[i + d + 1 + 1 - 1]? = some l[i + d + 1] := at_lt (l := l) (i := i + d + 1) (by omega)
      rw [hp] at this
      simp only [Bool.and_eq_true, Bool.or_eq_true, beq_iff_eq] at this
      rcases this.2 with h0 | h0
      · omega
      · exact bl_trans s1 h0
  unfold SortL
  rw [List.pairwise_iff_getElem]
  intro i j hi hj hij
  have := lt (j - i - 1) i (by omega)
  simp only [show i + (j - i - 1) + 1 = j by omega] at this
  exact this
theorem one_list {α : Type} {l : List α} (h : l.length = 1) : ∃ v, l = [v] := List.length_eq_one_iff.1 h
end Go.Proofs.Ytncfllndmjjljaa.Bt
