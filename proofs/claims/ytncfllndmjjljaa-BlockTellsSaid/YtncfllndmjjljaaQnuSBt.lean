/- Numbers in digits, plainly. -/
import Derived.Test.YtncfllndmjjljaaFndBt
import Derived.Test.YtncfllndmjjljaaNumPBt
namespace Go.VI
set_option linter.unusedVariables false
set_option linter.unusedSimpArgs false

def isD (b : UInt8) : Bool := decide (48 ≤ b.toNat) && decide (b.toNat ≤ 57)
/-- How many digits stand ahead. -/
def hdN : List UInt8 → Nat
  | [] => 0
  | b :: l => if isD b then hdN l + 1 else 0
theorem hdN_cons (b : UInt8) (l : List UInt8) : hdN (b :: l) = if isD b then hdN l + 1 else 0 := rfl
theorem hdN_le : ∀ l : List UInt8, hdN l ≤ l.length
  | [] => Nat.le_refl _
  | b :: l => by
    unfold hdN
    split
    · exact Nat.succ_le_succ (hdN_le l)
    · exact Nat.zero_le _
theorem hdN_all : ∀ l : List UInt8, hdN l = l.length ↔ digAll l = true
  | [] => by simp [hdN, digAll]
  | b :: l => by
    have ih := hdN_all l
    have hle := hdN_le l
    unfold hdN
    have e : digAll (b :: l) = (isD b && digAll l) := by unfold digAll isD; rw [List.all_cons]
    rw [e, Bool.and_eq_true, ← ih]
    cases h : isD b
    · simp
    · simp
theorem isD_iff {b : UInt8} : isD b = true ↔ 48 ≤ b.toNat ∧ b.toNat ≤ 57 := by unfold isD; simp
theorem digsF_ge (l : List UInt8) : ∀ a : Nat, a ≤ digsF a l := by
  induction l with
  | nil => intro a; exact Nat.le_refl _
  | cons b l ih => intro a; rw [digsF_cons]; exact Nat.le_trans (by omega) (ih _)
theorem digsF_zero (l : List UInt8) : digsF 0 l = digs l := rfl
theorem digAll_drop {l : List UInt8} (h : digAll l = true) {i : Nat} (hi : i < l.length) : isD l[i] = true := by
  have := List.all_eq_true.1 h _ (List.getElem_mem hi)
  exact this
/-- The number of a text, and what is wrong with it. -/
def qnum (most : Nat) (l : List UInt8) : Int × Int := if l = [] then (0, 8) else if digAll l then (if digs l ≤ most then ((digs l : Int), 0) else (0, 10)) else (0, 8)
theorem nil_size {s : ByteArray} : s = ByteArray.mk (List.toArray []) ↔ s.data.toList = [] := by
  constructor
  · intro h; rw [h]
  · intro h; exact ba_ext h
theorem drop_cons {α : Type} {l : List α} {i : Nat} (h : i < l.length) : l.drop i = l[i] :: l.drop (i + 1) := List.drop_eq_getElem_cons h
end Go.VI
namespace Go.Proofs.Ytncfllndmjjljaa.Bt
open Go Go.VI
def numQ (s : ByteArray) : Int × Int := qnum 1125899906842624 s.data.toList
end Go.Proofs.Ytncfllndmjjljaa.Bt
