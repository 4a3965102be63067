/- Labels that are right, plainly. -/
import Derived.Test.YtiiiipdnodgkmaaWrdLt
namespace Go.Proofs.Ytiiiipdnodgkmaa.Lt
open Go Go.VI
set_option linter.unusedVariables false
set_option linter.unusedSimpArgs false
set_option maxRecDepth 100000

def okLab (N : Nat) (l : Labels) (i : Nat) : Bool := match l[i]? with
  | some v => (wordB N v.1 && maybeB N v.2) && (i == 0 || match l[i - 1]? with
    | some u => bl u.1 v.1
    | none => false)
  | none => false
def rightL (N : Nat) (l : Labels) : Bool := decide (l.length ≤ 16) && allN (okLab N l) 0 l.length
/-- The same, as the program asks it. -/
def okLabP (N : Nat) (l : Labels) (i : Nat) : Bool := match l[i]? with
  | some v => (decide ((l.take i).countP (fun y => decide (y.1 = v.1)) = 0) && (wordB N v.1 && maybeB N v.2)) && (i == 0 || match l[i - 1]? with
    | some u => !bl v.1 u.1
    | none => false)
  | none => false
theorem okLab_same (N : Nat) (l : Labels) : allN (okLabP N l) 0 l.length = allN (okLab N l) 0 l.length := by
  rw [Bool.eq_iff_iff, allN_iff, allN_iff]
  constructor
  · intro h j h1 h2
    have hj := h j h1 h2
    have hlt : j < l.length := by omega
    unfold okLabP at hj
    unfold okLab
    rw [at_lt hlt] at hj ⊢
    simp only [Bool.and_eq_true] at hj ⊢
    obtain ⟨⟨c1, c2⟩, c3⟩ := hj
    refine ⟨c2, ?_⟩
    by_cases e : j = 0
    · simp [e]
    · have hp : l[j - 1]? = some l[j - 1] := at_lt (by omega)
      have e' : (j == 0) = false := by simp [e]
      rw [hp, e'] at c3 ⊢
      simp only [Bool.false_or] at c3 ⊢
      refine bl_tri (by simpa using c3) fun e2 => ?_
      have c1 := of_decide_eq_true c1
      rw [List.countP_eq_zero] at c1
      exact c1 l[j - 1] (List.mem_iff_getElem?.2 ⟨j - 1, by rw [List.getElem?_take_of_lt (by omega)]; exact hp⟩) (decide_eq_true e2.symm)
  · intro h
    have lt : ∀ d i (hd : i + d + 1 < l.length), bl (l[i]'(by omega)).1 (l[i + d + 1]).1 = true := by
      intro d
      induction d with
      | zero =>
        intro i hd
        have := h (i + 1) (by omega) (by omega)
        unfold okLab at this
        rw [at_lt (by omega)] at this
        have hp : l[i + 1 - 1]? = some l[i] := at_lt (l := l) (i := i) (by omega)
        rw [hp] at this
        simp only [Bool.and_eq_true, Bool.or_eq_true, beq_iff_eq] at this
        rcases this.2 with h0 | h0
        · omega
        · exact h0
      | succ d ih =>
        intro i hd
        have s1 := ih i (by omega)
        have := h (i + d + 1 + 1) (by omega) (by omega)
        unfold okLab at this
        rw [at_lt (by omega)] at this
        have hp : l[i + d + 1 + 1 - 1]? = some l[i + d + 1] := at_lt (l := l) (i := i + d + 1) (by omega)
        rw [hp] at this
        simp only [Bool.and_eq_true, Bool.or_eq_true, beq_iff_eq] at this
        rcases this.2 with h0 | h0
        · omega
        · exact bl_trans s1 h0
    intro j h1 h2
    have hj := h j h1 h2
    have hlt : j < l.length := by omega
    unfold okLab at hj
    unfold okLabP
    rw [at_lt hlt] at hj ⊢
    simp only [Bool.and_eq_true] at hj ⊢
    refine ⟨⟨decide_eq_true ?_, hj.1⟩, ?_⟩
    · rw [List.countP_eq_zero]
      intro y hy
      obtain ⟨i, hi⟩ := List.mem_iff_getElem?.1 hy
      have hij : i < j := by
        have := (List.getElem?_eq_some_iff.1 hi).1
        rw [List.length_take] at this; omega
      rw [List.getElem?_take_of_lt hij, at_lt (by omega)] at hi
      cases hi
      have := lt (j - i - 1) i (by omega)
      simp only [show i + (j - i - 1) + 1 = j by omega] at this
      simpa using bl_ne this
    · by_cases e : j = 0
      · simp [e]
      · have hp : l[j - 1]? = some l[j - 1] := at_lt (by omega)
        have e' : (j == 0) = false := by simp [e]
        have := lt 0 (j - 1) (by omega)
        simp only [show j - 1 + 0 + 1 = j by omega] at this
        rw [hp, e']
        simp only [Bool.false_or, bl_not this, Bool.not_false]

end Go.Proofs.Ytiiiipdnodgkmaa.Lt
