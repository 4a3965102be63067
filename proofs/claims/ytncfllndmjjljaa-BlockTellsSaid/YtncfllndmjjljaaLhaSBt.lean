/- What labels say: in plain terms. -/
import Derived.Test.YtncfllndmjjljaaLtmSBt
namespace Go.Proofs.Ytncfllndmjjljaa.Bt
open Go Go.VI
set_option linter.unusedVariables false
set_option linter.unusedSimpArgs false
set_option maxRecDepth 100000

def getL (l : Labels) (k : ByteArray) : Option ByteArray := (l.find? fun x => decide (x.1 = k)).map (·.2)
def getR (l : Labels) (k : ByteArray) : ByteArray × Bool × Unit := ((getL l k).getD nameless, (getL l k).isSome, ())
theorem sort_none {l : Labels} (hs : SortL l) {k : ByteArray} {i : Nat} (h : (l.take i).all (fun x => bl x.1 k) = true) (h' : ∀ hi : i < l.length, bl l[i].1 k = false ∧ l[i].1 ≠ k) : getL l k = none := by
  unfold getL
  rw [find_none]
  · rfl
  · rw [List.all_eq_true]
    intro x hx
    obtain ⟨j, hj, rfl⟩ := List.mem_iff_getElem.1 hx
    simp only [Bool.not_eq_true', decide_eq_false_iff_not]
    rcases Nat.lt_trichotomy j i with c | c | c
    · exact bl_ne (List.all_eq_true.1 h _ (List.mem_iff_getElem.2 ⟨j, by rw [List.length_take]; omega, by rw [List.getElem_take]⟩))
    · subst c; exact (h' hj).2
    · obtain ⟨h1, h2⟩ := h' (by omega)
      have := (List.pairwise_iff_getElem.1 hs) i j (by omega) hj c
      exact fun e => bl_ne (bl_trans (bl_tri h1 h2) this) e.symm
theorem sort_some {l : Labels} {k : ByteArray} {i : Nat} (h : (l.take i).all (fun x => bl x.1 k) = true) (hi : i < l.length) (h' : l[i].1 = k) : getL l k = some l[i].2 := by
  unfold getL
  rw [find_at hi (decide_eq_true h')]
  · rfl
  · rw [List.all_eq_true] at h ⊢
    intro x hx
    simpa using bl_ne (h x hx)
theorem getL_ok {l : Labels} (hl : okL l) (k : ByteArray) : okS ((getL l k).getD nameless) := by
  unfold getL
  cases e : l.find? fun x => decide (x.1 = k) with
  | none => show (0 : Nat) ≤ _; omega
  | some x => exact (hl.2 x (List.mem_of_find?_eq_some e)).2
def hasB (l some : Labels) : Bool := some.all fun x => (getL l x.1).isSome && decide ((getL l x.1).getD nameless = x.2)
end Go.Proofs.Ytncfllndmjjljaa.Bt
