/- taints.Allows. -/
import Derived.Test.YtfifgcaielmbiaaTaiUPTrD
namespace Go.Proofs.Ytfifgcaielmbiaa.TrD
open Go Go.VI
set_option linter.unusedVariables false
set_option linter.unusedSimpArgs false
set_option maxRecDepth 100000

def hardB (e : Int) : Bool := decide (e = 1) || decide (e = 3)
def allowsB (l : List Tol) (xs : List Tai) : Bool := !xs.any fun x => hardB x.2.2 && !borneB l x
theorem filt_zero {α : Type} {p : α → Bool} {l : List α} : (l.filter p).length = 0 ↔ l.any p = false := by
  rw [List.length_eq_zero_iff, List.filter_eq_nil_iff, List.any_eq_false]
theorem taints_Allows_is (N : Nat) (hN : Big N) {l : List Tol} {xs : List Tai} (hl : l.length ≤ 1000000) (hx : xs.length ≤ 1000000) : G_taints_Allows N (l, xs, ()) = some (allowsB l xs, ()) := by
  unfold G_taints_Allows S_taints_Allows
  simp only [taints_Unborne_is N hN hl hx, Option.bind_some]
  have h1 : (xs.filter (unbB l 1)).length ≤ xs.length := List.length_filter_le _ _
  have h3 : (xs.filter (unbB l 3)).length ≤ xs.length := List.length_filter_le _ _
  rw [w64 (by omega) (by omega)]
  congr 2
  rw [Bool.eq_iff_iff, decide_eq_true_eq]
  have e1 : ((((xs.filter (unbB l 1)).length : Nat) : Int) + (((xs.filter (unbB l 3)).length : Nat) : Int) = 0) ↔ (xs.filter (unbB l 1)).length = 0 ∧ (xs.filter (unbB l 3)).length = 0 := by omega
  rw [e1, filt_zero, filt_zero]
  unfold allowsB
  rw [Bool.not_eq_true', List.any_eq_false, List.any_eq_false, List.any_eq_false]
  have key : ∀ x : Tai, (hardB x.2.2 && !borneB l x) = (unbB l 1 x || unbB l 3 x) := fun x => by
    unfold hardB unbB ofB
    cases borneB l x <;> cases hd1 : decide (x.2.2 = 1) <;> cases hd3 : decide (x.2.2 = 3) <;> rfl
  constructor
  · rintro ⟨k1, k2⟩ x hx h
    rw [key, Bool.or_eq_true] at h
    rcases h with h | h
    · exact k1 x hx h
    · exact k2 x hx h
  · intro k
    exact ⟨fun x hx h => k x hx (by rw [key, h, Bool.true_or]), fun x hx h => k x hx (by rw [key, h, Bool.or_true])⟩
end Go.Proofs.Ytfifgcaielmbiaa.TrD
