/- Floats: of words that stand for numbers that are not below nought, the greater one is not less. -/
import Derived.Test.YtiiiipdnodgkmaaLdgELg
namespace Go.Proofs.Ytiiiipdnodgkmaa.Lg
open Go Go.VI
set_option linter.unusedVariables false
set_option linter.unusedSimpArgs false
set_option maxRecDepth 100000

theorem read_pos {w : Nat} (h : w < 9218868437227405312) : Ieee.double.read w = .number false (if w < 4503599627370496 then w else 4503599627370496 + w % 4503599627370496) (-1074 + ((if w < 4503599627370496 then 0 else w / 4503599627370496 - 1 : Nat) : Int)) := by
  have h1 : w / 9223372036854775808 = 0 := Nat.div_eq_of_lt (by omega)
  have h2 : w % 9223372036854775808 = w := Nat.mod_eq_of_lt (by omega)
  have hl : Ieee.double.leastPlace = -1074 := by decide +kernel
  unfold Ieee.Format.read
  simp only [d_sw, d_inf, d_bin, h1, h2, hl]
  by_cases h3 : w < 4503599627370496
  · simp only [if_pos h3]
    simp
  · simp only [if_neg h3, if_pos h]
    simp
theorem word_le {r w : Nat} (hw : w < 9218868437227405312) (h : r ≤ w) : fLt w r = false := by
  show (Ieee.Datum.order (Ieee.double.read w) (Ieee.double.read r) == some .lt) = false
  rw [read_pos hw, read_pos (by omega : r < 9218868437227405312)]
  have key : ∀ (m n E F : Nat), (E = F → n ≤ m) → (F < E → n ≤ 9007199254740992 ∧ 4503599627370496 ≤ m) → F ≤ E → (Ieee.Datum.order (.number false m (-1074 + (E : Int))) (.number false n (-1074 + (F : Int))) == some .lt) = false := by
    intro m n E F h1 h2 h3
    have hb : min (-1074 + (E : Int)) (-1074 + (F : Int)) = -1074 + (F : Int) := by omega
    simp only [Ieee.Datum.order, Ieee.signed, Bool.false_eq_true, if_false, hb]
    have e1 : (-1074 + (E : Int) - (-1074 + (F : Int))).toNat = E - F := by omega
    have e2 : (-1074 + (F : Int) - (-1074 + (F : Int))).toNat = 0 := by omega
    rw [e1, e2]
    have hle : n ≤ m <<< (E - F) := by
      rw [Nat.shiftLeft_eq]
      rcases Nat.eq_or_lt_of_le h3 with e | e
      · rw [e, Nat.sub_self, Nat.pow_zero, Nat.mul_one]; exact h1 e.symm
      · obtain ⟨q1, q2⟩ := h2 e
        have hp : 2 ^ 1 ≤ 2 ^ (E - F) := Nat.pow_le_pow_right (by omega) (by omega)
        have : 4503599627370496 * 2 ≤ m * 2 ^ (E - F) := Nat.mul_le_mul q2 hp
        omega
    have hle2 : n <<< 0 ≤ m <<< (E - F) := by rw [Nat.shiftLeft_zero]; exact hle
    generalize m <<< (E - F) = x at hle2
    generalize n <<< 0 = y at hle2
    have : compare ((x : Nat) : Int) ((y : Nat) : Int) ≠ .lt := fun h => by
      have := Int.compare_eq_lt.1 h
      omega
    cases hc : compare ((x : Nat) : Int) ((y : Nat) : Int) with
    | lt => exact absurd hc this
    | eq => rfl
    | gt => rfl
  refine key _ _ _ _ (fun e => ?_) (fun e => ?_) ?_
  · by_cases h1 : w < 4503599627370496 <;> by_cases h2 : r < 4503599627370496 <;> simp only [if_pos, if_neg, h1, h2, not_false_eq_true] at e ⊢ <;> omega
  · by_cases h1 : w < 4503599627370496 <;> by_cases h2 : r < 4503599627370496 <;> simp only [if_pos, if_neg, h1, h2, not_false_eq_true] at e ⊢ <;> omega
  · by_cases h1 : w < 4503599627370496 <;> by_cases h2 : r < 4503599627370496 <;> simp only [if_pos, if_neg, h1, h2, not_false_eq_true] <;> omega
def leOk (t a : Nat) : Bool := match fDiv (fOf (a : Int)) (fOf (t : Int)) with
  | some r => Nat.ble r (fOf (((a + (t - 1)) / t : Nat) : Int))
  | none => false
def leT (t : Nat) : Bool := allP (leOk t) (60 * t + 1)
def upOk (p : Nat) : Bool := Nat.ble (fOf (p : Int)) (fOf ((p + 1 : Nat) : Int)) && Nat.ble (fOf ((p + 1 : Nat) : Int)) 9218868437227405311
theorem ups : allP upOk 60 = true := by decide +kernel
theorem up {p q : Nat} (h : p ≤ q) (hq : q ≤ 60) : fOf (p : Int) ≤ fOf (q : Int) := by
  induction q with
  | zero => have : p = 0 := by omega
            rw [this]; exact Nat.le_refl _
  | succ q ih =>
    rcases Nat.eq_or_lt_of_le h with e | e
    · rw [e]; exact Nat.le_refl _
    · have := allP_spec ups q (by omega)
      unfold upOk at this
      rw [Bool.and_eq_true] at this
      exact Nat.le_trans (ih (by omega) (by omega)) (Nat.le_of_ble_eq_true this.1)
theorem top {p : Nat} (hp : p ≤ 60) : fOf (p : Int) < 9218868437227405312 := by
  have := allP_spec ups 59 (by omega)
  unfold upOk at this
  rw [Bool.and_eq_true] at this
  have h1 := Nat.le_of_ble_eq_true this.2
  have h2 := up hp (Nat.le_refl 60)
  have h3 : ((59 + 1 : Nat) : Int) = ((60 : Nat) : Int) := rfl
  rw [h3] at h1
  omega
theorem mean_le {t a p : Nat} (hT : leT t = true) (ht : 1 ≤ t) (hp : p ≤ 60) (h : a ≤ p * t) : ∃ r, fDiv (fOf (a : Int)) (fOf (t : Int)) = some r ∧ fLt (fOf (p : Int)) r = false := by
  have hpt : p * t ≤ 60 * t := Nat.mul_le_mul_right _ hp
  have hle := allP_spec hT a (by omega)
  unfold leOk at hle
  split at hle
  · rename_i r hr
    refine ⟨r, hr, word_le (top hp) (Nat.le_trans (Nat.le_of_ble_eq_true hle) (up ?_ hp))⟩
    have : (a + (t - 1)) / t < p + 1 := by
      rw [Nat.div_lt_iff_lt_mul (by omega), Nat.add_mul, Nat.one_mul]; omega
    omega
  · cases hle
end Go.Proofs.Ytiiiipdnodgkmaa.Lg
