/- Floats: a quotient is itself; it is there. -/
import Derived.Test.YtiiiipdnodgkmaaVIC
namespace Go.Proofs.Ytiiiipdnodgkmaa.Lt
open Go Go.VI
set_option linter.unusedVariables false
set_option linter.unusedSimpArgs false
set_option maxRecDepth 100000

theorem d_inf : Ieee.double.infRung = 9218868437227405312 := by decide +kernel
theorem d_sw : Ieee.double.signWeight = 9223372036854775808 := by decide +kernel
theorem d_bin : Ieee.double.binade = 4503599627370496 := by decide +kernel
theorem read_word (neg : Bool) {r : Nat} (h : r ≤ 9218868437227405312) : (Ieee.double.read (Ieee.double.word neg r)).isNaN = false := by
  have hr : Ieee.double.word neg r % 9223372036854775808 = r := by
    unfold Ieee.Format.word
    rw [d_sw]
    cases neg
    · simp only [Bool.false_eq_true, if_false]; omega
    · simp only [if_true]; omega
  unfold Ieee.Format.read
  simp only [d_sw, d_inf, d_bin, hr]
  split
  · rfl
  · split
    · rfl
    · split
      · rfl
      · omega
theorem write_num (neg : Bool) (mag : Nat) (p : Int) : ∃ r, r ≤ 9218868437227405312 ∧ Ieee.double.write (.number neg mag p) = Ieee.double.word neg r := by
  show ∃ r, r ≤ 9218868437227405312 ∧ Ieee.double.nearest neg mag p = Ieee.double.word neg r
  unfold Ieee.Format.nearest
  split
  · exact ⟨0, by omega, rfl⟩
  · exact ⟨_, by rw [d_inf]; exact Nat.min_le_right _ _, rfl⟩
theorem write_inf (neg : Bool) : Ieee.double.write (.infinity neg) = Ieee.double.word neg 9218868437227405312 := by
  show Ieee.double.word neg Ieee.double.infRung = _
  rw [d_inf]
theorem order_self : ∀ d : Ieee.Datum, d.isNaN = false → d.order d = some .eq
  | .number s m i, _ => by simp [Ieee.Datum.order]
  | .infinity s, _ => by simp [Ieee.Datum.order]
  | .nan s t, h => by cases h
theorem quot_num {d e q : Ieee.Datum} {k : Nat} (h : d.quotient k e = some q) : q.isNaN = false := by
  unfold Ieee.Datum.quotient at h
  split at h <;> try (cases h; done)
  all_goals first
    | (cases h; rfl; done)
    | (split at h
       · split at h
         · cases h
         · cases h; rfl
       · cases h; rfl)
theorem write_self {q : Ieee.Datum} (h : q.isNaN = false) : (Ieee.double.read (Ieee.double.write q)).isNaN = false := by
  cases q with
  | number s m i =>
    obtain ⟨r, h1, h2⟩ := write_num s m i
    rw [h2]; exact read_word s h1
  | infinity s => rw [write_inf]; exact read_word s (Nat.le_refl _)
  | nan s t => cases h
theorem fDiv_self {a b r : Nat} (h : fDiv a b = some r) : fEq r r = true := by
  unfold fDiv at h
  have h : ((Ieee.double.read a).quotient (Ieee.double.fractionBits + 2) (Ieee.double.read b)).map Ieee.double.write = some r := h
  cases hq : (Ieee.double.read a).quotient (Ieee.double.fractionBits + 2) (Ieee.double.read b) with
  | none => rw [hq] at h; cases h
  | some q =>
    rw [hq] at h
    cases h
    show (Ieee.Datum.order (Ieee.double.read (Ieee.double.write q)) (Ieee.double.read (Ieee.double.write q)) == some .eq) = true
    rw [order_self _ (write_self (quot_num hq))]; rfl

def posNum (d : Ieee.Datum) : Bool := match d with
  | .number false (_ + 1) _ => true
  | _ => false
theorem fOf_there (n : Int) : (Ieee.double.read (fOf n)).isNaN = false := write_self (q := .number (n < 0) n.natAbs 0) rfl
theorem fDiv_there {n : Int} {b : Nat} (hb : posNum (Ieee.double.read b) = true) : ∃ r, fDiv (fOf n) b = some r := by
  have hn := fOf_there n
  show ∃ r, ((Ieee.double.read (fOf n)).quotient (Ieee.double.fractionBits + 2) (Ieee.double.read b)).map Ieee.double.write = some r
  generalize Ieee.double.read (fOf n) = d at hn ⊢
  generalize Ieee.double.read b = e at hb ⊢
  cases e with
  | infinity s => cases hb
  | nan s t => cases hb
  | number s m i =>
    cases m with
    | zero => cases s <;> cases hb
    | succ m =>
      cases d with
      | nan s t => cases hn
      | infinity s => exact ⟨_, rfl⟩
      | number s' m' i' =>
        unfold Ieee.Datum.quotient
        simp only [Nat.succ_ne_zero, if_false, Option.map_some]
        exact ⟨_, rfl⟩
def allP (p : Nat → Bool) : Nat → Bool
  | 0 => true
  | n + 1 => p n && allP p n
theorem allP_spec {p : Nat → Bool} : ∀ {n : Nat}, allP p n = true → ∀ i, i < n → p i = true
  | 0, _, i, h => by omega
  | n + 1, h, i, hi => by
    rw [allP, Bool.and_eq_true] at h
    by_cases e : i = n
    · rw [e]; exact h.1
    · exact allP_spec h.2 i (by omega)
theorem ticks_pos : allP (fun n => posNum (Ieee.double.read (fOf ((n + 1 : Nat) : Int)))) 30 = true := by decide +kernel
theorem mean_there (a : Int) {t : Nat} (h0 : 1 ≤ t) (h1 : t ≤ 30) : ∃ r, fDiv (fOf a) (fOf (t : Int)) = some r ∧ fEq r r = true := by
  have := allP_spec ticks_pos (t - 1) (by omega)
  rw [Nat.sub_add_cancel h0] at this
  obtain ⟨r, hr⟩ := fDiv_there (n := a) this
  exact ⟨r, hr, fDiv_self hr⟩
end Go.Proofs.Ytiiiipdnodgkmaa.Lt
