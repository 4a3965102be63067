/- Texts: what a range over a text tells, and what the document's words say, are alike. -/
import Derived.Test.YtiiiipdnodgkmaaGLt
import Derived.Test.YtiiiipdnodgkmaaVIC
import Derived.Lib.DecodeN
namespace Go.Proofs.Ytiiiipdnodgkmaa.Lt
open Go Go.VI
set_option linter.unusedVariables false
set_option linter.unusedSimpArgs false
set_option maxRecDepth 100000

theorem at_get (s : ByteArray) (j : Nat) (h : j < s.size) : s.data.toList[j]? = some (s.get! j) := by
  have h' : j < s.data.size := h
  rw [Array.getElem?_toList, Array.getElem?_eq_getElem h']
  show some _ = some (s.data[j]!)
  rw [getElem!_pos s.data j h']
theorem get_lt (s : ByteArray) (j : Nat) : (s.get! j).toNat < 256 := (s.get! j).toNat_lt

theorem more_is (N : Nat) (s : ByteArray) (j : Nat) : G_ref01_more N (s, (j : Int), ()) = some (decide (j < s.size ∧ (s.get! j).toNat / 64 = 2), ()) := by
  unfold G_ref01_more S_ref01_more
  dsimp only
  have h0 : decide ((0 : Int) ≤ (j : Int)) = true := decide_eq_true (by omega)
  have hb := get_lt s j
  by_cases h : j < s.size
  · have e := at_get s j h
    have h1 : decide ((j : Int) < ((s.size : Nat) : Int)) = true := decide_eq_true (by omega)
    simp only [h0, h1, br_true, Int.toNat_natCast, e, Option.bind_some, br_dec]
    split <;> congr 2
    · simp only [decide_eq_decide]; omega
    · symm; rw [decide_eq_false_iff_not]; omega
  · have h1 : decide ((j : Int) < ((s.size : Nat) : Int)) = false := decide_eq_false (by omega)
    simp only [h1, br_false]
    congr 2
    symm; rw [decide_eq_false_iff_not]; omega

/-- The three bytes of U+FFFD. -/
def isFFFD (s : ByteArray) (p : Nat) : Prop := p + 2 < s.size ∧ (s.get! p).toNat = 239 ∧ (s.get! (p + 1)).toNat = 191 ∧ (s.get! (p + 2)).toNat = 189

theorem right_is (N : Nat) (s : ByteArray) (p : Nat) (c : Int) (hp : p < s.size) (hs : s.size ≤ 4611686018427387904) :
    Tot (G_lex_right N (s, (p : Int), c, ())) fun v => v.1 = true ↔ (¬ c = 65533 ∨ isFFFD s p) := by
  unfold isFFFD
  unfold G_lex_right S_lex_right
  dsimp only
  have w1 : IntKind.i64.wrap ((p : Int) + 1) = ((p + 1 : Nat) : Int) := by rw [w64 (by omega) (by omega)]; omega
  have w2 : IntKind.i64.wrap ((p : Int) + 2) = ((p + 2 : Nat) : Int) := by rw [w64 (by omega) (by omega)]; omega
  have h0 : ∀ j : Nat, decide ((0 : Int) ≤ (j : Int)) = true := fun j => decide_eq_true (by omega)
  simp only [w1, w2, h0, br_true, Int.toNat_natCast, at_get s p hp, Option.bind_some]
  by_cases hc : c = 65533
  · have d : decide (c = 65533) = true := decide_eq_true hc
    simp only [d, Bool.not_true, br_false]
    refine Tot.brD (fun h2 => ?_) fun h2 => Tot.some (by simp only [Bool.false_eq_true, false_iff]; omega)
    have h2 : p + 2 < s.size := by omega
    simp only [at_get s (p + 1) (by omega), at_get s (p + 2) h2, Option.bind_some]
    refine Tot.brD (fun h3 => Tot.brD (fun h4 => Tot.some ?_) fun h4 => Tot.some ?_) fun h3 => Tot.some ?_
    · simp only [decide_eq_true_eq]; omega
    · simp only [Bool.false_eq_true, false_iff]; omega
    · simp only [Bool.false_eq_true, false_iff]; omega
  · have d : decide (c = 65533) = false := decide_eq_false hc
    simp only [d, Bool.not_false, br_true]
    exact Tot.some (by simp only [true_iff]; exact .inl hc)

set_option maxHeartbeats 4000000 in
theorem Rune_is (N : Nat) (s : ByteArray) (p : Nat) (hp : p < s.size) (hs : s.size ≤ 4611686018427387904) :
    Tot (G_ref01_Rune N (s, (p : Int), ())) fun v => (v.2.1 = 0 ∧ (Go.Utf8.decode s p).1 = 65533 ∧ (Go.Utf8.decode s p).2 = 1 ∧ ¬ isFFFD s p) ∨
      (1 ≤ v.2.1 ∧ v.1 = (((Go.Utf8.decode s p).1 : Nat) : Int) ∧ v.2.1 = (((Go.Utf8.decode s p).2 : Nat) : Int) ∧ p + (Go.Utf8.decode s p).2 ≤ s.size ∧ ((Go.Utf8.decode s p).1 = 65533 → isFFFD s p)) := by
  rw [Go.Lib.decode_at]
  unfold isFFFD
  have m1 := more_is N s (p + 1)
  have m2 := more_is N s (p + 2)
  have m3 := more_is N s (p + 3)
  have g0 := get_lt s p
  have g1 := get_lt s (p + 1)
  have g2 := get_lt s (p + 2)
  have g3 := get_lt s (p + 3)
  have a0 := at_get s p hp
  have w1 : IntKind.i64.wrap ((p : Int) + 1) = ((p + 1 : Nat) : Int) := by rw [w64 (by omega) (by omega)]; omega
  have w2 : IntKind.i64.wrap ((p : Int) + 2) = ((p + 2 : Nat) : Int) := by rw [w64 (by omega) (by omega)]; omega
  have w3 : IntKind.i64.wrap ((p : Int) + 3) = ((p + 3 : Nat) : Int) := by rw [w64 (by omega) (by omega)]; omega
  have h0 : ∀ j : Nat, decide ((0 : Int) ≤ (j : Int)) = true := fun j => decide_eq_true (by omega)
  unfold G_ref01_Rune S_ref01_Rune
  dsimp only
  simp only [h0, w1, w2, w3, m1, m2, m3, a0, br_true, Int.toNat_natCast, Option.bind_some, wByte]
  by_cases k1 : p + 1 < s.size ∧ (s.get! (p + 1)).toNat / 64 = 2
  · have a1 := at_get s (p + 1) k1.1
    by_cases k2 : p + 2 < s.size ∧ (s.get! (p + 2)).toNat / 64 = 2
    · have a2 := at_get s (p + 2) k2.1
      by_cases k3 : p + 3 < s.size ∧ (s.get! (p + 3)).toNat / 64 = 2
      · have a3 := at_get s (p + 3) k3.1
        simp only [a1, a2, a3, decide_eq_true k1, decide_eq_true k2, decide_eq_true k3, br_true, br_false, Option.bind_some, wByte]
        clear m1 m2 m3 a0 a1 a2 a3 w1 w2 w3 h0
        generalize (s.get! p).toNat = b0 at *
        generalize (s.get! (p + 1)).toNat = b1 at *
        generalize (s.get! (p + 2)).toNat = b2 at *
        generalize (s.get! (p + 3)).toNat = b3 at *
        simp (disch := omega) only [w64]
        repeat' first
          | (refine Tot.brD (fun _ => ?_) (fun _ => ?_))
          | (refine Tot.some ?_; dsimp only; unfold Go.Lib.decodeN; (repeat' split); all_goals omega)
      · simp only [a1, a2, decide_eq_true k1, decide_eq_true k2, decide_eq_false k3, br_true, br_false, Option.bind_some, wByte]
        clear a1 a2
        clear m1 m2 m3 a0 w1 w2 w3 h0
        generalize (s.get! p).toNat = b0 at *
        generalize (s.get! (p + 1)).toNat = b1 at *
        generalize (s.get! (p + 2)).toNat = b2 at *
        generalize (s.get! (p + 3)).toNat = b3 at *
        simp (disch := omega) only [w64]
        repeat' first
          | (refine Tot.brD (fun _ => ?_) (fun _ => ?_))
          | (refine Tot.some ?_; dsimp only; unfold Go.Lib.decodeN; (repeat' split); all_goals omega)
    · simp only [a1, decide_eq_true k1, decide_eq_false k2, br_true, br_false, Option.bind_some, wByte]
      clear a1
      clear m1 m2 m3 a0 w1 w2 w3 h0
      generalize (s.get! p).toNat = b0 at *
      generalize (s.get! (p + 1)).toNat = b1 at *
      generalize (s.get! (p + 2)).toNat = b2 at *
      generalize (s.get! (p + 3)).toNat = b3 at *
      simp (disch := omega) only [w64]
      repeat' first
        | (refine Tot.brD (fun _ => ?_) (fun _ => ?_))
        | (refine Tot.some ?_; dsimp only; unfold Go.Lib.decodeN; (repeat' split); all_goals omega)
  · simp only [decide_eq_false k1, br_true, br_false, Option.bind_some, wByte]
    clear m1 m2 m3 a0 w1 w2 w3 h0
    generalize (s.get! p).toNat = b0 at *
    generalize (s.get! (p + 1)).toNat = b1 at *
    generalize (s.get! (p + 2)).toNat = b2 at *
    generalize (s.get! (p + 3)).toNat = b3 at *
    try simp (disch := omega) only [w64]
    repeat' first
      | (refine Tot.brD (fun _ => ?_) (fun _ => ?_))
      | (refine Tot.some ?_; dsimp only; unfold Go.Lib.decodeN; (repeat' split); all_goals omega)
end Go.Proofs.Ytiiiipdnodgkmaa.Lt
