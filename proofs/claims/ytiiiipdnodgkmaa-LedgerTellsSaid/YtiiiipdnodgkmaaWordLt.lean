/- Words: what lex.Word tells is what the document's Word tells. -/
import Derived.Test.YtiiiipdnodgkmaaUtfLt
namespace Go.Proofs.Ytiiiipdnodgkmaa.Lt
open Go Go.VI
set_option linter.unusedVariables false
set_option linter.unusedSimpArgs false
set_option maxRecDepth 100000

def plainB (c : Int) : Bool := decide (32 < c ∧ ¬ c = 127 ∧ ¬ c = 40 ∧ ¬ c = 41 ∧ ¬ c = 34 ∧ ¬ c = 59)
theorem lex_plain_is (N : Nat) (c : Int) : G_lex_plain N (c, ()) = some (plainB c, ()) := by
  have : Tot (G_lex_plain N (c, ())) fun v => v = (plainB c, ()) := by
    unfold G_lex_plain S_lex_plain plainB
    dsimp only
    repeat' first
      | (refine Tot.brD (fun _ => ?_) (fun _ => ?_))
      | (refine Tot.some ?_; congr 1; first | (symm; rw [decide_eq_false_iff_not]; omega) | (rw [decide_eq_decide]; omega))
  obtain ⟨v, e, rfl⟩ := this
  exact e
theorem ref_plain_is (N : Nat) (c : Int) : G_ref01_plain N (c, ()) = some (plainB c, ()) := by
  have : Tot (G_ref01_plain N (c, ())) fun v => v = (plainB c, ()) := by
    unfold G_ref01_plain S_ref01_plain plainB
    dsimp only
    by_cases h1 : c = 127 <;> by_cases h2 : c = 40 <;> by_cases h3 : c = 41 <;> by_cases h4 : c = 34 <;> by_cases h5 : c = 59 <;>
    simp only [h1, h2, h3, h4, h5, decide_true, decide_false, Bool.not_true, Bool.not_false, br_true, br_false] <;>
    (refine Tot.brD (fun _ => Tot.some ?_) (fun _ => Tot.some ?_)) <;> congr 1 <;> simp <;> omega
  obtain ⟨v, e, rfl⟩ := this
  exact e

theorem joint (N : Nat) (s : ByteArray) (hs : s.size ≤ 4611686018427387904) : ∀ (k p n n' : Nat) (m1 m2 m3 : Nat), s.size - p < k → k ≤ m1 → k ≤ m2 → k ≤ m3 → p ≤ s.size → n ≤ p → n' ≤ p →
    (∃ cnt : Nat, p + cnt ≤ s.size ∧ (p < s.size → 1 ≤ cnt) ∧ g_ref01_Word_3 N m1 ((s, (n : Int), (p : Int), ()), ()) = some (.inl ((((n + cnt : Nat) : Int), ()), ())) ∧
      (∃ y, gx_lex_Word_0 N m2 ((s, ()), (s, p), ()) = some (.inl ((s, ()), y))) ∧ (∃ y, g_lex_Runes_3 N m3 ((s, (n' : Int), ()), (s, p), ()) = some (.inl ((((n' + cnt : Nat) : Int), ()), y)))) ∨
    (g_ref01_Word_3 N m1 ((s, (n : Int), (p : Int), ()), ()) = some (.inr ((false, ()), ())) ∧ ∃ i ok y, gx_lex_Word_0 N m2 ((s, ()), (s, p), ()) = some (.inr ((i, ok, ()), y)) ∧ ¬ (ok = true ∧ i = (s.size : Int)))
  | 0, p, n, n', m1, m2, m3, h, _, _, _, _, _, _ => by omega
  | k + 1, p, n, n', 0, m2, m3, h, h1, _, _, _, _, _ => by omega
  | k + 1, p, n, n', m1, 0, m3, h, h1, h2, _, _, _, _ => by omega
  | k + 1, p, n, n', m1, m2, 0, h, h1, h2, h3, _, _, _ => by omega
  | k + 1, p, n, n', m1 + 1, m2 + 1, m3 + 1, h, h1, h2, h3, hp, hn, hn' => by
    rw [g_ref01_Word_3_succ, gx_lex_Word_0_succ, g_lex_Runes_3_succ]
    unfold s_ref01_Word_3 sx_lex_Word_0 s_lex_Runes_3
    dsimp only
    by_cases hlt : p < s.size
    · have d1 : decide ((p : Int) < ((s.size : Nat) : Int)) = true := decide_eq_true (by omega)
      have d2 : Nat.blt p s.size = true := Nat.ble_eq_true_of_le hlt
      obtain ⟨⟨c, w, ⟨⟩⟩, e1, q⟩ := Rune_is N s p hlt hs
      obtain ⟨⟨b, ⟨⟩⟩, e2, q2⟩ := right_is N s p (((Go.Utf8.decode s p).1 : Nat) : Int) hlt hs
      dsimp only at q q2
      rcases q with ⟨a1, a2, a3, a4⟩ | ⟨a1, a2, a3, a4, a5⟩
      · have hb : b = false := by
          cases b with
          | false => rfl
          | true =>
            rcases q2.1 rfl with h | h
            · exact absurd (by omega) h
            · exact absurd h a4
        subst hb
        right
        have d3 : decide (w = 0) = true := decide_eq_true a1
        simp only [d1, d2, e1, e2, d3, br_true, Option.bind_some, Bool.not_false]
        exact ⟨trivial, _, _, _, rfl, fun h => by cases h.1⟩
      · have hb : b = true := q2.2 (by
          by_cases hc : (Go.Utf8.decode s p).1 = 65533
          · exact .inr (a5 hc)
          · exact .inl (by omega))
        subst hb
        have d3 : decide (w = 0) = false := decide_eq_false (by omega)
        have w1 : IntKind.i64.wrap ((n : Int) + 1) = ((n + 1 : Nat) : Int) := by rw [w64 (by omega) (by omega)]; omega
        have w1' : IntKind.i64.wrap ((n' : Int) + 1) = ((n' + 1 : Nat) : Int) := by rw [w64 (by omega) (by omega)]; omega
        have w2 : IntKind.i64.wrap ((p : Int) + w) = ((p + (Go.Utf8.decode s p).2 : Nat) : Int) := by rw [w64 (by omega) (by omega)]; omega
        simp only [d1, d2, e1, e2, d3, w1, w1', w2, a2, br_true, br_false, Option.bind_some, Bool.not_false, Bool.not_true, lex_plain_is, ref_plain_is]
        cases hpl : plainB (((Go.Utf8.decode s p).1 : Nat) : Int)
        · right
          simp only [Bool.not_false, br_true]
          exact ⟨trivial, _, _, _, rfl, fun h => by omega⟩
        · simp only [Bool.not_true, br_false]
          rcases joint N s hs k (p + (Go.Utf8.decode s p).2) (n + 1) (n' + 1) m1 m2 m3 (by omega) (by omega) (by omega) (by omega) a4 (by omega) (by omega) with ⟨cnt, r0, _, r1, r2, y, r3⟩ | ⟨r1, r2⟩
          · left
            refine ⟨cnt + 1, by omega, fun _ => by omega, ?_, r2, y, ?_⟩
            · rw [r1]; congr 5; omega
            · rw [r3]; congr 5; omega
          · exact .inr ⟨r1, r2⟩
    · have d1 : decide ((p : Int) < ((s.size : Nat) : Int)) = false := decide_eq_false (by omega)
      have d2 : Nat.blt p s.size = false := by
        cases e : Nat.blt p s.size with
        | false => rfl
        | true => exact absurd (Nat.le_of_ble_eq_true e) hlt
      left
      simp only [d1, d2, br_false]
      exact ⟨0, by omega, fun h => absurd h hlt, rfl, ⟨_, rfl⟩, _, rfl⟩

/-- They tell the same, and tell it. -/
theorem Word_is (N : Nat) (s : ByteArray) (hs : s.size ≤ 4611686018427387904) (hN : s.size < N) : ∃ b, G_lex_Word N (s, ()) = some (b, ()) ∧ G_ref01_Word N (s, ()) = some (b, ()) := by
  rcases joint N s hs (s.size + 1) 0 0 0 N N N (by omega) (by omega) (by omega) (by omega) (by omega) (by omega) (by omega) with ⟨cnt, r0, r0', r1, ⟨y, r2⟩, y', r3⟩ | ⟨r1, i, ok, y, r2, r3⟩
  · have r1 : g_ref01_Word_3 N N ((s, 0, 0, ()), ()) = _ := r1
    have r3 : g_lex_Runes_3 N N ((s, 0, ()), (s, 0), ()) = _ := r3
    have e : G_lex_Runes N (s, ()) = some (((cnt : Nat) : Int), ()) := by
      unfold G_lex_Runes S_lex_Runes
      simp only [r3, Option.bind_some, Sum.elim_inl, Nat.zero_add]
    unfold G_lex_Word S_lex_Word G_ref01_Word S_ref01_Word
    by_cases h : s.size = 0
    · have hc : cnt = 0 := by omega
      subst hc
      have d1 : decide ((0 : Int) < ((s.size : Nat) : Int)) = false := decide_eq_false (by omega)
      have d2 : decide ((1 : Int) ≤ ((0 : Nat) : Int)) = false := decide_eq_false (by omega)
      simp only [r1, r2, e, d1, d2, Option.bind_some, Sum.elim_inl, Nat.zero_add, decide_true, br_true, br_false]
      exact ⟨_, rfl, rfl⟩
    · have hc : 1 ≤ cnt := r0' (by omega)
      have d1 : decide ((0 : Int) < ((s.size : Nat) : Int)) = true := decide_eq_true (by omega)
      have d2 : decide ((1 : Int) ≤ ((cnt : Nat) : Int)) = true := decide_eq_true (by omega)
      simp only [r1, r2, e, d1, d2, Option.bind_some, Sum.elim_inl, Nat.zero_add, decide_true, br_true, br_false]
      exact ⟨_, rfl, rfl⟩
  · have r1 : g_ref01_Word_3 N N ((s, 0, 0, ()), ()) = _ := r1
    unfold G_lex_Word S_lex_Word G_ref01_Word S_ref01_Word
    simp only [r1, r2, Option.bind_some, Sum.elim_inr]
    cases ok
    · exact ⟨_, rfl, rfl⟩
    · have : decide (i = ((s.size : Nat) : Int)) = false := decide_eq_false fun h => r3 ⟨rfl, h⟩
      simp only [this, br_true, br_false]
      exact ⟨_, rfl, rfl⟩
end Go.Proofs.Ytiiiipdnodgkmaa.Lt
