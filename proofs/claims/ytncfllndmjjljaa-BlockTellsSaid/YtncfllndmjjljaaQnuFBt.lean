/- The document: a number. -/
import Derived.Test.YtncfllndmjjljaaQnuSBt
namespace Go.Proofs.Ytncfllndmjjljaa.Bt
open Go Go.VI
set_option linter.unusedVariables false
set_option linter.unusedSimpArgs false
set_option maxRecDepth 100000

theorem ref03_digit_is (N : Nat) (b : UInt8) : G_ref03_digit N (((b.toNat : Nat) : Int), ()) = some (isD b, ()) := by
  unfold G_ref03_digit S_ref03_digit isD
  by_cases c1 : 48 ≤ b.toNat
  · rw [decide_eq_true (show (48 : Int) ≤ ((b.toNat : Nat) : Int) by omega), decide_eq_true c1, br_true, Bool.true_and]
    congr 2
    rw [decide_eq_decide]; omega
  · rw [decide_eq_false (show ¬ (48 : Int) ≤ ((b.toNat : Nat) : Int) by omega), decide_eq_false c1, br_false, Bool.false_and]
theorem ref03_digits_is (N : Nat) (hN : Big N) {s : ByteArray} (hs : okS s) : G_ref03_digits N (s, ()) = some ((hdN s.data.toList : Int), ()) := by
  unfold Big at hN; unfold okS at hs
  have hsz := size_list s
  have loop : ∀ m (i : Nat) x, i ≤ s.size → (x = ((s, (i : Int), ()), ()) ∧ hdN s.data.toList = i + hdN (s.data.toList.drop i)) → s.size - i < m → Tot (g_ref03_digits_2 N m x) fun o => ∃ y, o = .inl (((hdN s.data.toList : Int), ()), y) := by
    refine Tot.range s.size fun m i x hx hi rec => ?_
    obtain ⟨rfl, hd⟩ := hx
    rw [g_ref03_digits_2_succ]
    unfold s_ref03_digits_2
    by_cases hlt : i < s.size
    · have d0 : decide ((0 : Int) ≤ (i : Int)) = true := decide_eq_true (by omega)
      have d1 : decide ((i : Int) < ((s.size : Nat) : Int)) = true := decide_eq_true (by omega)
      have hi' : i < s.data.toList.length := by omega
      rw [drop_cons hi'] at hd
      simp only [d0, d1, br_true, Int.toNat_natCast, at_lt hi', Option.bind_some, wi (i := i) (by omega), ref03_digit_is]
      generalize s.data.toList[i] = b at *
      rw [hdN_cons] at hd
      cases c : isD b
      · rw [c, if_neg (by decide)] at hd
        simp only [br_false]
        exact Tot.some ⟨_, by rw [hd]; rfl⟩
      · rw [c, if_pos rfl] at hd
        simp only [br_true]
        exact rec (i + 1) _ (by omega) (by omega) ⟨rfl, by omega⟩
    · have d1 : decide ((i : Int) < ((s.size : Nat) : Int)) = false := decide_eq_false (by omega)
      simp only [d1, br_false]
      rw [List.drop_eq_nil_of_le (by omega)] at hd
      exact Tot.some ⟨_, by rw [hd]; rfl⟩
  obtain ⟨o, e, y, rfl⟩ := loop N 0 _ (by omega) ⟨rfl, by simp⟩ (by omega)
  have e : g_ref03_digits_2 N N ((s, 0, ()), ()) = _ := e
  unfold G_ref03_digits S_ref03_digits
  simp only [e, Option.bind_some]; rfl

theorem ref03_value_is (N : Nat) (hN : Big N) {s : ByteArray} (hs : okS s) (hd : digAll s.data.toList = true) : G_ref03_value N (s, ()) = some (((min (digs s.data.toList) 1125899906842625 : Nat) : Int), ()) := by
  unfold Big at hN; unfold okS at hs
  have hsz := size_list s
  have hmin : ∀ (l : List UInt8) (a : Nat), min (digsF (min a 1125899906842625) l) 1125899906842625 = min (digsF a l) 1125899906842625 := by
    intro l a
    rcases Nat.le_total a 1125899906842625 with h | h
    · rw [Nat.min_eq_left h]
    · rw [Nat.min_eq_right h]
      have h1 := digsF_ge l a
      have h2 := digsF_ge l 1125899906842625
      omega
  have loop : ∀ m (i : Nat) x, i ≤ s.size → (∃ a : Nat, x = ((s, (a : Int), (i : Int), ()), ()) ∧ a ≤ 1125899906842625 ∧ min (digs s.data.toList) 1125899906842625 = min (digsF a (s.data.toList.drop i)) 1125899906842625) → s.size - i < m →
      Tot (g_ref03_value_3 N m x) fun o => ∃ y, o = .inl ((((min (digs s.data.toList) 1125899906842625 : Nat) : Int), ()), y) := by
    refine Tot.range s.size fun m i x hx hi rec => ?_
    obtain ⟨a, rfl, ha, hv⟩ := hx
    rw [g_ref03_value_3_succ]
    unfold s_ref03_value_3
    by_cases hlt : i < s.size
    · have d0 : decide ((0 : Int) ≤ (i : Int)) = true := decide_eq_true (by omega)
      have d1 : decide ((i : Int) < ((s.size : Nat) : Int)) = true := decide_eq_true (by omega)
      have hi' : i < s.data.toList.length := by omega
      have hb := isD_iff.1 (digAll_drop hd hi')
      rw [drop_cons hi', digsF_cons] at hv
      simp only [d0, d1, br_true, Int.toNat_natCast, at_lt hi', Option.bind_some, wi (i := i) (by omega)]
      generalize s.data.toList[i] = b at *
      have w1 : IntKind.wrap IntKind.u8 (((b.toNat : Nat) : Int) - 48) = ((b.toNat - 48 : Nat) : Int) := by rw [wu8 (by omega) (by omega)]; omega
      have w2 : IntKind.i64.wrap ((b.toNat - 48 : Nat) : Int) = ((b.toNat - 48 : Nat) : Int) := w64 (by omega) (by omega)
      have w5 : IntKind.i64.wrap (10 * (a : Int)) = ((10 * a : Nat) : Int) := by rw [w64 (by omega) (by omega)]; omega
      have w6 : IntKind.i64.wrap (((10 * a : Nat) : Int) + ((b.toNat - 48 : Nat) : Int)) = ((10 * a + (b.toNat - 48) : Nat) : Int) := by rw [w64 (by omega) (by omega)]; omega
      have w7 : List.foldl Min.min ((10 * a + (b.toNat - 48) : Nat) : Int) [(1125899906842625 : Int)] = ((min (10 * a + (b.toNat - 48)) 1125899906842625 : Nat) : Int) := by
        rw [List.foldl_cons, List.foldl_nil]; omega
      simp only [w1, w2, w5, w6, w7]
      exact rec (i + 1) _ (by omega) (by omega) ⟨_, rfl, by omega, by rw [hmin]; exact hv⟩
    · have d1 : decide ((i : Int) < ((s.size : Nat) : Int)) = false := decide_eq_false (by omega)
      simp only [d1, br_false]
      rw [List.drop_eq_nil_of_le (by omega)] at hv
      have hv : _ = min a _ := hv
      rw [Nat.min_eq_left ha] at hv
      exact Tot.some ⟨_, by rw [hv]⟩
  obtain ⟨o, e, y, rfl⟩ := loop N 0 _ (by omega) ⟨0, rfl, by omega, rfl⟩ (by omega)
  have e : g_ref03_value_3 N N ((s, 0, 0, ()), ()) = _ := e
  unfold G_ref03_value S_ref03_value
  simp only [e, Option.bind_some]; rfl

theorem ref03_Number_is (N : Nat) (hN : Big N) {s : ByteArray} (hs : okS s) : G_ref03_Number N (s, ()) = some ((numQ s).1, (numQ s).2, ()) := by
  have hsz := size_list s
  have hle := hdN_le s.data.toList
  unfold G_ref03_Number S_ref03_Number numQ qnum
  simp only [ref03_digits_is N hN hs, Option.bind_some]
  by_cases e : s.data.toList = []
  · have : s.size = 0 := by rw [← hsz, e]; rfl
    rw [decide_eq_true (show ((s.size : Nat) : Int) = 0 by omega), br_true, if_pos e]
  · have : s.data.toList.length ≠ 0 := fun h => e (List.eq_nil_of_length_eq_zero h)
    rw [decide_eq_false (show ¬ ((s.size : Nat) : Int) = 0 by omega), br_false, if_neg e]
    cases hd : digAll s.data.toList
    · have hne : ¬ hdN s.data.toList = s.data.toList.length := fun h => by rw [(hdN_all _).1 h] at hd; cases hd
      rw [decide_eq_true (show ((hdN s.data.toList : Nat) : Int) < ((s.size : Nat) : Int) by omega)]
      rfl
    · have hne := (hdN_all _).2 hd
      rw [decide_eq_false (show ¬ ((hdN s.data.toList : Nat) : Int) < ((s.size : Nat) : Int) by omega)]
      simp only [ref03_value_is N hN hs hd, Option.bind_some, br_false, if_true]
      by_cases c : digs s.data.toList ≤ 1125899906842624
      · rw [if_pos c, decide_eq_false (show ¬ (1125899906842624 : Int) < ((min (digs s.data.toList) 1125899906842625 : Nat) : Int) by omega), br_false, Nat.min_eq_left (by omega)]
      · rw [if_neg c, decide_eq_true (show (1125899906842624 : Int) < ((min (digs s.data.toList) 1125899906842625 : Nat) : Int) by omega)]; rfl
end Go.Proofs.Ytncfllndmjjljaa.Bt
