/- quant.Number. -/
import Derived.Test.YthmajioeldhngaaQnuSQu
namespace Go.Proofs.Ythmajioeldhngaa.Qu
open Go Go.VI
set_option linter.unusedVariables false
set_option linter.unusedSimpArgs false
set_option maxRecDepth 100000

theorem quant_head_is (N : Nat) (hN : Big N) {s : ByteArray} (hs : okS s) : G_quant_head N (s, ()) = some ((hdN s.data.toList : Int), ()) := by
  unfold Big at hN; unfold okS at hs
  have hsz := size_list s
  have loop : ∀ m (i : Nat) x, i ≤ s.size → (x = ((s, (i : Int), ()), ()) ∧ hdN s.data.toList = i + hdN (s.data.toList.drop i)) → s.size - i < m → Tot (g_quant_head_2 N m x) fun o => ∃ y, o = .inl (((hdN s.data.toList : Int), ()), y) := by
    refine Tot.range s.size fun m i x hx hi rec => ?_
    obtain ⟨rfl, hd⟩ := hx
    rw [g_quant_head_2_succ]
    unfold s_quant_head_2
    by_cases hlt : i < s.size
    · have d0 : decide ((0 : Int) ≤ (i : Int)) = true := decide_eq_true (by omega)
      have d1 : decide ((i : Int) < ((s.size : Nat) : Int)) = true := decide_eq_true (by omega)
      have hi' : i < s.data.toList.length := by omega
      rw [drop_cons hi'] at hd
      simp only [d0, d1, br_true, Int.toNat_natCast, at_lt hi', Option.bind_some, wi (i := i) (by omega)]
      generalize s.data.toList[i] = b at *
      rw [hdN_cons] at hd
      by_cases c1 : 48 ≤ b.toNat
      · by_cases c2 : b.toNat ≤ 57
        · rw [decide_eq_true (show (48 : Int) ≤ ((b.toNat : Nat) : Int) by omega), decide_eq_true (show ((b.toNat : Nat) : Int) ≤ 57 by omega)]
          simp only [br_true]
          rw [if_pos (isD_iff.2 ⟨c1, c2⟩)] at hd
          exact rec (i + 1) _ (by omega) (by omega) ⟨rfl, by omega⟩
        · rw [decide_eq_true (show (48 : Int) ≤ ((b.toNat : Nat) : Int) by omega), decide_eq_false (show ¬ ((b.toNat : Nat) : Int) ≤ 57 by omega)]
          simp only [br_true, br_false]
          rw [if_neg (fun h => c2 (isD_iff.1 h).2)] at hd
          exact Tot.some ⟨_, by rw [hd]; rfl⟩
      · rw [decide_eq_false (show ¬ (48 : Int) ≤ ((b.toNat : Nat) : Int) by omega)]
        simp only [br_false]
        rw [if_neg (fun h => c1 (isD_iff.1 h).1)] at hd
        exact Tot.some ⟨_, by rw [hd]; rfl⟩
    · have d1 : decide ((i : Int) < ((s.size : Nat) : Int)) = false := decide_eq_false (by omega)
      simp only [d1, br_false]
      rw [List.drop_eq_nil_of_le (by omega)] at hd
      exact Tot.some ⟨_, by rw [hd]; rfl⟩
  obtain ⟨o, e, y, rfl⟩ := loop N 0 _ (by omega) ⟨rfl, by simp⟩ (by omega)
  have e : g_quant_head_2 N N ((s, 0, ()), ()) = _ := e
  unfold G_quant_head S_quant_head
  simp only [e, Option.bind_some]; rfl
theorem quant_value_is (N : Nat) (hN : Big N) {s : ByteArray} (hs : okS s) (hd : digAll s.data.toList = true) {most : Nat} (h9 : 9 ≤ most) (hm : most ≤ 2000000000000000000) :
    G_quant_value N (s, (most : Int), ()) = some (if digs s.data.toList ≤ most then ((digs s.data.toList : Int), true, ()) else (0, false, ())) := by
  unfold Big at hN; unfold okS at hs
  have hsz := size_list s
  have loop : ∀ m (i : Nat) x, i ≤ s.size → (∃ a : Nat, x = ((s, (most : Int), (a : Int), (s.size : Int), (i : Int), ()), ()) ∧ a ≤ most ∧ digs s.data.toList = digsF a (s.data.toList.drop i)) → s.size - i < m →
      Tot (g_quant_value_3 N m x) fun o => (digs s.data.toList ≤ most ∧ ∃ y, o = .inl (((digs s.data.toList : Int), ()), y)) ∨ (¬ digs s.data.toList ≤ most ∧ ∃ y, o = .inr ((0, false, ()), y)) := by
    refine Tot.range s.size fun m i x hx hi rec => ?_
    obtain ⟨a, rfl, ha, hv⟩ := hx
    rw [g_quant_value_3_succ]
    unfold s_quant_value_3
    by_cases hlt : i < s.size
    · have d0 : decide ((0 : Int) ≤ (i : Int)) = true := decide_eq_true (by omega)
      have d1 : decide ((i : Int) < ((s.size : Nat) : Int)) = true := decide_eq_true (by omega)
      have hi' : i < s.data.toList.length := by omega
      have hb := isD_iff.1 (digAll_drop hd hi')
      rw [drop_cons hi', digsF_cons] at hv
      simp only [d0, d1, br_true, Int.toNat_natCast, at_lt hi', Option.bind_some, wi (i := i) (by omega)]
      generalize s.data.toList[i] = b at *
      have w1 : IntKind.wrap IntKind.u8 (((b.toNat : Nat) : Int) - 48) = ((b.toNat - 48 : Nat) : Int) := by rw [wu8 (by omega) (by omega)]; omega
      have w2 : IntKind.i64.wrap ((b.toNat - 48 : Nat) : Int) = ((b.toNat - 48 : Nat) : Int) := w64 (by omega) (by omega)
      have w3 : IntKind.i64.wrap ((most : Int) - ((b.toNat - 48 : Nat) : Int)) = ((most - (b.toNat - 48) : Nat) : Int) := by rw [w64 (by omega) (by omega)]; omega
      have t1 : Int.tdiv ((most - (b.toNat - 48) : Nat) : Int) 10 = (((most - (b.toNat - 48)) / 10 : Nat) : Int) := by
        rw [show (10 : Int) = ((10 : Nat) : Int) from rfl, Int.ofNat_tdiv]
      have w4 : IntKind.i64.wrap (((most - (b.toNat - 48)) / 10 : Nat) : Int) = (((most - (b.toNat - 48)) / 10 : Nat) : Int) := w64 (by omega) (by omega)
      simp only [w1, w2, w3, t1, w4]
      by_cases c : (most - (b.toNat - 48)) / 10 < a
      · rw [decide_eq_true (show (((most - (b.toNat - 48)) / 10 : Nat) : Int) < (a : Int) by omega), br_true]
        have hge := digsF_ge (s.data.toList.drop (i + 1)) (10 * a + (b.toNat - 48))
        exact Tot.some (.inr ⟨by omega, _, rfl⟩)
      · rw [decide_eq_false (show ¬ (((most - (b.toNat - 48)) / 10 : Nat) : Int) < (a : Int) by omega), br_false]
        have w5 : IntKind.i64.wrap (10 * (a : Int)) = ((10 * a : Nat) : Int) := by rw [w64 (by omega) (by omega)]; omega
        have w6 : IntKind.i64.wrap (((10 * a : Nat) : Int) + ((b.toNat - 48 : Nat) : Int)) = ((10 * a + (b.toNat - 48) : Nat) : Int) := by rw [w64 (by omega) (by omega)]; omega
        rw [w5, w6]
        exact rec (i + 1) _ (by omega) (by omega) ⟨_, rfl, by omega, hv⟩
    · have d1 : decide ((i : Int) < ((s.size : Nat) : Int)) = false := decide_eq_false (by omega)
      simp only [d1, br_false]
      rw [List.drop_eq_nil_of_le (by omega)] at hv
      have hv : digs s.data.toList = a := hv
      exact Tot.some (.inl ⟨by omega, _, by rw [hv]⟩)
  obtain ⟨o, e, ho⟩ := loop N 0 _ (by omega) ⟨0, rfl, by omega, rfl⟩ (by omega)
  have e : g_quant_value_3 N N ((s, (most : Int), 0, (s.size : Int), 0, ()), ()) = _ := e
  unfold G_quant_value S_quant_value
  simp only [e, Option.bind_some]
  rcases ho with ⟨h, y, rfl⟩ | ⟨h, y, rfl⟩
  · rw [if_pos h]; rfl
  · rw [if_neg h]; rfl
theorem quant_Number_is (N : Nat) (hN : Big N) {s : ByteArray} (hs : okS s) : G_quant_Number N (s, ()) = some ((numQ s).1, (numQ s).2, ()) := by
  have hsz := size_list s
  unfold G_quant_Number S_quant_Number numQ qnum
  simp only [quant_head_is N hN hs, Option.bind_some]
  by_cases e : s.data.toList = []
  · rw [decide_eq_true (nil_size.2 e), br_true, if_pos e]
  · rw [decide_eq_false (fun h => e (nil_size.1 h)), br_false, if_neg e]
    cases hd : digAll s.data.toList
    · have hne : ¬ hdN s.data.toList = s.data.toList.length := fun h => by rw [(hdN_all _).1 h] at hd; cases hd
      rw [decide_eq_false (show ¬ ((hdN s.data.toList : Nat) : Int) = ((s.size : Nat) : Int) by omega)]
      rfl
    · have hne := (hdN_all _).2 hd
      rw [decide_eq_true (show ((hdN s.data.toList : Nat) : Int) = ((s.size : Nat) : Int) by omega)]
      have := quant_value_is N hN hs hd (most := 1125899906842624) (by omega) (by omega)
      have this : G_quant_value N (s, (1125899906842624 : Int), ()) = _ := this
      simp only [this, Option.bind_some, Bool.not_true, br_false, if_true]
      by_cases c : digs s.data.toList ≤ 1125899906842624
      · rw [if_pos c, if_pos c]; rfl
      · rw [if_neg c, if_neg c]; rfl
end Go.Proofs.Ythmajioeldhngaa.Qu
