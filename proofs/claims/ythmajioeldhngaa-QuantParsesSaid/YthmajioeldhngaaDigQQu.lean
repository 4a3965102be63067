/- Numbers in digits, from a row of twenty bytes; the document's digits. -/
import Derived.Test.YthmajioeldhngaaTrcSQu
import Derived.Test.YthmajioeldhngaaQnuSQu
namespace Go.Proofs.Ythmajioeldhngaa.Qu
open Go Go.VI
set_option linter.unusedVariables false
set_option linter.unusedSimpArgs false
set_option maxRecDepth 100000

theorem ofBytes_list (l : List Int) : (ofBytes l).data.toList = l.map fun n => UInt8.ofNat n.toNat := by simp [ofBytes]
theorem ofBytes_dec (l : List UInt8) : ofBytes (l.map fun b => ((b.toNat : Nat) : Int)) = ⟨l.toArray⟩ := by
  refine ba_ext ?_
  rw [ofBytes_list, List.map_map]
  show _ = l.toArray.toList
  rw [List.toList_toArray]
  conv => rhs; rw [← List.map_id l]
  refine List.map_congr_left fun b _ => ?_
  show UInt8.ofNat (Int.toNat ((b.toNat : Nat) : Int)) = b
  rw [Int.toNat_natCast]
  exact UInt8.ofNat_toNat
theorem digU (n : Nat) : (((UInt8.ofNat (48 + n % 10)).toNat : Nat) : Int) = ((48 + n % 10 : Nat) : Int) := by
  rw [u8_ofNat (by omega)]
theorem quant_digits_is (N : Nat) (hN : Big N) {n : Nat} (hn : n < 10 ^ 18) : G_quant_digits N ((n : Int), ()) = some (numS n, ()) := by
  unfold Big at hN
  have loop : ∀ (at_ n m : Nat) (b : List Int), at_ ≤ 20 → b.length = 20 → n < 10 ^ at_ → n < 10 ^ 18 → 1 ≤ at_ → at_ < m →
      Tot (g_quant_digits_3 N m (((n : Int), (at_ : Int), ()), b, ())) fun o => ∃ y, o = .inr ((ofBytes ((dec n).map (fun c => ((c.toNat : Nat) : Int)) ++ b.drop at_), ()), y) := by
    intro at_
    induction at_ with
    | zero => intro n m b _ _ _ _ h; omega
    | succ k ih =>
      intro n m b hk hb hn hn2 _ hm
      obtain ⟨m, rfl⟩ : ∃ j, m = j + 1 := ⟨m - 1, by omega⟩
      rw [g_quant_digits_3_succ]
      unfold s_quant_digits_3
      have w1 : IntKind.i64.wrap (((k + 1 : Nat) : Int) - 1) = (k : Int) := by rw [w64 (by omega) (by omega)]; omega
      have t1 : Int.tdiv (n : Int) 10 = ((n / 10 : Nat) : Int) := by
        rw [show (10 : Int) = ((10 : Nat) : Int) from rfl, Int.ofNat_tdiv]
      have t2 : Int.tmod (n : Int) 10 = ((n % 10 : Nat) : Int) := by
        rw [show (10 : Int) = ((10 : Nat) : Int) from rfl, Int.ofNat_tmod]
      have w2 : IntKind.i64.wrap ((n / 10 : Nat) : Int) = ((n / 10 : Nat) : Int) := w64 (by omega) (by omega)
      have w3 : IntKind.i64.wrap ((48 : Int) + ((n % 10 : Nat) : Int)) = ((48 + n % 10 : Nat) : Int) := by rw [w64 (by omega) (by omega)]; omega
      have w4 : IntKind.wrap IntKind.u8 ((48 + n % 10 : Nat) : Int) = ((48 + n % 10 : Nat) : Int) := wu8 (by omega) (by omega)
      have d1 : (decide ((0 : Int) ≤ (k : Int))).and (decide ((k : Int) < ((20 : Nat) : Int))) = true := by
        rw [decide_eq_true (show (0 : Int) ≤ (k : Int) by omega), decide_eq_true (show (k : Int) < ((20 : Nat) : Int) by omega)]; rfl
      have hkb : k < b.length := by omega
      have hset : (b.set k ((48 + n % 10 : Nat) : Int)).drop k = ((48 + n % 10 : Nat) : Int) :: b.drop (k + 1) := by
        rw [List.drop_eq_getElem_cons (by rw [List.length_set]; exact hkb), List.getElem_set_self, List.drop_set_of_lt (by omega)]
      simp only [w1, t1, t2, w2, w3, w4, d1, br_true, Int.toNat_natCast, at_lt hkb, Option.bind_some]
      by_cases h0 : n / 10 = 0
      · have hlt : n < 10 := by omega
        rw [decide_eq_true (show ((n / 10 : Nat) : Int) = 0 by omega), br_true]
        have e1 : Nat.beq 20 (b.set k ((48 + n % 10 : Nat) : Int)).length = true := by rw [List.length_set, hb]; rfl
        have e2 : decide ((0 : Int) ≤ (k : Int)) = true := decide_eq_true (by omega)
        have e3 : Nat.ble k 20 = true := Nat.ble_eq_true_of_le (by omega)
        rw [e1]
        simp only [e2, e3, br_true, Bool.and_true, Bool.true_and]
        have hval : List.take (20 - k) (List.drop k (b.set k ((48 + n % 10 : Nat) : Int))) = List.map (fun c : UInt8 => ((c.toNat : Nat) : Int)) (dec n) ++ b.drop (k + 1) := by
          rw [hset, List.take_of_length_le (by rw [List.length_cons, List.length_drop]; omega), dec_lt hlt, show n % 10 = n by omega, List.map_cons, u8_ofNat (by omega)]; rfl
        rw [hval]
        exact Tot.some ⟨_, rfl⟩
      · have hge : ¬ n < 10 := by omega
        rw [decide_eq_false (show ¬ ((n / 10 : Nat) : Int) = 0 by omega), br_false]
        have hk1 : 1 ≤ k := by
          rcases Nat.eq_zero_or_pos k with h | h
          · subst h; simp at hn; omega
          · exact h
        have := ih (n / 10) m (b.set k ((48 + n % 10 : Nat) : Int)) (by omega) (by rw [List.length_set]; exact hb) (by rw [Nat.pow_succ] at hn; omega) (by omega) hk1 (by omega)
        rw [hset] at this
        rw [dec_ge hge, List.map_append]
        have e : List.map (fun c : UInt8 => ((c.toNat : Nat) : Int)) [UInt8.ofNat (48 + n % 10)] = [((48 + n % 10 : Nat) : Int)] := by
          rw [List.map_cons, digU]; rfl
        rw [e, List.append_assoc]
        exact this
  obtain ⟨o, e, y, rfl⟩ := loop 20 n N (List.replicate 20 0) (Nat.le_refl _) (by simp) (Nat.lt_of_lt_of_le hn (by decide)) hn (by omega) (by omega)
  have e : g_quant_digits_3 N N (((n : Int), 20, ()), [0, 0, 0, 0, 0, 0, 0, 0, 0, 0, 0, 0, 0, 0, 0, 0, 0, 0, 0, 0], ()) = _ := e
  unfold G_quant_digits S_quant_digits
  simp only [e, Option.bind_some, Sum.elim_inr]
  rw [show (List.replicate 20 (0 : Int)).drop 20 = [] from rfl, List.append_nil, ofBytes_dec]; rfl
theorem ref01_Digits_rec (N : Nat) : ∀ (k n m : Nat), 1 ≤ k → k ≤ 18 → n < 10 ^ k → k ≤ m → Gr_ref01_Digits N m ((n : Int), ()) = some (numS n, ())
  | 0, n, m, h, _, _, _ => by omega
  | k + 1, n, 0, _, _, _, h => by omega
  | k + 1, n, m + 1, _, hk, hn, hm => by
    have hbig : (10 : Nat) ^ (k + 1) ≤ 10 ^ 18 := Nat.pow_le_pow_right (by omega) hk
    show S_ref01_Digits (Gr_ref01_Digits N m) N _ = _
    unfold S_ref01_Digits
    by_cases h10 : n < 10
    · have d : decide ((n : Int) < 10) = true := decide_eq_true (by omega)
      simp only [d, br_true, ofBytes_one h10]
      congr 2
      exact ba_ext (by rw [numS_list, dec_lt h10])
    · have d : decide ((n : Int) < 10) = false := decide_eq_false (by omega)
      have t1 : Int.tdiv (n : Int) 10 = ((n / 10 : Nat) : Int) := by
        rw [show (10 : Int) = ((10 : Nat) : Int) from rfl, Int.ofNat_tdiv]
      have t2 : Int.tmod (n : Int) 10 = ((n % 10 : Nat) : Int) := by
        rw [show (10 : Int) = ((10 : Nat) : Int) from rfl, Int.ofNat_tmod]
      have w : IntKind.i64.wrap ((n / 10 : Nat) : Int) = ((n / 10 : Nat) : Int) := w64 (by omega) (by omega)
      have hk1 : 1 ≤ k := by
        cases k with
        | zero => simp at hn; omega
        | succ k => omega
      have ih := ref01_Digits_rec N k (n / 10) m hk1 (by omega) (by rw [Nat.pow_succ] at hn; omega) (by omega)
      have hl := dec_len k (n / 10) hk1 (by rw [Nat.pow_succ] at hn; omega)
      have hb : Nat.ble ((numS (n / 10)).size + (ByteArray.mk [UInt8.ofNat (48 + n % 10)].toArray).size) 140737488355328 = true := Nat.ble_eq_true_of_le (by
        rw [numS_size]
        show _ + 1 ≤ _
        omega)
      simp only [d, br_false, t1, t2, w, ih, Option.bind_some, ofBytes_one (n := n % 10) (by omega), hb, br_true]
      congr 2
      exact ba_ext (by rw [ba_append, numS_list, numS_list, dec_ge h10])
theorem ref01_Digits_is (N : Nat) (hN : Big N) {n : Nat} (h : n < 10 ^ 18) : G_ref01_Digits N ((n : Int), ()) = some (numS n, ()) := by
  unfold Big at hN
  exact ref01_Digits_rec N 18 n N (by omega) (by omega) h (by omega)
end Go.Proofs.Ythmajioeldhngaa.Qu
