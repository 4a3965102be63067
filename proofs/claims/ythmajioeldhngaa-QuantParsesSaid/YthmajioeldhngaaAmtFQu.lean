/- The document: a text's amount. -/
import Derived.Test.YthmajioeldhngaaAmtQQu
import Derived.Test.YthmajioeldhngaaQnuFQu
namespace Go.VI
set_option linter.unusedVariables false
set_option linter.unusedSimpArgs false

theorem step_num (A B D c T S : Nat) (h : A = B) : (B + (c + D) / 10) * (T * 10) + ((c + D) % 10 * T + S) = (10 * A + D + c) * T + S := by
  subst h
  have e : 10 * A + D + c = (A + (c + D) / 10) * 10 + (c + D) % 10 := by omega
  have e2 : (10 * A + D + c) * T = ((A + (c + D) / 10) * 10) * T + ((c + D) % 10) * T := by rw [e, Nat.add_mul]
  have e3 : (A + (c + D) / 10) * (T * 10) = ((A + (c + D) / 10) * 10) * T := by rw [Nat.mul_comm T 10, Nat.mul_assoc]
  rw [e2, e3, Nat.add_assoc]
theorem digAll_cons (b : UInt8) (l : List UInt8) : digAll (b :: l) = (isD b && digAll l) := by unfold digAll isD; rw [List.all_cons]
theorem isD_ofNat (n : Nat) : isD (UInt8.ofNat (48 + n % 10)) = true := isD_iff.2 (by rw [u8_ofNat (by omega)]; omega)
theorem digs_dig (n : Nat) (l : List UInt8) : digs (UInt8.ofNat (48 + n % 10) :: l) = n % 10 * 10 ^ l.length + digs l := by
  rw [digs_cons, u8_ofNat (by omega), show 48 + n % 10 - 48 = n % 10 by omega]
theorem digs_zero_iff : ∀ {l : List UInt8}, digAll l = true → (digs l = 0 ↔ ∀ b ∈ l, b.toNat = 48)
  | [], _ => by simp [digs]
  | b :: l, h => by
    rw [digAll_cons, Bool.and_eq_true] at h
    have ih := digs_zero_iff h.2
    have hb := isD_iff.1 h.1
    have hp : 0 < 10 ^ l.length := Nat.pow_pos (by omega)
    rw [digs_cons, Nat.add_eq_zero_iff, Nat.mul_eq_zero, ih]
    constructor
    · rintro ⟨h1, h2⟩ c hc
      rcases List.mem_cons.1 hc with rfl | hc
      · omega
      · exact h2 c hc
    · intro h
      exact ⟨.inl (by have := h b (by simp); omega), fun c hc => h c (by simp [hc])⟩
end Go.VI
namespace Go.Proofs.Ythmajioeldhngaa.Qu
open Go Go.VI
set_option linter.unusedVariables false
set_option linter.unusedSimpArgs false
set_option maxRecDepth 100000

theorem one_digit (c : Nat) : ofBytes [(IntKind.wrap IntKind.u8 (IntKind.i64.wrap ((48 : Int) + ((c % 10 : Nat) : Int))))] = ByteArray.mk (List.toArray [UInt8.ofNat (48 + c % 10)]) := ofBytes_one (by omega)
theorem prod2 (N : Nat) (l : List UInt8) (u : Nat) : ∀ (k m carry i : Nat) (out : List UInt8), carry < 10 ^ k → k < m → i + k ≤ 1000000000000 → digAll out = true → carry ≤ 9223372036854775807 → out.length + k ≤ 100000000000000 →
    Tot (g_ref03_product_4 N m ((ByteArray.mk (List.toArray l), (u : Int), ByteArray.mk (List.toArray out), (carry : Int), -1 - (i : Int), ()), ())) fun o => ∃ out' y, o = .inl ((ByteArray.mk (List.toArray out'), ()), y) ∧ digAll out' = true ∧ digs out' = carry * 10 ^ out.length + digs out ∧ out'.length ≤ out.length + k ∧ out.length ≤ out'.length := by
  intro k
  induction k with
  | zero =>
    intro m carry i out hc hm hi hd _ hl
    obtain ⟨m, rfl⟩ : ∃ j, m = j + 1 := ⟨m - 1, by omega⟩
    have c0 : carry = 0 := by rw [Nat.pow_zero] at hc; omega
    subst c0
    rw [g_ref03_product_4_succ]
    unfold s_ref03_product_4
    dsimp only
    rw [decide_eq_false (show ¬ (0 : Int) ≤ -1 - (i : Int) by omega), br_false, decide_eq_false (show ¬ (0 : Int) < ((0 : Nat) : Int) by omega), br_false]
    exact Tot.some ⟨out, _, rfl, hd, by omega, by omega, by omega⟩
  | succ k ih =>
    intro m carry i out hc hm hi hd hcb hl
    obtain ⟨m, rfl⟩ : ∃ j, m = j + 1 := ⟨m - 1, by omega⟩
    rw [g_ref03_product_4_succ]
    unfold s_ref03_product_4
    dsimp only
    by_cases c0 : carry = 0
    · subst c0
      rw [decide_eq_false (show ¬ (0 : Int) ≤ -1 - (i : Int) by omega), br_false, decide_eq_false (show ¬ (0 : Int) < ((0 : Nat) : Int) by omega), br_false]
      exact Tot.some ⟨out, _, rfl, hd, by omega, by omega, by omega⟩
    · have t1 : Int.tdiv (carry : Int) 10 = ((carry / 10 : Nat) : Int) := tdivN carry 10
      have t2 : Int.tmod (carry : Int) 10 = ((carry % 10 : Nat) : Int) := tmodN carry 10
      have w1 : IntKind.i64.wrap ((carry / 10 : Nat) : Int) = ((carry / 10 : Nat) : Int) := wni (by omega)
      have w2 : IntKind.i64.wrap (-1 - (i : Int) - 1) = -1 - ((i + 1 : Nat) : Int) := by rw [w64 (by omega) (by omega)]; omega
      have b1 : Nat.ble (ByteArray.size (ByteArray.mk (List.toArray [UInt8.ofNat (48 + carry % 10)])) + ByteArray.size (ByteArray.mk (List.toArray out))) 140737488355328 = true := Nat.ble_eq_true_of_le (by rw [bs_size, bs_size]; show 1 + _ ≤ _; omega)
      rw [decide_eq_false (show ¬ (0 : Int) ≤ -1 - (i : Int) by omega), br_false, decide_eq_true (show (0 : Int) < (carry : Int) by omega), br_true, br_false, t1, t2, w1, w2, one_digit, b1, br_true, bs_app]
      have hp : carry / 10 < 10 ^ k := by rw [Nat.pow_succ] at hc; omega
      refine (ih m (carry / 10) (i + 1) ([UInt8.ofNat (48 + carry % 10)] ++ out) hp (by omega) (by omega) (by show digAll (_ :: out) = true; rw [digAll_cons, isD_ofNat, hd]; rfl) (by omega) (by show (out.length + 1) + k ≤ _; omega)).mono ?_
      rintro o ⟨out', y, rfl, h1, h2, h3, h4⟩
      refine ⟨out', y, rfl, h1, ?_, ?_, ?_⟩
      · rw [h2]
        show carry / 10 * 10 ^ (out.length + 1) + digs (UInt8.ofNat (48 + carry % 10) :: out) = _
        rw [digs_dig, Nat.pow_succ]
        have := step_num 0 0 0 carry (10 ^ out.length) (digs out) rfl
        simp only [Nat.zero_add, Nat.mul_zero, Nat.add_zero] at this
        exact this
      · have h3 : out'.length ≤ (out.length + 1) + k := h3
        omega
      · have h4 : out.length + 1 ≤ out'.length := h4
        omega
theorem prod1 (N : Nat) (l : List UInt8) (hl : l.length ≤ 100000) (hd : digAll l = true) (u : Nat) (hu : u ≤ 1099511627776000) : ∀ (j m carry : Nat) (out : List UInt8), j ≤ l.length → carry ≤ u → j + 20 < m → digAll out = true → out.length + j ≤ 1000000 →
    Tot (g_ref03_product_4 N m ((ByteArray.mk (List.toArray l), (u : Int), ByteArray.mk (List.toArray out), (carry : Int), (j : Int) - 1, ()), ())) fun o => ∃ out' y, o = .inl ((ByteArray.mk (List.toArray out'), ()), y) ∧ digAll out' = true ∧ digs out' = (digs (l.take j) * u + carry) * 10 ^ out.length + digs out ∧ out'.length ≤ out.length + j + 16 ∧ out.length + j ≤ out'.length := by
  intro j
  induction j with
  | zero =>
    intro m carry out _ hc hm ho hol
    have := prod2 N l u 16 m carry 0 out (by omega) (by omega) (by omega) ho (by omega) (by omega)
    refine this.mono ?_
    rintro o ⟨out', y, rfl, h1, h2, h3, h4⟩
    refine ⟨out', y, rfl, h1, ?_, by omega, by omega⟩
    rw [h2, List.take_zero]
    show _ = (0 * u + carry) * _ + _
    rw [Nat.zero_mul, Nat.zero_add]
  | succ j ih =>
    intro m carry out hj hc hm ho hol
    obtain ⟨m, rfl⟩ : ∃ j, m = j + 1 := ⟨m - 1, by omega⟩
    rw [g_ref03_product_4_succ]
    unfold s_ref03_product_4
    dsimp only
    have ej : ((j + 1 : Nat) : Int) - 1 = (j : Int) := by omega
    have hlt : j < l.length := by omega
    have hb := isD_iff.1 (digAll_drop hd hlt)
    have hsn : digs (l.take (j + 1)) = 10 * digs (l.take j) + (l[j].toNat - 48) := by
      rw [List.take_add_one, List.getElem?_eq_getElem hlt, Option.toList_some, digs_snoc]
    rw [ej, decide_eq_true (show (0 : Int) ≤ (j : Int) by omega), br_true, br_true, br_true, Int.toNat_natCast, at_lt hlt, Option.bind_some]
    rw [hsn]
    generalize l[j] = b at *
    have w1 : IntKind.wrap IntKind.u8 (((b.toNat : Nat) : Int) - 48) = ((b.toNat - 48 : Nat) : Int) := by rw [wu8 (by omega) (by omega)]; omega
    have w2 : IntKind.i64.wrap ((b.toNat - 48 : Nat) : Int) = ((b.toNat - 48 : Nat) : Int) := wni (by omega)
    have hmul : (b.toNat - 48) * u ≤ 9 * u := Nat.mul_le_mul (by omega) (Nat.le_refl _)
    have w3 : IntKind.i64.wrap (((b.toNat - 48 : Nat) : Int) * (u : Int)) = (((b.toNat - 48) * u : Nat) : Int) := by rw [← Int.natCast_mul, wni (by omega)]
    have w4 : IntKind.i64.wrap ((carry : Int) + (((b.toNat - 48) * u : Nat) : Int)) = ((carry + (b.toNat - 48) * u : Nat) : Int) := by rw [← Int.natCast_add, wni (by omega)]
    have t1 : ∀ x : Nat, Int.tdiv (x : Int) 10 = ((x / 10 : Nat) : Int) := fun x => tdivN x 10
    have t2 : ∀ x : Nat, Int.tmod (x : Int) 10 = ((x % 10 : Nat) : Int) := fun x => tmodN x 10
    rw [w1, w2, w3, w4, t1, t2]
    have hfin : digs (l.take j) * u * 10 + (b.toNat - 48) * u = (10 * digs (l.take j) + (b.toNat - 48)) * u := by rw [Nat.add_mul, Nat.mul_comm 10, Nat.mul_right_comm]
    rw [← hfin]
    generalize (b.toNat - 48) * u = D at *
    have w5 : IntKind.i64.wrap (((carry + D) / 10 : Nat) : Int) = (((carry + D) / 10 : Nat) : Int) := wni (by omega)
    have w6 : IntKind.i64.wrap ((j : Int) - 1) = (j : Int) - 1 := w64 (by omega) (by omega)
    have b1 : Nat.ble (ByteArray.size (ByteArray.mk (List.toArray [UInt8.ofNat (48 + (carry + D) % 10)])) + ByteArray.size (ByteArray.mk (List.toArray out))) 140737488355328 = true := Nat.ble_eq_true_of_le (by rw [bs_size, bs_size]; show 1 + _ ≤ _; omega)
    rw [w5, w6, one_digit, b1, br_true, bs_app]
    refine (ih m ((carry + D) / 10) ([UInt8.ofNat (48 + (carry + D) % 10)] ++ out) (by omega) (by omega) (by omega) (by show digAll (_ :: out) = true; rw [digAll_cons, isD_ofNat, ho]; rfl) (by show (out.length + 1) + j ≤ _; omega)).mono ?_
    rintro o ⟨out', y, rfl, h1, h2, h3, h4⟩
    refine ⟨out', y, rfl, h1, ?_, ?_, ?_⟩
    · rw [h2]
      show (digs (l.take j) * u + (carry + D) / 10) * 10 ^ (out.length + 1) + digs (UInt8.ofNat (48 + (carry + D) % 10) :: out) = _
      rw [digs_dig, Nat.pow_succ, step_num (digs (l.take j) * u) (digs (l.take j) * u) D carry (10 ^ out.length) (digs out) rfl, Nat.mul_comm 10]
    · have h3 : out'.length ≤ (out.length + 1) + j + 16 := h3
      omega
    · have h4 : (out.length + 1) + j ≤ out'.length := h4
      omega
theorem ref03_product_is (N : Nat) (hN : Big N) (l : List UInt8) (hl : l.length ≤ 100000) (hd : digAll l = true) (u : Nat) (hu : u ≤ 1099511627776000) :
    ∃ out, G_ref03_product N (ByteArray.mk (List.toArray l), (u : Int), ()) = some (ByteArray.mk (List.toArray out), ()) ∧ digAll out = true ∧ digs out = digs l * u ∧ out.length ≤ 200000 := by
  have hN' := hN
  unfold Big at hN'
  obtain ⟨o, e, out, y, rfl, h1, h2, h3, h4⟩ := prod1 N l hl hd u hu l.length N 0 [] (Nat.le_refl _) (by omega) (by omega) rfl (by show 0 + _ ≤ _; omega)
  refine ⟨out, ?_, h1, ?_, ?_⟩
  · unfold G_ref03_product S_ref03_product
    have w : IntKind.i64.wrap (((ByteArray.size (ByteArray.mk (List.toArray l)) : Nat) : Int) - 1) = (l.length : Int) - 1 := by rw [bs_size, w64 (by omega) (by omega)]
    dsimp only
    rw [w]
    have e : g_ref03_product_4 N N ((ByteArray.mk (List.toArray l), (u : Int), ByteArray.mk (List.toArray []), 0, (l.length : Int) - 1, ()), ()) = _ := e
    rw [e, Option.bind_some]; rfl
  · rw [h2, List.take_length]
    show (digs l * u + 0) * 1 + 0 = _
    omega
  · have h3 : out.length ≤ 0 + l.length + 16 := h3
    omega
theorem ref03_zeros_is (N : Nat) (hN : Big N) (l : List UInt8) (hl : l.length ≤ 1000000) (hd : digAll l = true) : G_ref03_zeros N (ByteArray.mk (List.toArray l), ()) = some (decide (digs l = 0), ()) := by
  have hN' := hN
  unfold Big at hN'
  have loop := Tot.allL (f := g_ref03_zeros_2 N) (l := l) (q := fun b => decide (b.toNat = 48)) (Inv := fun i x => x = ((ByteArray.mk (List.toArray l), (i : Int), ()), ())) (Y := fun o => ∃ y, o = .inl ((), y)) (No := fun o => ∃ y, o = .inr ((false, ()), y))
    (fun m a ha => by
      subst ha
      rw [g_ref03_zeros_2_succ]
      unfold s_ref03_zeros_2
      dsimp only
      rw [bs_size, decide_eq_false (show ¬ ((l.length : Nat) : Int) < ((l.length : Nat) : Int) by omega), br_false]
      exact Tot.some ⟨_, rfl⟩)
    (fun m i a Q hi ha h1 h2 => by
      subst ha
      rw [g_ref03_zeros_2_succ]
      unfold s_ref03_zeros_2
      dsimp only
      rw [bs_size, decide_eq_true (show ((i : Nat) : Int) < ((l.length : Nat) : Int) by omega), br_true, decide_eq_true (show (0 : Int) ≤ (i : Int) by omega), br_true, Int.toNat_natCast, at_lt hi, Option.bind_some]
      by_cases c : l[i].toNat = 48
      · rw [decide_eq_true (show ((l[i].toNat : Nat) : Int) = 48 by omega), Bool.not_true, br_false, wi (i := i) (by omega)]
        exact h1 (decide_eq_true c) _ rfl
      · rw [decide_eq_false (show ¬ ((l[i].toNat : Nat) : Int) = 48 by omega), Bool.not_false, br_true]
        exact Tot.some (h2 (decide_eq_false c) _ ⟨_, rfl⟩)) N _ (by omega) rfl
  obtain ⟨o, e, ho⟩ := loop
  have e : g_ref03_zeros_2 N N ((ByteArray.mk (List.toArray l), 0, ()), ()) = _ := e
  unfold G_ref03_zeros S_ref03_zeros
  dsimp only
  rw [e, Option.bind_some]
  rcases ho with ⟨h, y, rfl⟩ | ⟨h, y, rfl⟩
  · rw [decide_eq_true ((digs_zero_iff hd).2 fun b hb => of_decide_eq_true (List.all_eq_true.1 h b hb))]; rfl
  · rw [decide_eq_false fun h0 => by
      rw [List.all_eq_true.2 fun b hb => decide_eq_true ((digs_zero_iff hd).1 h0 b hb)] at h
      cases h]; rfl
theorem ref03_unit_is (N : Nat) (l : List UInt8) : G_ref03_unit N (ByteArray.mk (List.toArray l), ()) = some ((unitL l : Int), ()) := by
  unfold G_ref03_unit S_ref03_unit unitL
  have hd : ∀ r : List UInt8, decide (ByteArray.mk (List.toArray l) = ByteArray.mk (List.toArray r)) = decide (l = r) := fun r => by rw [decide_eq_decide]; exact bs_inj
  simp only [hd, br_dec]
  repeat' split
  all_goals rfl
theorem refTail (N : Nat) (hN : Big N) (l : List UInt8) (hl : l.length ≤ 100000) (hd : digAll l = true) (u last each : Nat) (hu : u ≤ 1099511627776000) (hL : last ≤ 6) (he : each = 10 ^ last) :
    (Option.bind (G_ref03_product N (ByteArray.mk (List.toArray l), (u : Int), ())) (fun vA => (br (Nat.ble ((ByteArray.size (ByteArray.mk (List.toArray [48, 48, 48, 48, 48, 48]))) + (ByteArray.size vA.1)) 140737488355328) (br (decide ((0 : Int) ≤ (IntKind.i64.wrap ((((ByteArray.size ((ByteArray.mk (List.toArray [48, 48, 48, 48, 48, 48])) ++ vA.1)) : Nat) : Int) - (last : Int))))) (br (Bool.and (Nat.ble (Int.toNat (IntKind.i64.wrap ((((ByteArray.size ((ByteArray.mk (List.toArray [48, 48, 48, 48, 48, 48])) ++ vA.1)) : Nat) : Int) - (last : Int)))) (ByteArray.size ((ByteArray.mk (List.toArray [48, 48, 48, 48, 48, 48])) ++ vA.1))) (Nat.ble (ByteArray.size ((ByteArray.mk (List.toArray [48, 48, 48, 48, 48, 48])) ++ vA.1)) (ByteArray.size ((ByteArray.mk (List.toArray [48, 48, 48, 48, 48, 48])) ++ vA.1)))) (Option.bind (G_ref03_zeros N ((ByteArray.extract ((ByteArray.mk (List.toArray [48, 48, 48, 48, 48, 48])) ++ vA.1) (Int.toNat (IntKind.i64.wrap ((((ByteArray.size ((ByteArray.mk (List.toArray [48, 48, 48, 48, 48, 48])) ++ vA.1)) : Nat) : Int) - (last : Int)))) (ByteArray.size ((ByteArray.mk (List.toArray [48, 48, 48, 48, 48, 48])) ++ vA.1))), ())) (fun vB => (br (Bool.not vB.1) (some ((0 : Int), (8 : Int), ())) (br (decide ((0 : Int) ≤ (IntKind.i64.wrap ((((ByteArray.size ((ByteArray.mk (List.toArray [48, 48, 48, 48, 48, 48])) ++ vA.1)) : Nat) : Int) - (last : Int))))) (br (Bool.and (Nat.ble 0 (Int.toNat (IntKind.i64.wrap ((((ByteArray.size ((ByteArray.mk (List.toArray [48, 48, 48, 48, 48, 48])) ++ vA.1)) : Nat) : Int) - (last : Int))))) (Nat.ble (Int.toNat (IntKind.i64.wrap ((((ByteArray.size ((ByteArray.mk (List.toArray [48, 48, 48, 48, 48, 48])) ++ vA.1)) : Nat) : Int) - (last : Int)))) (ByteArray.size ((ByteArray.mk (List.toArray [48, 48, 48, 48, 48, 48])) ++ vA.1)))) (Option.bind (G_ref03_value N ((ByteArray.extract ((ByteArray.mk (List.toArray [48, 48, 48, 48, 48, 48])) ++ vA.1) 0 (Int.toNat (IntKind.i64.wrap ((((ByteArray.size ((ByteArray.mk (List.toArray [48, 48, 48, 48, 48, 48])) ++ vA.1)) : Nat) : Int) - (last : Int))))), ())) (fun vC => (br (decide ((1125899906842624 : Int) < vC.1)) (some ((0 : Int), (10 : Int), ())) (some (vC.1, (0 : Int), ()))))) none) none)))) none) none) none))) = some ((if digs l * u % each = 0 then (if digs l * u / each ≤ 1125899906842624 then (((digs l * u / each : Nat) : Int), (0 : Int)) else (0, 10)) else (0, 8)).1, (if digs l * u % each = 0 then (if digs l * u / each ≤ 1125899906842624 then (((digs l * u / each : Nat) : Int), (0 : Int)) else (0, 10)) else (0, 8)).2, ()) := by
  obtain ⟨out, e, o1, o2, o3⟩ := ref03_product_is N hN l hl hd u hu
  rw [e, Option.bind_some]
  dsimp only
  have hz : digs ([48, 48, 48, 48, 48, 48] ++ out) = digs out := by rw [digs_append]; show 0 * _ + _ = _; omega
  have ha : digAll ([48, 48, 48, 48, 48, 48] ++ out) = true := by
    rw [digAll_iff]; intro b hb
    rw [List.mem_append] at hb
    rcases hb with hb | hb
    · have : b = 48 := by simpa using hb
      subst this; exact ⟨by decide, by decide⟩
    · exact digAll_iff.1 o1 b hb
  have hlen : ([48, 48, 48, 48, 48, 48] ++ out).length = 6 + out.length := by rw [List.length_append]; rfl
  have b0 : Nat.ble (ByteArray.size (ByteArray.mk (List.toArray [48, 48, 48, 48, 48, 48])) + ByteArray.size (ByteArray.mk (List.toArray out))) 140737488355328 = true := Nat.ble_eq_true_of_le (by rw [bs_size, bs_size]; show 6 + _ ≤ _; omega)
  rw [b0, br_true]
  simp only [bs_app, bs_size]
  rw [← o2]
  rw [← hz]
  generalize [48, 48, 48, 48, 48, 48] ++ out = all at *
  have w : IntKind.i64.wrap (((all.length : Nat) : Int) - (last : Int)) = ((all.length - last : Nat) : Int) := by rw [w64 (by omega) (by omega)]; omega
  have d0 : decide ((0 : Int) ≤ ((all.length - last : Nat) : Int)) = true := decide_eq_true (by omega)
  have b1 : Nat.ble (all.length - last) all.length = true := Nat.ble_eq_true_of_le (by omega)
  have b2 : Nat.ble all.length all.length = true := Nat.ble_eq_true_of_le (Nat.le_refl _)
  have b3 : Nat.ble 0 (all.length - last) = true := Nat.ble_eq_true_of_le (by omega)
  have tk : (all.drop (all.length - last)).take (all.length - (all.length - last)) = all.drop (all.length - last) := List.take_of_length_le (by rw [List.length_drop]; omega)
  have hsp : digs all = digs (all.take (all.length - last)) * each + digs (all.drop (all.length - last)) := by
    conv => lhs; rw [← List.take_append_drop (all.length - last) all]
    rw [digs_append, List.length_drop, he, show all.length - (all.length - last) = last by omega]
  have hda : digAll (all.take (all.length - last)) = true := digAll_iff.2 fun b hb => digAll_iff.1 ha b (List.mem_of_mem_take hb)
  have hdb : digAll (all.drop (all.length - last)) = true := digAll_iff.2 fun b hb => digAll_iff.1 ha b (List.mem_of_mem_drop hb)
  have hlt : digs (all.drop (all.length - last)) < each := by
    have := digs_lt _ _ rfl (digAll_iff.1 hdb)
    rw [List.length_drop, show all.length - (all.length - last) = last by omega, ← he] at this
    exact this
  have hep : 0 < each := by omega
  have hmod : digs all % each = digs (all.drop (all.length - last)) := by rw [hsp, Nat.mul_comm, Nat.mul_add_mod, Nat.mod_eq_of_lt hlt]
  have hdiv : digs all / each = digs (all.take (all.length - last)) := by rw [hsp, Nat.mul_comm, Nat.mul_add_div hep, Nat.div_eq_of_lt hlt, Nat.add_zero]
  have z := ref03_zeros_is N hN (all.drop (all.length - last)) (by rw [List.length_drop]; omega) hdb
  have v := ref03_value_is N hN (s := ByteArray.mk (List.toArray (all.take (all.length - last)))) (by unfold okS; rw [bs_size, List.length_take]; omega) (by rw [bs_list]; exact hda)
  rw [bs_list] at v
  simp only [w, d0, br_true, Int.toNat_natCast, b1, b2, b3, Bool.and_self, bs_ext, tk, List.drop_zero, Nat.sub_zero, z, v, Option.bind_some]
  rw [hmod, hdiv]
  by_cases c : digs (all.drop (all.length - last)) = 0
  · rw [decide_eq_true c, Bool.not_true, br_false, if_pos c]
    by_cases c2 : digs (all.take (all.length - last)) ≤ 1125899906842624
    · rw [if_pos c2, decide_eq_false (show ¬ (1125899906842624 : Int) < ((min (digs (all.take (all.length - last))) 1125899906842625 : Nat) : Int) by omega), br_false, Nat.min_eq_left (by omega)]
    · rw [if_neg c2, decide_eq_true (show (1125899906842624 : Int) < ((min (digs (all.take (all.length - last))) 1125899906842625 : Nat) : Int) by omega), br_true]
  · rw [decide_eq_false c, Bool.not_false, br_true, if_neg c]
end Go.Proofs.Ythmajioeldhngaa.Qu
