/- Names with a number: group.Machine, group.Number. -/
import Derived.Test.YtiiiipdnodgkmaaNumSGm
namespace Go.Proofs.Ytiiiipdnodgkmaa.Gm
open Go Go.VI
set_option linter.unusedVariables false
set_option linter.unusedSimpArgs false
set_option maxRecDepth 100000

theorem group_decimal_rec (N : Nat) : ∀ (k n m : Nat), 1 ≤ k → k ≤ 18 → n < 10 ^ k → k ≤ m → Gr_group_decimal N m ((n : Int), ()) = some (numS n, ())
  | 0, n, m, h, _, _, _ => by omega
  | k + 1, n, 0, _, _, _, h => by omega
  | k + 1, n, m + 1, _, hk, hn, hm => by
    have hbig : (10 : Nat) ^ (k + 1) ≤ 10 ^ 18 := Nat.pow_le_pow_right (by omega) hk
    show S_group_decimal (Gr_group_decimal N m) N _ = _
    unfold S_group_decimal
    by_cases h10 : n < 10
    · have d : decide ((n : Int) < 10) = true := decide_eq_true (by omega)
      simp only [d, br_true, ofBytes_one h10]
      congr 2
      exact ba_ext (by rw [numS_list, dec_lt h10])
    · have d : decide ((n : Int) < 10) = false := decide_eq_false (by omega)
      have t1 : Int.tdiv (n : Int) 10 = ((n / 10 : Nat) : Int) := by
        rw [show (10 : Int) = ((10 : Nat) : Int) from rfl, Int.ofNat_tdiv]
      have t2 : Int.tmod (n : Int) 10 = ((n % 10 : Nat) : Int) := by
        rw [show (10 : Int) = ((10 : Nat) : Int) from rfl, Int.ofNat_tmod]
      have w : IntKind.i64.wrap ((n / 10 : Nat) : Int) = ((n / 10 : Nat) : Int) := w64 (by omega) (by omega)
      have hk1 : 1 ≤ k := by
        cases k with
        | zero => simp at hn; omega
        | succ k => omega
      have ih := group_decimal_rec N k (n / 10) m hk1 (by omega) (by rw [Nat.pow_succ] at hn; omega) (by omega)
      have hl := dec_len k (n / 10) hk1 (by rw [Nat.pow_succ] at hn; omega)
      have hb : Nat.ble ((numS (n / 10)).size + (ByteArray.mk [UInt8.ofNat (48 + n % 10)].toArray).size) 140737488355328 = true := Nat.ble_eq_true_of_le (by
        rw [numS_size]
        show _ + 1 ≤ _
        omega)
      simp only [d, br_false, t1, t2, w, ih, Option.bind_some, ofBytes_one (n := n % 10) (by omega), hb, br_true]
      congr 2
      exact ba_ext (by rw [ba_append, numS_list, numS_list, dec_ge h10])
theorem group_decimal_is (N : Nat) (hN : Big N) {n : Nat} (h : n ≤ 999999999) : G_group_decimal N ((n : Int), ()) = some (numS n, ()) := by
  unfold Big at hN
  exact group_decimal_rec N 9 n N (by omega) (by omega) (by omega) (by omega)
theorem group_Machine_is (N : Nat) (hN : Big N) {g : Grp} (hg : litG g) (n : Int) : G_group_Machine N (g, n, ()) = some (machB g n, ()) := by
  obtain ⟨h1, h2, h3⟩ := hg
  unfold G_group_Machine S_group_Machine machB
  by_cases a : n < 1
  · simp only [decide_eq_true a, br_true, if_pos (show n < 1 ∨ 999999999 < n from .inl a)]; rfl
  · by_cases b : 999999999 < n
    · simp only [decide_eq_false a, decide_eq_true b, br_true, br_false, if_pos (show n < 1 ∨ 999999999 < n from .inr b)]; rfl
    · obtain ⟨k, rfl⟩ : ∃ k : Nat, n = (k : Int) := ⟨n.toNat, by omega⟩
      have hk : k ≤ 999999999 := by omega
      have hd := dec_len 9 k (by omega) (by omega)
      have b1 : Nat.ble (g.1.size + (ByteArray.mk (List.toArray [45])).size) 140737488355328 = true := Nat.ble_eq_true_of_le (by show _ + 1 ≤ _; omega)
      have b2 : Nat.ble ((g.1 ++ ByteArray.mk (List.toArray [45])).size + (numS k).size) 140737488355328 = true := Nat.ble_eq_true_of_le (by
        rw [ByteArray.size_append, numS_size]
        show _ + 1 + _ ≤ _; omega)
      have b3 : Nat.ble g.2.2.2.1.2.2.2.1.length maxElems = true := Nat.ble_eq_true_of_le (by unfold maxElems; omega)
      have b4 : Nat.ble g.2.2.2.1.2.2.2.2.1.length maxElems = true := Nat.ble_eq_true_of_le (by unfold maxElems; omega)
      have hno : ¬ ((k : Int) < 1 ∨ 999999999 < (k : Int)) := by omega
      simp only [decide_eq_false a, decide_eq_false b, br_false, b1, b2, b3, b4, br_true, group_decimal_is N hN hk, Option.bind_some, if_neg hno, Int.toNat_natCast]
      rfl
theorem group_Number_is (N : Nat) (hN : Big N) {g : Grp} (hg : litG g) {name : ByteArray} (hn : name.size ≤ 1000) : G_group_Number N (g, name, ()) = some ((numL (hdG g) name.data.toList : Int), ()) := by
  have hN' := hN
  unfold Big at hN'
  obtain ⟨h1, _⟩ := hg
  have hh : (hdG g).length = g.1.size + 1 := by unfold hdG; rw [List.length_append, ba_size]; rfl
  have hsz : (g.1 ++ ByteArray.mk (List.toArray [45])).size = g.1.size + 1 := by rw [ByteArray.size_append]; rfl
  have hlst : (g.1 ++ ByteArray.mk (List.toArray [45])).data.toList = hdG g := by rw [ba_append]; rfl
  have hnl : name.data.toList.length = name.size := ba_size name
  -- the digits
  have digits : ∀ (r : ByteArray), r.size ≤ 9 → Tot (g_group_Number_9 N N ((r, 0, (r.size : Int), 0, ()), ())) fun o => Sum.elim (fun v => v.1.1) (fun v => v.1.1) o = (if digAll r.data.toList then (digs r.data.toList : Int) else 0) := by
    intro r hr
    have hrl : r.data.toList.length = r.size := ba_size r
    have loop : ∀ m (i : Nat) x, i ≤ r.size → (∃ a : Nat, x = ((r, (a : Int), (r.size : Int), (i : Int), ()), ()) ∧ a < 10 ^ i ∧ (digAll r.data.toList = true → digsF a (r.data.toList.drop i) = digs r.data.toList) ∧ (digAll r.data.toList = digAll (r.data.toList.drop i))) → r.size - i < m →
        Tot (g_group_Number_9 N m x) fun o => Sum.elim (fun v => v.1.1) (fun v => v.1.1) o = (if digAll r.data.toList then (digs r.data.toList : Int) else 0) := by
      refine Tot.range r.size fun m i x hx hi rec => ?_
      obtain ⟨a, rfl, ha, hd, hall⟩ := hx
      rw [g_group_Number_9_succ]
      unfold s_group_Number_9
      by_cases hlt : i < r.size
      · have d0 : decide ((0 : Int) ≤ (i : Int)) = true := decide_eq_true (by omega)
        have d1 : decide ((i : Int) < ((r.size : Nat) : Int)) = true := decide_eq_true (by omega)
        have hi' : i < r.data.toList.length := by omega
        have hdr := List.drop_eq_getElem_cons hi'
        simp only [d0, d1, br_true, Int.toNat_natCast, at_lt hi', Option.bind_some, wi (i := i) (by omega)]
        rw [hdr] at hd hall
        generalize r.data.toList[i] = b at *
        have hb := b.toNat_lt
        have hcons : digAll (b :: r.data.toList.drop (i + 1)) = ((decide (48 ≤ b.toNat) && decide (b.toNat ≤ 57)) && digAll (r.data.toList.drop (i + 1))) := by unfold digAll; rw [List.all_cons]
        by_cases c1 : b.toNat < 48
        · have e1 : decide (((b.toNat : Nat) : Int) < 48) = true := decide_eq_true (by omega)
          rw [decide_eq_false (show ¬ 48 ≤ b.toNat by omega), Bool.false_and, Bool.false_and] at hcons
          simp only [e1, br_true]
          exact Tot.some (by rw [hall, hcons]; rfl)
        · have e1 : decide (((b.toNat : Nat) : Int) < 48) = false := decide_eq_false (by omega)
          by_cases c2 : 57 < b.toNat
          · have e2 : decide ((57 : Int) < ((b.toNat : Nat) : Int)) = true := decide_eq_true (by omega)
            rw [decide_eq_false (show ¬ b.toNat ≤ 57 by omega), Bool.and_false, Bool.false_and] at hcons
            simp only [e1, e2, br_true, br_false]
            exact Tot.some (by rw [hall, hcons]; rfl)
          · have e2 : decide ((57 : Int) < ((b.toNat : Nat) : Int)) = false := decide_eq_false (by omega)
            have hp : 10 ^ i ≤ 10 ^ 8 := Nat.pow_le_pow_right (by omega) (by omega)
            have w1 : IntKind.wrap IntKind.u8 (((b.toNat : Nat) : Int) - 48) = ((b.toNat - 48 : Nat) : Int) := by rw [wu8 (by omega) (by omega)]; omega
            have w2 : IntKind.i64.wrap ((b.toNat - 48 : Nat) : Int) = ((b.toNat - 48 : Nat) : Int) := w64 (by omega) (by omega)
            have w3 : IntKind.i64.wrap (10 * (a : Int)) = ((10 * a : Nat) : Int) := by rw [w64 (by omega) (by omega)]; omega
            have w4 : IntKind.i64.wrap (((10 * a : Nat) : Int) + ((b.toNat - 48 : Nat) : Int)) = ((10 * a + (b.toNat - 48) : Nat) : Int) := by rw [w64 (by omega) (by omega)]; omega
            rw [decide_eq_true (show 48 ≤ b.toNat by omega), decide_eq_true (show b.toNat ≤ 57 by omega), Bool.true_and, Bool.true_and] at hcons
            simp only [e1, e2, br_false, w1, w2, w3, w4]
            exact rec (i + 1) _ (by omega) (by omega) ⟨_, rfl, by rw [Nat.pow_succ]; omega, fun h => by rw [← hd h, digsF_cons], by rw [hall, hcons]⟩
      · have d1 : decide ((i : Int) < ((r.size : Nat) : Int)) = false := decide_eq_false (by omega)
        simp only [d1, br_false]
        rw [List.drop_eq_nil_of_le (by omega)] at hd hall
        have hall : digAll r.data.toList = true := hall
        exact Tot.some (by rw [if_pos hall, ← hd hall]; rfl)
    exact loop N 0 _ (by omega) ⟨0, rfl, by simp, fun h => rfl, rfl⟩ (by omega)
  have b1 : Nat.ble (g.1.size + (ByteArray.mk (List.toArray [45])).size) 140737488355328 = true := Nat.ble_eq_true_of_le (by show _ + 1 ≤ _; omega)
  unfold G_group_Number S_group_Number numL
  simp only [b1, br_true, hsz, Int.toNat_natCast, hh]
  by_cases c1 : name.size ≤ g.1.size + 1
  · rw [decide_eq_true (show ((name.size : Nat) : Int) ≤ ((g.1.size + 1 : Nat) : Int) by omega), br_true, if_pos (by omega)]; rfl
  rw [decide_eq_false (show ¬ ((name.size : Nat) : Int) ≤ ((g.1.size + 1 : Nat) : Int) by omega), br_false, if_neg (by omega)]
  have b2 : Nat.ble 0 (g.1.size + 1) = true := rfl
  have b3 : Nat.ble (g.1.size + 1) name.size = true := Nat.ble_eq_true_of_le (by omega)
  have b4 : Nat.ble name.size name.size = true := Nat.ble_eq_true_of_le (Nat.le_refl _)
  have hext : (name.extract 0 (g.1.size + 1)).data.toList = name.data.toList.take (g.1.size + 1) := by rw [ba_extract]; simp
  have hrest : (name.extract (g.1.size + 1) name.size).data.toList = name.data.toList.drop (g.1.size + 1) := by
    rw [ba_extract]
    exact List.take_of_length_le (by rw [List.length_drop]; omega)
  simp only [b2, b3, b4, Bool.and_true, br_true]
  by_cases c2 : name.data.toList.take (g.1.size + 1) = hdG g
  · have e2 : name.extract 0 (g.1.size + 1) = g.1 ++ ByteArray.mk (List.toArray [45]) := ba_ext (by rw [hext, hlst, c2])
    rw [decide_eq_true e2, Bool.not_true, br_false, if_neg (by simp [c2])]
    generalize hr : name.extract (g.1.size + 1) name.size = r at *
    have hrs : r.size = name.size - (g.1.size + 1) := by rw [← ba_size, hrest, List.length_drop, hnl]
    have hrl := ba_size r
    rw [← hrest]
    have h0 : (0 : Nat) < r.data.toList.length := by omega
    have hg0 : r.data.toList[(Int.toNat 0)]? = some r.data.toList[0] := at_lt h0
    rw [hg0, Option.bind_some]
    have hhead : r.data.toList.head? = some r.data.toList[0] := by rw [List.head?_eq_getElem?]; exact at_lt h0
    rw [hhead]
    generalize r.data.toList[0] = b0
    by_cases c3 : b0.toNat = 48
    · rw [decide_eq_true (show ((b0.toNat : Nat) : Int) = 48 by omega), br_true, if_pos (by rw [u8_eq (a := b0) (b := 48) c3])]; rfl
    · rw [decide_eq_false (show ¬ ((b0.toNat : Nat) : Int) = 48 by omega), br_false, if_neg (by intro h; simp only [Option.some.injEq] at h; exact c3 (by rw [h]; rfl)), hrl]
      by_cases c4 : 9 < r.size
      · rw [decide_eq_true (show (9 : Int) < ((r.size : Nat) : Int) by omega), br_true, if_pos c4]; rfl
      · rw [decide_eq_false (show ¬ (9 : Int) < ((r.size : Nat) : Int) by omega), br_false, if_neg c4]
        obtain ⟨o, e, ho⟩ := digits r (by omega)
        rw [e, Option.bind_some]
        have : (((if digAll r.data.toList = true then digs r.data.toList else 0 : Nat)) : Int) = (if digAll r.data.toList then (digs r.data.toList : Int) else 0) := by split <;> rfl
        rw [this, ← ho]
        cases o <;> rfl
  · have e2 : ¬ name.extract 0 (g.1.size + 1) = g.1 ++ ByteArray.mk (List.toArray [45]) := fun e => c2 (by rw [← hext, e, hlst])
    rw [decide_eq_false e2, Bool.not_false, br_true, if_pos c2]; rfl
end Go.Proofs.Ytiiiipdnodgkmaa.Gm
