/- The document: names with a number. -/
import Derived.Test.YtiiiipdnodgkmaaNumSGm
namespace Go.Proofs.Ytiiiipdnodgkmaa.Gm
open Go Go.VI
set_option linter.unusedVariables false
set_option linter.unusedSimpArgs false
set_option maxRecDepth 100000

theorem ref01_Digits_rec (N : Nat) : ∀ (k n m : Nat), 1 ≤ k → k ≤ 18 → n < 10 ^ k → k ≤ m → Gr_ref01_Digits N m ((n : Int), ()) = some (numS n, ())
  | 0, n, m, h, _, _, _ => by omega
  | k + 1, n, 0, _, _, _, h => by omega
  | k + 1, n, m + 1, _, hk, hn, hm => by
    have hbig : (10 : Nat) ^ (k + 1) ≤ 10 ^ 18 := Nat.pow_le_pow_right (by omega) hk
    show S_ref01_Digits (Gr_ref01_Digits N m) N _ = _
    unfold S_ref01_Digits
    by_cases h10 : n < 10
    · have d : decide ((n : Int) < 10) = true := decide_eq_true (by omega)
      simp only [d, br_true, ofBytes_one h10]
      congr 2
      exact ba_ext (by rw [numS_list, dec_lt h10])
    · have d : decide ((n : Int) < 10) = false := decide_eq_false (by omega)
      have t1 : Int.tdiv (n : Int) 10 = ((n / 10 : Nat) : Int) := by
        rw [show (10 : Int) = ((10 : Nat) : Int) from rfl, Int.ofNat_tdiv]
      have t2 : Int.tmod (n : Int) 10 = ((n % 10 : Nat) : Int) := by
        rw [show (10 : Int) = ((10 : Nat) : Int) from rfl, Int.ofNat_tmod]
      have w : IntKind.i64.wrap ((n / 10 : Nat) : Int) = ((n / 10 : Nat) : Int) := w64 (by omega) (by omega)
      have hk1 : 1 ≤ k := by
        cases k with
        | zero => simp at hn; omega
        | succ k => omega
      have ih := ref01_Digits_rec N k (n / 10) m hk1 (by omega) (by rw [Nat.pow_succ] at hn; omega) (by omega)
      have hl := dec_len k (n / 10) hk1 (by rw [Nat.pow_succ] at hn; omega)
      have hb : Nat.ble ((numS (n / 10)).size + (ByteArray.mk [UInt8.ofNat (48 + n % 10)].toArray).size) 140737488355328 = true := Nat.ble_eq_true_of_le (by
        rw [numS_size]
        show _ + 1 ≤ _
        omega)
      simp only [d, br_false, t1, t2, w, ih, Option.bind_some, ofBytes_one (n := n % 10) (by omega), hb, br_true]
      congr 2
      exact ba_ext (by rw [ba_append, numS_list, numS_list, dec_ge h10])
theorem ref01_Digits_is (N : Nat) (hN : Big N) {n : Nat} (h : n ≤ 999999999) : G_ref01_Digits N ((n : Int), ()) = some (numS n, ()) := by
  unfold Big at hN
  exact ref01_Digits_rec N 9 n N (by omega) (by omega) (by omega) (by omega)
theorem ref16_Machine_is (N : Nat) (hN : Big N) {g : Grp} (hg : litG g) (n : Int) : G_ref16_Machine N (g, n, ()) = some (machB g n, ()) := by
  obtain ⟨h1, h2, h3⟩ := hg
  unfold G_ref16_Machine S_ref16_Machine machB
  by_cases a : n < 1
  · simp only [decide_eq_true a, br_true, if_pos (show n < 1 ∨ 999999999 < n from .inl a)]; rfl
  · by_cases b : 999999999 < n
    · simp only [decide_eq_false a, decide_eq_true b, br_true, br_false, if_pos (show n < 1 ∨ 999999999 < n from .inr b)]; rfl
    · obtain ⟨k, rfl⟩ : ∃ k : Nat, n = (k : Int) := ⟨n.toNat, by omega⟩
      have hk : k ≤ 999999999 := by omega
      have hd := dec_len 9 k (by omega) (by omega)
      have b1 : Nat.ble (g.1.size + (ByteArray.mk (List.toArray [45])).size) 140737488355328 = true := Nat.ble_eq_true_of_le (by show _ + 1 ≤ _; omega)
      have b2 : Nat.ble ((g.1 ++ ByteArray.mk (List.toArray [45])).size + (numS k).size) 140737488355328 = true := Nat.ble_eq_true_of_le (by
        rw [ByteArray.size_append, numS_size]
        show _ + 1 + _ ≤ _; omega)
      have hno : ¬ ((k : Int) < 1 ∨ 999999999 < (k : Int)) := by omega
      simp only [decide_eq_false a, decide_eq_false b, br_false, b1, b2, br_true, ref01_Digits_is N hN hk, Option.bind_some, if_neg hno, Int.toNat_natCast]
      rfl
theorem ref16_Number_is (N : Nat) (hN : Big N) {g : Grp} (hg : litG g) {name : ByteArray} (hn : name.size ≤ 1000) : G_ref16_Number N (g, name, ()) = some ((numL (hdG g) name.data.toList : Int), ()) := by
  have hN' := hN
  unfold Big at hN'
  have hM := ref16_Machine_is N hN hg
  obtain ⟨h1, _⟩ := hg
  have hh : (hdG g).length = g.1.size + 1 := by unfold hdG; rw [List.length_append, ba_size]; rfl
  have hlst : (g.1 ++ ByteArray.mk (List.toArray [45])).data.toList = hdG g := by rw [ba_append]; rfl
  have hnl : name.data.toList.length = name.size := ba_size name
  have hr : ∀ rest : List UInt8, name.data.toList.drop (g.1.size + 1) = rest → g.1.size + 1 ≤ name.size → rest.length ≤ 9 → Tot (g_ref16_Number_6 N N ((name, 0, ((g.1.size + 1 : Nat) : Int), ()), (g, ()), ())) fun o =>
      if digAll rest = true then o = .inl ((name, (digs rest : Int), ()), (g, ()), ()) else ∃ y, o = .inr ((0, ()), y) := by
    intro rest hrest hle h9
    have hrl : rest.length = name.size - (g.1.size + 1) := by rw [← hrest, List.length_drop, hnl]
    have loop : ∀ m (i : Nat) x, i ≤ rest.length → (∃ a : Nat, x = ((name, (a : Int), ((g.1.size + 1 + i : Nat) : Int), ()), (g, ()), ()) ∧ a < 10 ^ i ∧ (digAll rest = true → digsF a (rest.drop i) = digs rest) ∧ (digAll rest = digAll (rest.drop i))) → rest.length - i < m →
        Tot (g_ref16_Number_6 N m x) fun o => if digAll rest = true then o = .inl ((name, (digs rest : Int), ()), (g, ()), ()) else ∃ y, o = .inr ((0, ()), y) := by
      refine Tot.range rest.length fun m i x hx hi rec => ?_
      obtain ⟨a, rfl, ha, hd, hall⟩ := hx
      rw [g_ref16_Number_6_succ]
      unfold s_ref16_Number_6
      by_cases hlt : i < rest.length
      · have d0 : decide ((0 : Int) ≤ ((g.1.size + 1 + i : Nat) : Int)) = true := decide_eq_true (by omega)
        have d1 : decide (((g.1.size + 1 + i : Nat) : Int) < ((name.size : Nat) : Int)) = true := decide_eq_true (by omega)
        have hg : name.data.toList[g.1.size + 1 + i]? = some rest[i] := by
          have : ∀ j, name.data.toList[g.1.size + 1 + j]? = rest[j]? := fun j => by rw [← hrest, List.getElem?_drop]
          rw [this i]; exact at_lt hlt
        have hdr := List.drop_eq_getElem_cons hlt
        simp only [d0, d1, br_true, Int.toNat_natCast, hg, Option.bind_some, wi (i := g.1.size + 1 + i) (by omega)]
        rw [hdr] at hd hall
        generalize rest[i] = b at *
        have hb := b.toNat_lt
        have hcons : digAll (b :: rest.drop (i + 1)) = ((decide (48 ≤ b.toNat) && decide (b.toNat ≤ 57)) && digAll (rest.drop (i + 1))) := by unfold digAll; rw [List.all_cons]
        by_cases c1 : b.toNat < 48
        · have e1 : decide (((b.toNat : Nat) : Int) < 48) = true := decide_eq_true (by omega)
          rw [decide_eq_false (show ¬ 48 ≤ b.toNat by omega), Bool.false_and, Bool.false_and] at hcons
          simp only [e1, br_true]
          exact Tot.some (by rw [hall, hcons, if_neg (by decide)]; exact ⟨_, rfl⟩)
        · have e1 : decide (((b.toNat : Nat) : Int) < 48) = false := decide_eq_false (by omega)
          by_cases c2 : 57 < b.toNat
          · have e2 : decide ((57 : Int) < ((b.toNat : Nat) : Int)) = true := decide_eq_true (by omega)
            rw [decide_eq_false (show ¬ b.toNat ≤ 57 by omega), Bool.and_false, Bool.false_and] at hcons
            simp only [e1, e2, br_true, br_false]
            exact Tot.some (by rw [hall, hcons, if_neg (by decide)]; exact ⟨_, rfl⟩)
          · have e2 : decide ((57 : Int) < ((b.toNat : Nat) : Int)) = false := decide_eq_false (by omega)
            have hp : 10 ^ i ≤ 10 ^ 8 := Nat.pow_le_pow_right (by omega) (by omega)
            have w1 : IntKind.wrap IntKind.u8 (((b.toNat : Nat) : Int) - 48) = ((b.toNat - 48 : Nat) : Int) := by rw [wu8 (by omega) (by omega)]; omega
            have w2 : IntKind.i64.wrap ((b.toNat - 48 : Nat) : Int) = ((b.toNat - 48 : Nat) : Int) := w64 (by omega) (by omega)
            have w3 : IntKind.i64.wrap (10 * (a : Int)) = ((10 * a : Nat) : Int) := by rw [w64 (by omega) (by omega)]; omega
            have w4 : IntKind.i64.wrap (((10 * a : Nat) : Int) + ((b.toNat - 48 : Nat) : Int)) = ((10 * a + (b.toNat - 48) : Nat) : Int) := by rw [w64 (by omega) (by omega)]; omega
            rw [decide_eq_true (show 48 ≤ b.toNat by omega), decide_eq_true (show b.toNat ≤ 57 by omega), Bool.true_and, Bool.true_and] at hcons
            simp only [e1, e2, br_false, w1, w2, w3, w4]
            exact rec (i + 1) _ (by omega) (by omega) ⟨_, rfl, by rw [Nat.pow_succ]; omega, fun h => by rw [← hd h, digsF_cons], by rw [hall, hcons]⟩
      · have d1 : decide (((g.1.size + 1 + i : Nat) : Int) < ((name.size : Nat) : Int)) = false := decide_eq_false (by omega)
        simp only [d1, br_false]
        rw [List.drop_eq_nil_of_le (by omega)] at hd hall
        have hall : digAll rest = true := hall
        exact Tot.some (by rw [if_pos hall, ← hd hall]; rfl)
    exact loop N 0 _ (by omega) ⟨0, rfl, by simp, fun h => rfl, rfl⟩ (by omega)
  have w1 : IntKind.i64.wrap (((g.1.size : Nat) : Int) + 1) = ((g.1.size + 1 : Nat) : Int) := by rw [w64 (by omega) (by omega)]; omega
  have w2 : IntKind.i64.wrap (((g.1.size + 1 : Nat) : Int) + 9) = ((g.1.size + 10 : Nat) : Int) := by rw [w64 (by omega) (by omega)]; omega
  have d0 : decide ((0 : Int) ≤ ((g.1.size + 1 : Nat) : Int)) = true := decide_eq_true (by omega)
  have b1 : Nat.ble (g.1.size + (ByteArray.mk (List.toArray [45])).size) 140737488355328 = true := Nat.ble_eq_true_of_le (by show _ + 1 ≤ _; omega)
  unfold G_ref16_Number S_ref16_Number numL
  simp only [w1, w2, d0, b1, br_true, Int.toNat_natCast, hh]
  by_cases c1 : name.size ≤ g.1.size + 1
  · rw [decide_eq_true (show ((name.size : Nat) : Int) ≤ ((g.1.size + 1 : Nat) : Int) by omega), br_true, if_pos (by omega)]; rfl
  rw [decide_eq_false (show ¬ ((name.size : Nat) : Int) ≤ ((g.1.size + 1 : Nat) : Int) by omega), br_false, if_neg (by omega)]
  have b2 : Nat.ble 0 (g.1.size + 1) = true := rfl
  have b3 : Nat.ble (g.1.size + 1) name.size = true := Nat.ble_eq_true_of_le (by omega)
  have hext : (name.extract 0 (g.1.size + 1)).data.toList = name.data.toList.take (g.1.size + 1) := by rw [ba_extract]; simp
  generalize hrest : name.data.toList.drop (g.1.size + 1) = rest
  have hrl : rest.length = name.size - (g.1.size + 1) := by rw [← hrest, List.length_drop, hnl]
  by_cases c4 : g.1.size + 10 < name.size
  · rw [decide_eq_true (show ((g.1.size + 10 : Nat) : Int) < ((name.size : Nat) : Int) by omega), br_true]
    have : (if name.data.toList.take (g.1.size + 1) ≠ hdG g then 0 else if rest.head? = some 48 then 0 else if 9 < rest.length then 0 else if digAll rest = true then digs rest else 0) = 0 := by
      split
      · rfl
      split
      · rfl
      rw [if_pos (by omega)]
    rw [this]; rfl
  rw [decide_eq_false (show ¬ ((g.1.size + 10 : Nat) : Int) < ((name.size : Nat) : Int) by omega), br_false]
  simp only [b2, b3, Bool.and_true, br_true]
  by_cases c2 : name.data.toList.take (g.1.size + 1) = hdG g
  · have e2 : name.extract 0 (g.1.size + 1) = g.1 ++ ByteArray.mk (List.toArray [45]) := ba_ext (by rw [hext, hlst, c2])
    rw [decide_eq_true e2, Bool.not_true, br_false, if_neg (by simp [c2]), if_neg (show ¬ 9 < rest.length by omega)]
    obtain ⟨o, e, ho⟩ := hr rest hrest (by omega) (by omega)
    rw [e, Option.bind_some]
    by_cases hd : digAll rest = true
    · rw [if_pos hd] at ho
      subst ho
      rw [if_pos hd]
      simp only [Sum.elim_inl]
      have hlt := digs_lt _ rest rfl (digAll_iff.1 hd)
      have h9 : 10 ^ rest.length ≤ 10 ^ 9 := Nat.pow_le_pow_right (by omega) (by omega)
      by_cases hz : digs rest < 1
      · rw [decide_eq_true (show ((digs rest : Nat) : Int) < 1 by omega), br_true]
        have : (if rest.head? = some 48 then 0 else digs rest) = 0 := by split <;> omega
        rw [this]; rfl
      · rw [decide_eq_false (show ¬ ((digs rest : Nat) : Int) < 1 by omega), br_false]
        have hMn := hM (digs rest : Int)
        have hMn : G_ref16_Machine N ((g.1, g.2.1, g.2.2.1, (g.2.2.2.1.1, g.2.2.2.1.2.1, g.2.2.2.1.2.2.1, g.2.2.2.1.2.2.2.1, g.2.2.2.1.2.2.2.2.1, g.2.2.2.1.2.2.2.2.2), g.2.2.2.2), ((digs rest : Nat) : Int), ()) = _ := hMn
        rw [hMn, Option.bind_some]
        have hnm := nameM g (n := digs rest) (by omega) (by omega)
        have hname : name.data.toList = hdG g ++ rest := by rw [← List.take_append_drop (g.1.size + 1) name.data.toList, c2, hrest]
        by_cases hhd : rest.head? = some 48
        · rw [if_pos hhd]
          have hne : ¬ (machB g ((digs rest : Nat) : Int)).1 = name := fun e => by
            rw [e, hname] at hnm
            have hdec : rest = dec (digs rest) := List.append_cancel_left hnm
            obtain ⟨b, l, e1, hb⟩ := dec_head (n := digs rest) (by omega)
            rw [hdec, e1] at hhd
            simp only [List.head?_cons, Option.some.injEq] at hhd
            exact hb (by rw [hhd]; rfl)
          rw [decide_eq_false hne]; rfl
        · rw [if_neg hhd]
          have heq : (machB g ((digs rest : Nat) : Int)).1 = name := ba_ext (by
            rw [hnm, hname]
            congr 1
            cases hc : rest with
            | nil => rw [hc] at hrl; simp at hrl; omega
            | cons b r => exact dec_digs _ (b :: r) rfl (by rw [← hc]; exact digAll_iff.1 hd) ⟨b, r, rfl, fun hb => hhd (by rw [hc]; simp only [List.head?_cons, Option.some.injEq]; exact u8_eq hb)⟩)
          rw [decide_eq_true heq]; rfl
    · rw [if_neg hd] at ho
      obtain ⟨y, rfl⟩ := ho
      rw [if_neg hd]
      have : (if rest.head? = some 48 then 0 else 0) = (0 : Nat) := by split <;> rfl
      rw [this]; rfl
  · have e2 : ¬ name.extract 0 (g.1.size + 1) = g.1 ++ ByteArray.mk (List.toArray [45]) := fun e => c2 (by rw [← hext, e, hlst])
    rw [decide_eq_false e2, Bool.not_false, br_true, if_pos c2]; rfl
end Go.Proofs.Ytiiiipdnodgkmaa.Gm
