/- The document: a text's amount, put together. -/
import Derived.Test.YthmajioeldhngaaAmtFQu
namespace Go.VI
set_option linter.unusedVariables false
set_option linter.unusedSimpArgs false

abbrev outX (each X : Nat) : Int × Int := if X % each = 0 then (if X / each ≤ 1125899906842624 then (((X / each : Nat) : Int), (0 : Int)) else (0, 10)) else (0, 8)
theorem amtC_fin (each : Nat) (w pt r : List UInt8) (h3 : pt.length = 3) : amtC each (some (w, digs pt, r)) = if unitL r = 0 then (0, 9) else outX each (digs (w ++ pt) * unitL r) := by
  unfold amtC outX
  dsimp only
  rw [digs_append, h3]
end Go.VI
namespace Go.Proofs.Ythmajioeldhngaa.Qu
open Go Go.VI
set_option linter.unusedVariables false
set_option linter.unusedSimpArgs false
set_option maxRecDepth 100000

theorem ref03_amount_is (N : Nat) (hN : Big N) (l : List UInt8) (hs : l.length ≤ 10000) {last each : Nat} (hL : last ≤ 6) (he : each = 10 ^ last) : G_ref03_amount N (ByteArray.mk (List.toArray l), (last : Int), ()) = some ((amtL each l).1, (amtL each l).2, ()) := by
  have hok : okS (ByteArray.mk (List.toArray l)) := by unfold okS; rw [bs_size]; omega
  have hle := hdN_le l
  have hdw := digAll_take l
  have hwl : (l.take (hdN l)).length ≤ 10000 := by rw [List.length_take]; omega
  have pz : ∀ r : List UInt8, digAll (l.take (hdN l) ++ [48, 48, 48]) = true := fun r => by
    rw [digAll_iff]; intro b hb
    rw [List.mem_append] at hb
    rcases hb with hb | hb
    · exact digAll_iff.1 hdw b hb
    · have : b = 48 := by simpa using hb
      subst this; exact ⟨by decide, by decide⟩
  unfold G_ref03_amount S_ref03_amount amtL cutL
  simp only [ref03_digits_is N hN hok, Option.bind_some, bs_list]
  by_cases h0 : hdN l = 0
  · rw [decide_eq_true (show ((hdN l : Nat) : Int) = 0 by omega), br_true, if_pos h0]; rfl
  rw [decide_eq_false (show ¬ ((hdN l : Nat) : Int) = 0 by omega), br_false, if_neg h0]
  have d0 : decide ((0 : Int) ≤ ((hdN l : Nat) : Int)) = true := decide_eq_true (by omega)
  have b0 : Nat.ble 0 (hdN l) = true := Nat.ble_eq_true_of_le (by omega)
  have b1 : Nat.ble (hdN l) l.length = true := Nat.ble_eq_true_of_le hle
  have b2 : Nat.ble l.length l.length = true := Nat.ble_eq_true_of_le (Nat.le_refl _)
  have tk : (l.drop (hdN l)).take (l.length - hdN l) = l.drop (hdN l) := List.take_of_length_le (by rw [List.length_drop]; omega)
  have bz1 : Nat.ble (([] : List UInt8).length + [(48 : UInt8), 48, 48].length) 140737488355328 = true := rfl
  have bz2 : (Nat.ble 0 (Int.toNat 3)).and (Nat.ble (Int.toNat 3) ([] ++ [(48 : UInt8), 48, 48]).length) = true := rfl
  have bz3 : ([] ++ [(48 : UInt8), 48, 48]).take (Int.toNat 3) = [48, 48, 48] := rfl
  have bz4 : Nat.ble ((l.take (hdN l)).length + [(48 : UInt8), 48, 48].length) 140737488355328 = true := Nat.ble_eq_true_of_le (by show _ + 3 ≤ _; omega)
  have plain : amtC each (some (l.take (hdN l), 0, l.drop (hdN l))) = if unitL (l.drop (hdN l)) = 0 then (0, 9) else outX each (digs (l.take (hdN l) ++ [48, 48, 48]) * unitL (l.drop (hdN l))) := amtC_fin each _ [48, 48, 48] _ rfl
  have tail0 := refTail N hN (l.take (hdN l) ++ [48, 48, 48]) (by rw [List.length_append]; show _ + 3 ≤ _; omega) (pz []) (unitL (l.drop (hdN l))) last each (unitL_le _) hL he
  simp only [d0, br_true, Int.toNat_natCast, bs_size, b0, b1, b2, Bool.and_true, Bool.and_self, bs_ext, List.drop_zero, Nat.sub_zero, tk, bs_list]
  by_cases hx : l.drop (hdN l) = []
  · rw [decide_eq_false (show ¬ (0 : Int) < (((l.drop (hdN l)).length : Nat) : Int) by rw [hx]; decide), br_false, if_neg (by rw [hx]; simp), plain]
    rw [ref03_unit_is, Option.bind_some]
    dsimp only
    by_cases hu : unitL (l.drop (hdN l)) = 0
    · rw [decide_eq_true (show ((unitL (l.drop (hdN l)) : Nat) : Int) = 0 by omega), br_true, if_pos hu]
    · rw [decide_eq_false (show ¬ ((unitL (l.drop (hdN l)) : Nat) : Int) = 0 by omega), br_false, if_neg hu]
      simp only [bs_app, bs_size, bs_ext, List.drop_zero, Nat.sub_zero, bz1, bz2, bz3, bz4, br_true]
      simp only [bs_app, bs_size, bs_ext, List.drop_zero, Nat.sub_zero] at tail0
      exact tail0
  obtain ⟨c, t, ec⟩ : ∃ c t, l.drop (hdN l) = c :: t := by
    cases h : l.drop (hdN l) with
    | nil => exact absurd h hx
    | cons c t => exact ⟨c, t, rfl⟩
  have et : l.drop (hdN l + 1) = t := by rw [← List.drop_drop, ec]; rfl
  have etl : t.length ≤ l.length := by rw [← et, List.length_drop]; omega
  have eat : (c :: t)[Int.toNat 0]? = some c := rfl
  rw [ec] at plain tail0
  simp only [ec, eat, Option.bind_some, List.head?_cons, et]
  rw [decide_eq_true (show (0 : Int) < (((c :: t).length : Nat) : Int) by rw [List.length_cons]; omega), br_true]
  by_cases hc : c.toNat = 46
  · have hc' : c = 46 := u8_eq hc
    rw [decide_eq_true (show ((c.toNat : Nat) : Int) = 46 by omega), br_true, if_pos (by rw [hc'])]
    have b3 : Nat.ble (Int.toNat 1) (c :: t).length = true := Nat.ble_eq_true_of_le (by rw [List.length_cons]; show 1 ≤ _; omega)
    have b4 : Nat.ble (c :: t).length (c :: t).length = true := Nat.ble_eq_true_of_le (Nat.le_refl _)
    have e1 : ((c :: t).drop (Int.toNat 1)).take ((c :: t).length - Int.toNat 1) = t := List.take_of_length_le (by rw [List.length_drop]; exact Nat.le_refl _)
    have hok2 : okS (ByteArray.mk (List.toArray t)) := by unfold okS; rw [bs_size]; omega
    have hle2 := hdN_le t
    simp only [br_false, b3, b4, Bool.and_self, br_true, e1, ref03_digits_is N hN hok2, Option.bind_some, bs_list]
    by_cases k1 : hdN t < 1
    · rw [decide_eq_true (show ((hdN t : Nat) : Int) < 1 by omega), br_true, if_pos (.inl k1)]; rfl
    rw [decide_eq_false (show ¬ ((hdN t : Nat) : Int) < 1 by omega), br_false]
    by_cases k3 : 3 < hdN t
    · rw [decide_eq_true (show (3 : Int) < ((hdN t : Nat) : Int) by omega), br_true, if_pos (.inr k3)]; rfl
    rw [decide_eq_false (show ¬ (3 : Int) < ((hdN t : Nat) : Int) by omega), br_false, if_neg (by omega)]
    have w1 : IntKind.i64.wrap (1 + ((hdN t : Nat) : Int)) = ((1 + hdN t : Nat) : Int) := by rw [w64 (by omega) (by omega)]; omega
    have d1 : decide ((0 : Int) ≤ ((1 + hdN t : Nat) : Int)) = true := decide_eq_true (by omega)
    have b5 : Nat.ble (Int.toNat 1) (1 + hdN t) = true := Nat.ble_eq_true_of_le (by show 1 ≤ _; omega)
    have b6 : Nat.ble (1 + hdN t) (c :: t).length = true := Nat.ble_eq_true_of_le (by rw [List.length_cons]; omega)
    have e2 : ((c :: t).drop (Int.toNat 1)).take (1 + hdN t - Int.toNat 1) = t.take (hdN t) := by
      show t.take (1 + hdN t - 1) = _
      rw [show 1 + hdN t - 1 = hdN t by omega]
    have l2 : (t.take (hdN t)).length = hdN t := by rw [List.length_take]; omega
    have hpt : (t.take (hdN t) ++ [48, 48, 48]).take 3 = (t.take (hdN t) ++ [(48 : UInt8), 48]).take 3 := by
      rw [show t.take (hdN t) ++ [48, 48, 48] = (t.take (hdN t) ++ [(48 : UInt8), 48]) ++ [48] by simp]
      exact List.take_append_of_le_length (by rw [List.length_append, l2]; show 3 ≤ _ + 2; omega)
    have h3 : ((t.take (hdN t) ++ [(48 : UInt8), 48]).take 3).length = 3 := by rw [List.length_take, List.length_append, l2]; show min 3 (_ + 2) = 3; omega
    have e4 : ((c :: t).drop (1 + hdN t)).take ((c :: t).length - (1 + hdN t)) = l.drop (hdN l + 1 + hdN t) := by
      rw [List.take_of_length_le (by rw [List.length_drop]; exact Nat.le_refl _), show l.drop (hdN l + 1 + hdN t) = t.drop (hdN t) by rw [← List.drop_drop, et], Nat.add_comm]; rfl
    have hdt := digAll_take t
    have hv : digAll (l.take (hdN l) ++ (t.take (hdN t) ++ [(48 : UInt8), 48]).take 3) = true := by
      rw [digAll_iff]
      intro b hb
      rw [List.mem_append] at hb
      rcases hb with hb | hb
      · exact digAll_iff.1 hdw b hb
      have hb := List.mem_of_mem_take hb
      rw [List.mem_append] at hb
      rcases hb with hb | hb
      · exact digAll_iff.1 hdt b hb
      · simp only [List.mem_cons, List.not_mem_nil, or_false, or_self] at hb
        subst hb
        exact ⟨by decide, by decide⟩
    have tail1 := refTail N hN (l.take (hdN l) ++ (t.take (hdN t) ++ [(48 : UInt8), 48]).take 3) (by rw [List.length_append, h3]; omega) hv (unitL (l.drop (hdN l + 1 + hdN t))) last each (unitL_le _) hL he
    have b7 : Nat.ble ((t.take (hdN t)).length + [(48 : UInt8), 48, 48].length) 140737488355328 = true := Nat.ble_eq_true_of_le (by rw [l2]; show _ + 3 ≤ _; omega)
    have b9 : (Nat.ble 0 (Int.toNat 3)).and (Nat.ble (Int.toNat 3) (t.take (hdN t) ++ [(48 : UInt8), 48, 48]).length) = true := by
      rw [Nat.ble_eq_true_of_le (show Int.toNat 3 ≤ (t.take (hdN t) ++ [(48 : UInt8), 48, 48]).length by rw [List.length_append, l2]; show 3 ≤ _ + 3; omega)]; rfl
    have b10 : Nat.ble ((l.take (hdN l)).length + ((t.take (hdN t) ++ [(48 : UInt8), 48]).take 3).length) 140737488355328 = true := Nat.ble_eq_true_of_le (by rw [h3]; omega)
    have hpt' : (t.take (hdN t) ++ [48, 48, 48]).take (Int.toNat 3) = (t.take (hdN t) ++ [(48 : UInt8), 48]).take 3 := hpt
    rw [amtC_fin each _ _ _ h3]
    simp only [w1, d1, br_true, Int.toNat_natCast, b5, b6, Bool.and_self, e2, b4, e4, ref03_unit_is, Option.bind_some, bs_list]
    generalize hU : unitL (l.drop (hdN l + 1 + hdN t)) = u at *
    by_cases hu : u = 0
    · rw [decide_eq_true (show (u : Int) = 0 by omega), br_true, if_pos hu]
    · rw [decide_eq_false (show ¬ (u : Int) = 0 by omega), br_false, if_neg hu]
      simp only [bs_app, bs_size, bs_ext, List.drop_zero, Nat.sub_zero, b7, b9, b10, hpt', br_true]
      simp only [bs_app, bs_size, bs_ext, List.drop_zero, Nat.sub_zero] at tail1
      exact tail1
  · rw [decide_eq_false (show ¬ ((c.toNat : Nat) : Int) = 46 by omega), br_false, if_neg (fun h => hc (by simp only [Option.some.injEq] at h; rw [h]; rfl)), plain]
    rw [ref03_unit_is, Option.bind_some]
    dsimp only
    generalize unitL (c :: t) = u at *
    by_cases hu : u = 0
    · rw [decide_eq_true (show (u : Int) = 0 by omega), br_true, if_pos hu]
    · rw [decide_eq_false (show ¬ (u : Int) = 0 by omega), br_false, if_neg hu]
      simp only [bs_app, bs_size, bs_ext, List.drop_zero, Nat.sub_zero, bz1, bz2, bz3, bz4, br_true]
      simp only [bs_app, bs_size, bs_ext, List.drop_zero, Nat.sub_zero] at tail0
      exact tail0
theorem ref03_Parse_is (N : Nat) (hN : Big N) (l : List UInt8) (hs : l.length ≤ 10000) : G_ref03_Parse N (ByteArray.mk (List.toArray l), ()) = some ((amtL 1000000 l).1, (amtL 1000000 l).2, ()) := by
  unfold G_ref03_Parse S_ref03_Parse
  have := ref03_amount_is N hN l hs (last := 6) (each := 1000000) (by omega) (by omega)
  have this : G_ref03_amount N (ByteArray.mk (List.toArray l), (6 : Int), ()) = _ := this
  rw [this, Option.bind_some]
theorem ref03_Milli_is (N : Nat) (hN : Big N) (l : List UInt8) (hs : l.length ≤ 10000) : G_ref03_Milli N (ByteArray.mk (List.toArray l), ()) = some ((amtL 1000 l).1, (amtL 1000 l).2, ()) := by
  unfold G_ref03_Milli S_ref03_Milli
  have := ref03_amount_is N hN l hs (last := 3) (each := 1000) (by omega) (by omega)
  have this : G_ref03_amount N (ByteArray.mk (List.toArray l), (3 : Int), ()) = _ := this
  rw [this, Option.bind_some]
end Go.Proofs.Ythmajioeldhngaa.Qu
