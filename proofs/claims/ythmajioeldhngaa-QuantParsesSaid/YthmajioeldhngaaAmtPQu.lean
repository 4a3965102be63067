/- quant: a text's amount. -/
import Derived.Test.YthmajioeldhngaaAmtBQu
import Derived.Test.YthmajioeldhngaaQnuPQu
namespace Go.Proofs.Ythmajioeldhngaa.Qu
open Go Go.VI
set_option linter.unusedVariables false
set_option linter.unusedSimpArgs false
set_option maxRecDepth 100000

theorem bs_eq (s : ByteArray) : s = bs s.data.toList := ba_ext (by simp)
theorem bs_list (l : List UInt8) : (ByteArray.mk (List.toArray l)).data.toList = l := by simp
theorem bs_size (l : List UInt8) : (ByteArray.mk (List.toArray l)).size = l.length := by rw [← ba_size, bs_list]
theorem bs_ext (l : List UInt8) (i j : Nat) : (ByteArray.mk (List.toArray l)).extract i j = ByteArray.mk (List.toArray ((l.drop i).take (j - i))) := ba_ext (by rw [ba_extract, bs_list, bs_list])
theorem bs_app (a b : List UInt8) : ByteArray.mk (List.toArray a) ++ ByteArray.mk (List.toArray b) = ByteArray.mk (List.toArray (a ++ b)) := ba_ext (by rw [ba_append, bs_list, bs_list, bs_list])
theorem bs_inj {a b : List UInt8} : ByteArray.mk (List.toArray a) = ByteArray.mk (List.toArray b) ↔ a = b := by
  constructor
  · intro h; rw [← bs_list a, h, bs_list]
  · intro h; rw [h]

theorem quant_cut_is (N : Nat) (hN : Big N) (l : List UInt8) (hs : l.length ≤ 140737488355328) : G_quant_cut N (ByteArray.mk (List.toArray l), ()) = some (match cutL l with
    | none => (ByteArray.mk (List.toArray []), 0, ByteArray.mk (List.toArray []), (8 : Int), ())
    | some (w, p, r) => (ByteArray.mk (List.toArray w), (p : Int), ByteArray.mk (List.toArray r), 0, ())) := by
  have hok : okS (ByteArray.mk (List.toArray l)) := by unfold okS; rw [bs_size]; exact hs
  have hle := hdN_le l
  unfold G_quant_cut S_quant_cut cutL
  simp only [quant_head_is N hN hok, Option.bind_some, bs_list]
  by_cases h0 : hdN l = 0
  · rw [decide_eq_true (show ((hdN l : Nat) : Int) = 0 by omega), br_true, if_pos h0]
  rw [decide_eq_false (show ¬ ((hdN l : Nat) : Int) = 0 by omega), br_false, if_neg h0]
  have d0 : decide ((0 : Int) ≤ ((hdN l : Nat) : Int)) = true := decide_eq_true (by omega)
  have b0 : Nat.ble 0 (hdN l) = true := Nat.ble_eq_true_of_le (by omega)
  have b1 : Nat.ble (hdN l) l.length = true := Nat.ble_eq_true_of_le hle
  have b2 : Nat.ble l.length l.length = true := Nat.ble_eq_true_of_le (Nat.le_refl _)
  have tk : (l.drop (hdN l)).take (l.length - hdN l) = l.drop (hdN l) := List.take_of_length_le (by rw [List.length_drop]; omega)
  simp only [d0, br_true, Int.toNat_natCast, bs_size, b0, b1, b2, Bool.and_true, Bool.and_self, bs_ext, List.drop_zero, Nat.sub_zero, tk, bs_list]
  by_cases he : l.drop (hdN l) = []
  · rw [decide_eq_true (bs_inj.2 he), br_true, he, if_neg (by simp)]; rfl
  rw [decide_eq_false (fun h => he (bs_inj.1 h)), br_false]
  obtain ⟨c, t, ec⟩ : ∃ c t, l.drop (hdN l) = c :: t := by
    cases h : l.drop (hdN l) with
    | nil => exact absurd h he
    | cons c t => exact ⟨c, t, rfl⟩
  have et : l.drop (hdN l + 1) = t := by rw [← List.drop_drop, ec]; rfl
  have etl : t.length ≤ l.length := by rw [← et, List.length_drop]; omega
  have eat : (c :: t)[Int.toNat 0]? = some c := rfl
  simp only [ec, eat, Option.bind_some, List.head?_cons, et]
  by_cases hc : c.toNat = 46
  · have hc' : c = 46 := u8_eq hc
    rw [decide_eq_true (show ((c.toNat : Nat) : Int) = 46 by omega), if_pos (by rw [hc'])]
    have b3 : Nat.ble (Int.toNat 1) (c :: t).length = true := Nat.ble_eq_true_of_le (by rw [List.length_cons]; show 1 ≤ _; omega)
    have b4 : Nat.ble (c :: t).length (c :: t).length = true := Nat.ble_eq_true_of_le (Nat.le_refl _)
    have e1 : ((c :: t).drop (Int.toNat 1)).take ((c :: t).length - Int.toNat 1) = t := List.take_of_length_le (by rw [List.length_drop]; exact Nat.le_refl _)
    have hok2 : okS (ByteArray.mk (List.toArray t)) := by unfold okS; rw [bs_size]; omega
    have hle2 := hdN_le t
    simp only [Bool.not_true, br_false, b3, b4, Bool.and_self, br_true, e1, quant_head_is N hN hok2, Option.bind_some, bs_list]
    by_cases k1 : hdN t < 1
    · rw [decide_eq_true (show ((hdN t : Nat) : Int) < 1 by omega), br_true, if_pos (.inl k1)]
    rw [decide_eq_false (show ¬ ((hdN t : Nat) : Int) < 1 by omega), br_false]
    by_cases k3 : 3 < hdN t
    · rw [decide_eq_true (show (3 : Int) < ((hdN t : Nat) : Int) by omega), br_true, if_pos (.inr k3)]
    rw [decide_eq_false (show ¬ (3 : Int) < ((hdN t : Nat) : Int) by omega), br_false, if_neg (by omega)]
    have w1 : IntKind.i64.wrap (1 + ((hdN t : Nat) : Int)) = ((1 + hdN t : Nat) : Int) := by rw [w64 (by omega) (by omega)]; omega
    have d1 : decide ((0 : Int) ≤ ((1 + hdN t : Nat) : Int)) = true := decide_eq_true (by omega)
    have b5 : Nat.ble (Int.toNat 1) (1 + hdN t) = true := Nat.ble_eq_true_of_le (by show 1 ≤ _; omega)
    have b6 : Nat.ble (1 + hdN t) (c :: t).length = true := Nat.ble_eq_true_of_le (by rw [List.length_cons]; omega)
    have e2 : ((c :: t).drop (Int.toNat 1)).take (1 + hdN t - Int.toNat 1) = t.take (hdN t) := by
      show t.take (1 + hdN t - 1) = _
      rw [show 1 + hdN t - 1 = hdN t by omega]
    have l2 : (t.take (hdN t)).length = hdN t := by rw [List.length_take]; omega
    have b7 : Nat.ble ((t.take (hdN t)).length + [48, 48].length) 140737488355328 = true := Nat.ble_eq_true_of_le (by rw [l2]; show _ + 2 ≤ _; omega)
    have b8 : Nat.ble 0 (Int.toNat 3) = true := rfl
    have b9 : Nat.ble (Int.toNat 3) (t.take (hdN t) ++ [48, 48]).length = true := Nat.ble_eq_true_of_le (by rw [List.length_append, l2]; show 3 ≤ _ + 2; omega)
    have hdt := digAll_take t
    have hv : digAll (((t.take (hdN t) ++ [48, 48])).take 3) = true := by
      rw [digAll_iff]
      intro b hb
      have hb := List.mem_of_mem_take hb
      rw [List.mem_append] at hb
      rcases hb with hb | hb
      · exact digAll_iff.1 hdt b hb
      · simp only [List.mem_cons, List.not_mem_nil, or_false, or_self] at hb
        subst hb
        exact ⟨by decide, by decide⟩
    have hok3 : okS (ByteArray.mk (List.toArray ((t.take (hdN t) ++ [48, 48]).take 3))) := by unfold okS; rw [bs_size, List.length_take]; omega
    have hlt := digs_lt _ ((t.take (hdN t) ++ [48, 48]).take 3) rfl (digAll_iff.1 hv)
    have hlen : ((t.take (hdN t) ++ [48, 48]).take 3).length = 3 := by rw [List.length_take, List.length_append, l2]; show min 3 (_ + 2) = 3; omega
    rw [hlen] at hlt
    have hq := quant_value_is N hN hok3 (by rw [bs_list]; exact hv) (most := 1000) (by omega) (by omega)
    rw [bs_list, if_pos (by omega)] at hq
    have hq : G_quant_value N (ByteArray.mk (List.toArray ((t.take (hdN t) ++ [48, 48]).take (Int.toNat 3))), (1000 : Int), ()) = _ := hq
    have e4 : ((c :: t).drop (1 + hdN t)).take ((c :: t).length - (1 + hdN t)) = l.drop (hdN l + 1 + hdN t) := by
      rw [List.take_of_length_le (by rw [List.length_drop]; exact Nat.le_refl _), show l.drop (hdN l + 1 + hdN t) = t.drop (hdN t) by rw [← List.drop_drop, et], Nat.add_comm]; rfl
    simp only [w1, d1, br_true, Int.toNat_natCast, b5, b6, Bool.and_self, e2, b7, bs_app, bs_size, bs_ext, List.drop_zero, Nat.sub_zero, b8, b9, hq, Option.bind_some, b4, e4, bs_list]
    exact (congrArg (fun b => br b _ _) b7).trans rfl
  · rw [decide_eq_false (show ¬ ((c.toNat : Nat) : Int) = 46 by omega), Bool.not_false, br_true, if_neg (fun h => hc (by simp only [Option.some.injEq] at h; rw [h]; rfl))]
    rfl

theorem quant_exact_is (N : Nat) (hN : Big N) (l : List UInt8) (hs : l.length ≤ 140737488355328) (hd : digAll l = true) {p u each : Nat} (hp : p < 1000) (he : 0 < each) (he' : each ≤ 1000000) :
    G_quant_exact N (ByteArray.mk (List.toArray l), (p : Int), (u : Int), (each : Int), ()) = some (decide ((digs l * 1000 + p) * u % each = 0), ()) := by
  have hN' := hN
  unfold Big at hN'
  have z : decide ((each : Int) = 0) = false := decide_eq_false (by omega)
  have hmod : ∀ x, x % each < each := fun x => Nat.mod_lt _ he
  have loop : ∀ m (i : Nat) x, i ≤ l.length → (x = ((ByteArray.mk (List.toArray l), (p : Int), (u : Int), (each : Int), ((digs (l.take i) % each : Nat) : Int), ((l.length : Nat) : Int), (i : Int), ()), ())) → l.length - i < m →
      Tot (g_quant_exact_3 N m x) fun o => ∃ y, o = .inl (((p : Int), (u : Int), (each : Int), ((digs l % each : Nat) : Int), ()), y) := by
    refine Tot.range l.length fun m i x hx hi rec => ?_
    subst hx
    rw [g_quant_exact_3_succ]
    unfold s_quant_exact_3
    by_cases hlt : i < l.length
    · have d0 : decide ((0 : Int) ≤ (i : Int)) = true := decide_eq_true (by omega)
      have d1 : decide ((i : Int) < ((l.length : Nat) : Int)) = true := decide_eq_true (by omega)
      have hb := isD_iff.1 (digAll_drop hd hlt)
      have hm := hmod (digs (l.take i))
      have hsn : digs (l.take (i + 1)) = 10 * digs (l.take i) + (l[i].toNat - 48) := by
        rw [List.take_add_one, List.getElem?_eq_getElem hlt, Option.toList_some, digs_snoc]
      have hnx : digs (l.take (i + 1)) % each = (10 * (digs (l.take i) % each) + (l[i].toNat - 48)) % each := by
        rw [hsn, Nat.add_mod (10 * digs (l.take i)), Nat.mul_mod 10, Nat.add_mod (10 * (digs (l.take i) % each)), Nat.mul_mod 10 (digs (l.take i) % each), Nat.mod_mod]
      simp only [d0, d1, br_true, Int.toNat_natCast, bs_list, at_lt hlt, Option.bind_some, wi (i := i) (by omega), z, br_false]
      generalize l[i] = b at *
      have w1 : IntKind.wrap IntKind.u8 (((b.toNat : Nat) : Int) - 48) = ((b.toNat - 48 : Nat) : Int) := by rw [wu8 (by omega) (by omega)]; omega
      have w2 : IntKind.i64.wrap ((b.toNat - 48 : Nat) : Int) = ((b.toNat - 48 : Nat) : Int) := w64 (by omega) (by omega)
      have w5 : IntKind.i64.wrap (10 * ((digs (l.take i) % each : Nat) : Int)) = ((10 * (digs (l.take i) % each) : Nat) : Int) := by rw [w64 (by omega) (by omega)]; omega
      have w6 : IntKind.i64.wrap (((10 * (digs (l.take i) % each) : Nat) : Int) + ((b.toNat - 48 : Nat) : Int)) = ((10 * (digs (l.take i) % each) + (b.toNat - 48) : Nat) : Int) := by rw [w64 (by omega) (by omega)]; omega
      simp only [w1, w2, w5, w6, tmodN]
      exact rec (i + 1) _ (by omega) (by omega) (by rw [hnx])
    · have d1 : decide ((i : Int) < ((l.length : Nat) : Int)) = false := decide_eq_false (by omega)
      simp only [d1, br_false]
      rw [List.take_of_length_le (by omega)]
      exact Tot.some ⟨_, rfl⟩
  obtain ⟨o, e, y, rfl⟩ := loop N 0 _ (by omega) rfl (by omega)
  have e : g_quant_exact_3 N N ((ByteArray.mk (List.toArray l), (p : Int), (u : Int), (each : Int), (((digs ([] : List UInt8)) % each : Nat) : Int), ((l.length : Nat) : Int), 0, ()), ()) = _ := e
  have e0 : (((digs ([] : List UInt8)) % each : Nat) : Int) = 0 := by show ((0 % each : Nat) : Int) = 0; rw [Nat.zero_mod]; rfl
  rw [e0] at e
  have e : g_quant_exact_3 N N ((ByteArray.mk (List.toArray l), (p : Int), (u : Int), (each : Int), 0, ((l.length : Nat) : Int), 0, ()), ()) = _ := e
  unfold G_quant_exact S_quant_exact
  simp only [bs_size, e, Option.bind_some, Sum.elim_inl, z, br_false]
  have hm := hmod (digs l)
  have w1 : IntKind.i64.wrap (((digs l % each : Nat) : Int) * 1000) = ((digs l % each * 1000 : Nat) : Int) := by rw [w64 (by omega) (by omega)]; omega
  have w2 : IntKind.i64.wrap (((digs l % each * 1000 : Nat) : Int) + (p : Int)) = ((digs l % each * 1000 + p : Nat) : Int) := by rw [w64 (by omega) (by omega)]; omega
  simp only [w1, w2, tmodN]
  have h1 := hmod (digs l % each * 1000 + p)
  have h2 := hmod u
  have hmul : (digs l % each * 1000 + p) % each * (u % each) ≤ 1000000 * 1000000 := Nat.mul_le_mul (by omega) (by omega)
  rw [← Int.natCast_mul, w64 (by omega) (by omega), tmodN]
  have hfin : (digs l % each * 1000 + p) % each * (u % each) % each = (digs l * 1000 + p) * u % each := by
    have h1 : (digs l % each * 1000 + p) % each = (digs l * 1000 + p) % each := by rw [Nat.add_mod, Nat.mul_mod, Nat.mod_mod, ← Nat.mul_mod, ← Nat.add_mod]
    rw [h1, ← Nat.mul_mod]
  rw [hfin]
  congr 2
  rw [decide_eq_decide]; omega
theorem wni {n : Nat} (h : n ≤ 9223372036854775807) : IntKind.i64.wrap (n : Int) = (n : Int) := w64 (by omega) (by omega)
theorem quant_whole_is (N : Nat) (hN : Big N) (l : List UInt8) (hs : l.length ≤ 140737488355328) (hd : digAll l = true) {p u each : Nat} (hp : p < 1000) (hu : u = 1 ∨ 1000 ≤ u) (hu' : u ≤ 1099511627776000)
    (he : each = 1000 ∨ each = 1000000) (hx : (digs l * 1000 + p) * u % each = 0) :
    ∃ q : Nat, ∃ b : Bool, G_quant_whole N (ByteArray.mk (List.toArray l), (p : Int), (u : Int), (each : Int), ()) = some ((q : Int), b, ()) ∧
      (if (digs l * 1000 + p) * u / each ≤ 1125899906842624 then b = true ∧ q = (digs l * 1000 + p) * u / each else b = false ∨ 1125899906842624 < q) := by
  have hN' := hN
  unfold Big at hN'
  have hok : okS (ByteArray.mk (List.toArray l)) := by unfold okS; rw [bs_size]; exact hs
  have h1 := quant_value_is N hN hok (by rw [bs_list]; exact hd) (most := 1125899906842624000) (by omega) (by omega)
  have h2 := quant_value_is N hN hok (by rw [bs_list]; exact hd) (most := 1125899906842624) (by omega) (by omega)
  rw [bs_list] at h1 h2
  have h1 : G_quant_value N (ByteArray.mk (List.toArray l), (1125899906842624000 : Int), ()) = _ := h1
  have h2 : G_quant_value N (ByteArray.mk (List.toArray l), (1125899906842624 : Int), ()) = _ := h2
  unfold G_quant_whole S_quant_whole
  by_cases u1 : u = 1
  · subst u1
    rw [decide_eq_true (show ((1 : Nat) : Int) = 1 from rfl), br_true]
    rw [Nat.mul_one] at hx ⊢
    have t1 : IntKind.i64.wrap (Int.tdiv (each : Int) 1000) = ((each / 1000 : Nat) : Int) := by
      rw [show Int.tdiv (each : Int) 1000 = ((each / 1000 : Nat) : Int) from tdivN each 1000, w64 (by omega) (by omega)]
    have z : decide (((each / 1000 : Nat) : Int) = 0) = false := decide_eq_false (by rcases he with rfl | rfl <;> decide)
    simp only [h1, Option.bind_some, t1, z, br_false]
    by_cases c : digs l ≤ 1125899906842624000
    · rw [if_pos c]
      dsimp only
      rw [tdivN, wni (Nat.le_trans (Nat.div_le_self _ _) (by omega))]
      refine ⟨_, _, rfl, ?_⟩
      have e : digs l / (each / 1000) = (digs l * 1000 + p) / each := by
        rcases he with rfl | rfl
        · show digs l / 1 = _; omega
        · show digs l / 1000 = _; omega
      rw [e]
      split
      · exact ⟨rfl, rfl⟩
      · right; omega
    · rw [if_neg c]
      dsimp only
      refine ⟨0, false, ?_, ?_⟩
      · rw [show Int.tdiv 0 ((each / 1000 : Nat) : Int) = ((0 / (each / 1000) : Nat) : Int) from tdivN 0 _, Nat.zero_div]; rfl
      · rw [if_neg (by rcases he with rfl | rfl <;> omega)]; exact .inl rfl
  · rw [decide_eq_false (show ¬ (u : Int) = 1 by omega), br_false]
    simp only [h2, Option.bind_some]
    have wU : IntKind.wrap IntKind.u64 (u : Int) = (u : Int) := wn64 (by omega)
    have wE : IntKind.wrap IntKind.u64 (each : Int) = (each : Int) := wn64 (by omega)
    by_cases c : digs l ≤ 1125899906842624
    · rw [if_pos c]
      dsimp only
      have w1 : IntKind.i64.wrap ((digs l : Int) * 1000) = ((digs l * 1000 : Nat) : Int) := by rw [w64 (by omega) (by omega)]; omega
      have w2 : IntKind.i64.wrap (((digs l * 1000 : Nat) : Int) + (p : Int)) = ((digs l * 1000 + p : Nat) : Int) := by rw [w64 (by omega) (by omega)]; omega
      have w3 : IntKind.wrap IntKind.u64 ((digs l * 1000 + p : Nat) : Int) = ((digs l * 1000 + p : Nat) : Int) := wn64 (by omega)
      simp only [w1, w2, w3, wU, wE, Mul64_is N (x := digs l * 1000 + p) (y := u) (by omega) (by omega), Option.bind_some, Bool.not_true, br_false]
      generalize (digs l * 1000 + p) * u = X at *
      by_cases g : each ≤ X / 18446744073709551616
      · rw [decide_eq_true (show (each : Int) ≤ ((X / 18446744073709551616 : Nat) : Int) by omega), br_true]
        refine ⟨0, false, rfl, ?_⟩
        rw [if_neg (by rcases he with rfl | rfl <;> omega)]; exact .inl rfl
      · rw [decide_eq_false (show ¬ (each : Int) ≤ ((X / 18446744073709551616 : Nat) : Int) by omega), br_false]
        have hdiv : ∃ r, G_math_bits_Div64 N (((X / 18446744073709551616 : Nat) : Int), ((X % 18446744073709551616 : Nat) : Int), (each : Int), ()) = some (((X / each : Nat) : Int), r, ()) := by
          have e : X / 18446744073709551616 * 18446744073709551616 + X % 18446744073709551616 = X := by omega
          rcases he with rfl | rfl
          · have := Div64_1000 N hN (X / 18446744073709551616) (X % 18446744073709551616) (by omega) (by omega)
            rw [e] at this; exact this
          · have := Div64_1000000 N hN (X / 18446744073709551616) (X % 18446744073709551616) (by omega) (by omega)
            rw [e] at this; exact this
        obtain ⟨r, hr⟩ := hdiv
        have m1 : ∀ q : Nat, List.foldl Min.min (q : Int) [(1125899906842625 : Int)] = ((min q 1125899906842625 : Nat) : Int) := fun q => by rw [List.foldl_cons, List.foldl_nil]; omega
        have w4 : ∀ q : Nat, IntKind.i64.wrap ((min q 1125899906842625 : Nat) : Int) = ((min q 1125899906842625 : Nat) : Int) := fun q => w64 (by omega) (by omega)
        simp only [hr, Option.bind_some, m1, w4]
        refine ⟨_, _, rfl, ?_⟩
        split
        · exact ⟨rfl, by omega⟩
        · right; omega
    · rw [if_neg c]
      dsimp only
      have w1 : IntKind.i64.wrap ((0 : Int) * 1000) = 0 := rfl
      have w2 : IntKind.i64.wrap ((0 : Int) + (p : Int)) = (p : Int) := by rw [w64 (by omega) (by omega)]; omega
      have w3 : IntKind.wrap IntKind.u64 (p : Int) = (p : Int) := wn64 (by omega)
      simp only [w1, w2, w3, wU, wE, Mul64_is N (x := p) (y := u) (by omega) (by omega), Option.bind_some, Bool.not_false, br_true]
      refine ⟨0, false, rfl, ?_⟩
      have hmul : (digs l * 1000) * 1000 ≤ (digs l * 1000 + p) * u := Nat.mul_le_mul (by omega) (by omega)
      generalize (digs l * 1000 + p) * u = X at *
      rw [if_neg (by rcases he with rfl | rfl <;> omega)]; exact .inl rfl
end Go.Proofs.Ythmajioeldhngaa.Qu
