/- QuantZeros: what the law computes is true. -/
import Derived.Test.YthmajioeldhngaaAmtQQu
namespace Go.Proofs.Ythmajioeldhngaa.Qu
open Go Go.VI
set_option linter.unusedVariables false
set_option linter.unusedSimpArgs false
set_option maxRecDepth 100000

theorem known_is (m : Nat) : G_law03_known (m + 300) () = some (true, ()) := by kernel_rfl
theorem pureQuantZeros (x : ByteArray × Unit) (hw : Ty.wf .str x.1 ∧ True) : ∃ N, G_law03_QuantZeros N x = some (true, ()) := by
  obtain ⟨s, ⟨⟩⟩ := x
  clear hw
  refine ⟨281474976710656 + 300, ?_⟩
  have hk := known_is 281474976710656
  have hN := big
  have hP := quant_Parse_is 281474976710656 hN
  have hM := quant_Milli_is 281474976710656 hN
  generalize 281474976710656 + 300 = N at *
  unfold G_law03_QuantZeros S_law03_QuantZeros
  obtain ⟨l, rfl⟩ : ∃ l, s = ByteArray.mk (List.toArray l) := ⟨_, bs_eq s⟩
  simp only [hk, Option.bind_some, bs_size, bs_list, bs_app]
  by_cases c0 : 300 < l.length
  · rw [decide_eq_true (show (300 : Int) < ((l.length : Nat) : Int) by omega), br_true]
  rw [decide_eq_false (show ¬ (300 : Int) < ((l.length : Nat) : Int) by omega), br_false]
  cases l with
  | nil => rfl
  | cons b l =>
    have e0 : (b :: l)[Int.toNat 0]? = some b := rfl
    rw [decide_eq_false (show ¬ (((b :: l).length : Nat) : Int) = 0 by rw [List.length_cons]; omega), br_false, e0, Option.bind_some]
    by_cases c1 : b.toNat < 48
    · rw [decide_eq_true (show ((b.toNat : Nat) : Int) < 48 by omega), br_true]
    rw [decide_eq_false (show ¬ ((b.toNat : Nat) : Int) < 48 by omega), br_false, Option.bind_some]
    by_cases c2 : 57 < b.toNat
    · rw [decide_eq_true (show (57 : Int) < ((b.toNat : Nat) : Int) by omega), br_true]
    rw [decide_eq_false (show ¬ (57 : Int) < ((b.toNat : Nat) : Int) by omega), br_false]
    have hd : isD b = true := isD_iff.2 ⟨by omega, by omega⟩
    have hh : hdN (b :: l) ≠ 0 := by rw [hdN_cons, if_pos hd]; omega
    have hh2 : hdN (48 :: b :: l) ≠ 0 := by rw [hdN_cons]; rw [if_pos (by rfl)]; omega
    have hne : b :: l ≠ [] := by simp
    have hlen : (b :: l).length ≤ 300 := by omega
    generalize b :: l = t at *
    have n1 := quant_Number_is N hN (s := ByteArray.mk (List.toArray t)) (by unfold okS; rw [bs_size]; omega)
    have n2 := quant_Number_is N hN (s := ByteArray.mk (List.toArray (48 :: t))) (by unfold okS; rw [bs_size, List.length_cons]; omega)
    unfold numQ at n1 n2
    rw [bs_list] at n1 n2
    rw [qnum_zero _ hne] at n2
    have p1 := hP t (by omega)
    have p2 := hP (48 :: t) (by rw [List.length_cons]; omega)
    rw [amtL_zero _ hh] at p2
    have m1 := hM t (by omega)
    have m2 := hM (48 :: 48 :: t) (by rw [List.length_cons, List.length_cons]; omega)
    rw [amtL_zero _ hh2, amtL_zero _ hh] at m2
    have b1 : Nat.ble ([(48 : UInt8)].length + t.length) 140737488355328 = true := Nat.ble_eq_true_of_le (by show 1 + _ ≤ _; omega)
    have b2 : Nat.ble ([(48 : UInt8), 48].length + t.length) 140737488355328 = true := Nat.ble_eq_true_of_le (by show 2 + _ ≤ _; omega)
    have a1 : [(48 : UInt8)] ++ t = 48 :: t := rfl
    have a2 : [(48 : UInt8), 48] ++ t = 48 :: 48 :: t := rfl
    rw [n1, Option.bind_some, b1, br_true, a1, n2, Option.bind_some, p1, Option.bind_some, br_true, p2, Option.bind_some, m1, Option.bind_some, b2, br_true, a2, m2, Option.bind_some]
    simp only [decide_true, br_true]
end Go.Proofs.Ythmajioeldhngaa.Qu
