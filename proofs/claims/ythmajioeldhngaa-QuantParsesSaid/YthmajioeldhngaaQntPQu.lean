/- Amounts as text: the function and the document. -/
import Derived.Test.YthmajioeldhngaaDigQQu
namespace Go.Proofs.Ythmajioeldhngaa.Qu
open Go Go.VI
set_option linter.unusedVariables false
set_option linter.unusedSimpArgs false
set_option maxRecDepth 100000

def bKi : ByteArray := ByteArray.mk (List.toArray [75, 105])
def bMi : ByteArray := ByteArray.mk (List.toArray [77, 105])
def bGi : ByteArray := ByteArray.mk (List.toArray [71, 105])
def bTi : ByteArray := ByteArray.mk (List.toArray [84, 105])
def bm : ByteArray := ByteArray.mk (List.toArray [109])
def showQ (n : Nat) : ByteArray := if n = 0 then numS 0 else if n % 1099511627776 = 0 then numS (n / 1099511627776) ++ bTi else if n % 1073741824 = 0 then numS (n / 1073741824) ++ bGi
  else if n % 1048576 = 0 then numS (n / 1048576) ++ bMi else if n % 1024 = 0 then numS (n / 1024) ++ bKi else numS n
def showM (n : Nat) : ByteArray := if n % 1000 = 0 then numS (n / 1000) else numS n ++ bm
abbrev Nms := ByteArray × ByteArray × ByteArray × ByteArray × ByteArray
def nms : Nms := (ByteArray.mk (List.toArray []), bKi, bMi, bGi, bTi)
theorem tdivN (n m : Nat) : Int.tdiv (n : Int) (m : Int) = ((n / m : Nat) : Int) := Int.ofNat_tdiv n m
theorem tmodN (n m : Nat) : Int.tmod (n : Int) (m : Int) = ((n % m : Nat) : Int) := Int.ofNat_tmod n m
theorem show_step (N m n k : Nat) (hn : n ≤ 1125899906842624) (hk : k ≤ 4) : g_quant_Show_5 N (m + 1) (((n : Int), (k : Int), ()), (nms, ()), ()) =
    if 0 < n ∧ n % 1024 = 0 ∧ k < 4 then g_quant_Show_5 N m ((((n / 1024 : Nat) : Int), ((k + 1 : Nat) : Int), ()), (nms, ()), ()) else some (.inl (((n : Int), (k : Int), ()), (nms, ()), ())) := by
  rw [g_quant_Show_5_succ]
  unfold s_quant_Show_5
  have t1 : Int.tdiv (n : Int) 1024 = ((n / 1024 : Nat) : Int) := tdivN n 1024
  have t2 : Int.tmod (n : Int) 1024 = ((n % 1024 : Nat) : Int) := tmodN n 1024
  have w1 : IntKind.i64.wrap ((n / 1024 : Nat) : Int) = ((n / 1024 : Nat) : Int) := w64 (by omega) (by omega)
  simp only [t1, t2, w1, wi (i := k) (by omega)]
  by_cases c1 : 0 < n
  · rw [decide_eq_true (show (0 : Int) < (n : Int) by omega), br_true]
    by_cases c2 : n % 1024 = 0
    · rw [decide_eq_true (show ((n % 1024 : Nat) : Int) = 0 by omega), br_true]
      by_cases c3 : k < 4
      · rw [decide_eq_true (show (k : Int) < 4 by omega), br_true, if_pos ⟨c1, c2, c3⟩]
      · rw [decide_eq_false (show ¬ (k : Int) < 4 by omega), br_false, if_neg (fun h => c3 h.2.2)]
    · rw [decide_eq_false (show ¬ ((n % 1024 : Nat) : Int) = 0 by omega), br_false, if_neg (fun h => c2 h.2.1)]
  · rw [decide_eq_false (show ¬ (0 : Int) < (n : Int) by omega), br_false, if_neg (fun h => c1 h.1)]
/-- How often 1024 goes, at most four times. -/
def upTo (n : Nat) : Nat × Nat := if n = 0 then (0, 0) else if n % 1099511627776 = 0 then (n / 1099511627776, 4) else if n % 1073741824 = 0 then (n / 1073741824, 3)
  else if n % 1048576 = 0 then (n / 1048576, 2) else if n % 1024 = 0 then (n / 1024, 1) else (n, 0)
theorem show_loop (N m n : Nat) (hn : n ≤ 1125899906842624) : g_quant_Show_5 N (m + 5) (((n : Int), 0, ()), (nms, ()), ()) = some (.inl ((((upTo n).1 : Int), ((upTo n).2 : Int), ()), (nms, ()), ())) := by
  have e : g_quant_Show_5 N (m + 5) (((n : Int), 0, ()), (nms, ()), ()) = g_quant_Show_5 N (m + 5) (((n : Int), ((0 : Nat) : Int), ()), (nms, ()), ()) := rfl
  rw [e, show_step N (m + 4) n 0 hn (by omega)]
  unfold upTo
  by_cases c0 : n = 0
  · rw [if_neg (by omega), if_pos c0]; subst c0; rfl
  rw [if_neg c0]
  by_cases c1 : n % 1024 = 0
  · rw [if_pos ⟨by omega, c1, by omega⟩, show_step N (m + 3) (n / 1024) 1 (by omega) (by omega)]
    by_cases c2 : n / 1024 % 1024 = 0
    · rw [if_pos ⟨by omega, c2, by omega⟩, show_step N (m + 2) (n / 1024 / 1024) 2 (by omega) (by omega)]
      by_cases c3 : n / 1024 / 1024 % 1024 = 0
      · rw [if_pos ⟨by omega, c3, by omega⟩, show_step N (m + 1) (n / 1024 / 1024 / 1024) 3 (by omega) (by omega)]
        by_cases c4 : n / 1024 / 1024 / 1024 % 1024 = 0
        · rw [if_pos ⟨by omega, c4, by omega⟩, show_step N m (n / 1024 / 1024 / 1024 / 1024) 4 (by omega) (by omega), if_neg (by omega), if_pos (by omega)]
          rw [show n / 1024 / 1024 / 1024 / 1024 = n / 1099511627776 by omega]
        · rw [if_neg (by omega), if_neg (by omega), if_pos (by omega)]
          rw [show n / 1024 / 1024 / 1024 = n / 1073741824 by omega]
      · rw [if_neg (by omega), if_neg (by omega), if_neg (by omega), if_pos (by omega)]
        rw [show n / 1024 / 1024 = n / 1048576 by omega]
    · rw [if_neg (by omega), if_neg (by omega), if_neg (by omega), if_neg (by omega), if_pos (by omega)]
  · rw [if_neg (by omega), if_neg (by omega), if_neg (by omega), if_neg (by omega), if_neg (by omega)]
theorem upTo_le (n : Nat) : (upTo n).1 ≤ n ∧ (upTo n).2 ≤ 4 := by
  unfold upTo
  repeat' split
  all_goals exact ⟨by dsimp only; omega, by dsimp only; omega⟩
theorem app_nil (s : ByteArray) : s ++ ByteArray.mk (List.toArray []) = s := ba_ext (by rw [ba_append]; simp)
theorem size_le {n : Nat} (h : n < 10 ^ 18) : (numS n).size ≤ 18 := by
  rw [numS_size]
  exact dec_len 18 n (by omega) h
theorem quant_Show_is (N : Nat) (hN : Big N) (n : Int) : G_quant_Show N (n, ()) = some (if 0 ≤ n ∧ n ≤ 1125899906842624 then showQ n.toNat else ByteArray.mk (List.toArray []), ()) := by
  have hN' := hN
  unfold Big at hN'
  unfold G_quant_Show S_quant_Show
  by_cases c0 : n < 0
  · rw [decide_eq_true c0, br_true, if_neg (by omega)]
  by_cases c1 : 1125899906842624 < n
  · rw [decide_eq_false c0, br_false, decide_eq_true c1, br_true, if_neg (by omega)]
  rw [decide_eq_false c0, br_false, decide_eq_false c1, br_false, if_pos (by omega)]
  obtain ⟨m, rfl⟩ : ∃ m : Nat, n = (m : Int) := ⟨n.toNat, by omega⟩
  have hm : m ≤ 1125899906842624 := by omega
  obtain ⟨M, rfl⟩ : ∃ M, N = M + 5 := ⟨N - 5, by omega⟩
  have e := show_loop (M + 5) M m hm
  have e : g_quant_Show_5 (M + 5) (M + 5) (((m : Int), 0, ()), (((ByteArray.mk (List.toArray [])), (ByteArray.mk (List.toArray [75, 105])), (ByteArray.mk (List.toArray [77, 105])), (ByteArray.mk (List.toArray [71, 105])), (ByteArray.mk (List.toArray [84, 105]))), ()), ()) = _ := e
  have hu := upTo_le m
  have hs := size_le (n := (upTo m).1) (by omega)
  have hb : ∀ t : ByteArray, t.size ≤ 2 → Nat.ble ((numS (upTo m).1).size + t.size) 140737488355328 = true := fun t ht => Nat.ble_eq_true_of_le (by omega)
  simp only [e, Option.bind_some, Sum.elim_inl, quant_digits_is (M + 5) hN (n := (upTo m).1) (by omega), Int.toNat_natCast, nms]
  have b0 := hb (ByteArray.mk (List.toArray [])) (by decide)
  have b1 := hb bKi (by decide)
  have b2 := hb bMi (by decide)
  have b3 := hb bGi (by decide)
  have b4 := hb bTi (by decide)
  simp only [b0, b1, b2, b3, b4, br_true, app_nil]
  unfold showQ upTo
  repeat' split
  all_goals rfl
theorem quant_ShowMilli_is (N : Nat) (hN : Big N) (n : Int) : G_quant_ShowMilli N (n, ()) = some (if 0 ≤ n ∧ n ≤ 1125899906842624 then showM n.toNat else ByteArray.mk (List.toArray []), ()) := by
  have hN' := hN
  unfold Big at hN'
  unfold G_quant_ShowMilli S_quant_ShowMilli
  by_cases c0 : n < 0
  · rw [decide_eq_true c0, br_true, if_neg (by omega)]
  by_cases c1 : 1125899906842624 < n
  · rw [decide_eq_false c0, br_false, decide_eq_true c1, br_true, if_neg (by omega)]
  rw [decide_eq_false c0, br_false, decide_eq_false c1, br_false, if_pos (by omega)]
  obtain ⟨m, rfl⟩ : ∃ m : Nat, n = (m : Int) := ⟨n.toNat, by omega⟩
  have hm : m ≤ 1125899906842624 := by omega
  have t1 : Int.tdiv (m : Int) 1000 = ((m / 1000 : Nat) : Int) := tdivN m 1000
  have t2 : Int.tmod (m : Int) 1000 = ((m % 1000 : Nat) : Int) := tmodN m 1000
  have w1 : IntKind.i64.wrap ((m / 1000 : Nat) : Int) = ((m / 1000 : Nat) : Int) := w64 (by omega) (by omega)
  have hs := size_le (n := m) (by omega)
  have hb : Nat.ble ((numS m).size + (ByteArray.mk (List.toArray [109])).size) 140737488355328 = true := Nat.ble_eq_true_of_le (by show _ + 1 ≤ _; omega)
  simp only [t1, t2, w1, quant_digits_is N hN (n := m) (by omega), quant_digits_is N hN (n := m / 1000) (by omega), Option.bind_some, hb, br_true, Int.toNat_natCast]
  unfold showM
  by_cases c : m % 1000 = 0
  · rw [decide_eq_true (show ((m % 1000 : Nat) : Int) = 0 by omega), if_pos c]; rfl
  · rw [decide_eq_false (show ¬ ((m % 1000 : Nat) : Int) = 0 by omega), if_neg c]; rfl
end Go.Proofs.Ythmajioeldhngaa.Qu
