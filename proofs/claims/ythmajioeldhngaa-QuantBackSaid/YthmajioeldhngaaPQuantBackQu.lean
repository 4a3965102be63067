/- QuantBack: what the law computes is true. -/
import Derived.Test.YthmajioeldhngaaAmtQQu
namespace Go.VI
set_option linter.unusedVariables false
set_option linter.unusedSimpArgs false

theorem amtL_dec (each q u v : Nat) (r : List UInt8) (h : ∀ b, r.head? = some b → isD b = false) (h' : r.head? ≠ some 46) (hu : unitL r = u) (h0 : u ≠ 0) (he : 0 < each) (hv : (q * 1000 + 0) * u = v * each) (hm : v ≤ 1125899906842624) :
    amtL each (dec q ++ r) = ((v : Int), 0) := by
  unfold amtL
  rw [cutL_plain (digAll_dec q) (dec_ne q) h h', amtC_some hu h0]
  unfold amtU
  rw [digs_dec, hv, Nat.mul_mod_left, if_pos rfl, Nat.mul_div_cancel _ he, if_pos hm]
end Go.VI
namespace Go.Proofs.Ythmajioeldhngaa.Qu
open Go Go.VI
set_option linter.unusedVariables false
set_option linter.unusedSimpArgs false
set_option maxRecDepth 100000

theorem hd1 {b : UInt8} {l : List UInt8} (h : isD b = false) : ∀ c, (b :: l).head? = some c → isD c = false := by
  intro c hc
  simp only [List.head?_cons, Option.some.injEq] at hc
  rw [← hc]; exact h
theorem hd0 : ∀ c, ([] : List UInt8).head? = some c → isD c = false := by
  intro c hc
  cases hc
theorem parse_show {n : Nat} (hn : n ≤ 1125899906842624) : amtL 1000000 (showQ n).data.toList = ((n : Int), 0) := by
  have nn : ∀ k, (numS k).data.toList = dec k ++ [] := fun k => by rw [numS_list, List.append_nil]
  unfold showQ
  split
  · rename_i h
    rw [nn]
    exact amtL_dec 1000000 0 1000 n [] hd0 (by decide) rfl (by decide) (by decide) (by omega) hn
  split
  · rw [ba_append, numS_list]
    exact amtL_dec 1000000 _ 1099511627776000 n [84, 105] (hd1 rfl) (by decide) rfl (by decide) (by decide) (by omega) hn
  split
  · rw [ba_append, numS_list]
    exact amtL_dec 1000000 _ 1073741824000 n [71, 105] (hd1 rfl) (by decide) rfl (by decide) (by decide) (by omega) hn
  split
  · rw [ba_append, numS_list]
    exact amtL_dec 1000000 _ 1048576000 n [77, 105] (hd1 rfl) (by decide) rfl (by decide) (by decide) (by omega) hn
  split
  · rw [ba_append, numS_list]
    exact amtL_dec 1000000 _ 1024000 n [75, 105] (hd1 rfl) (by decide) rfl (by decide) (by decide) (by omega) hn
  · rw [nn]
    exact amtL_dec 1000000 n 1000 n [] hd0 (by decide) rfl (by decide) (by decide) (by omega) hn
theorem milli_show {n : Nat} (hn : n ≤ 1125899906842624) : amtL 1000 (showM n).data.toList = ((n : Int), 0) := by
  unfold showM
  split
  · rw [numS_list, ← List.append_nil (dec _)]
    exact amtL_dec 1000 _ 1000 n [] hd0 (by decide) rfl (by decide) (by decide) (by omega) hn
  · rw [ba_append, numS_list]
    exact amtL_dec 1000 n 1 n [109] (hd1 rfl) (by decide) rfl (by decide) (by decide) (by omega) hn
theorem showQ_size {n : Nat} (hn : n ≤ 1125899906842624) : (showQ n).data.toList.length ≤ 20 := by
  have h : ∀ k, k ≤ n → (dec k).length ≤ 18 := fun k hk => dec_len 18 k (by omega) (by omega)
  unfold showQ
  repeat' split
  all_goals first
    | (rw [numS_list]; exact Nat.le_trans (h _ (by omega)) (by omega))
    | (rw [ba_append, numS_list, List.length_append]; exact Nat.add_le_add (b := 18) (d := 2) (h _ (by omega)) (by decide))
theorem showM_size {n : Nat} (hn : n ≤ 1125899906842624) : (showM n).data.toList.length ≤ 20 := by
  have h : ∀ k, k ≤ n → (dec k).length ≤ 18 := fun k hk => dec_len 18 k (by omega) (by omega)
  unfold showM
  split
  · rw [numS_list]; exact Nat.le_trans (h _ (by omega)) (by omega)
  · rw [ba_append, numS_list, List.length_append]; exact Nat.add_le_add (b := 18) (d := 2) (h _ (by omega)) (by decide)
theorem known_is (m : Nat) : G_law03_known (m + 300) () = some (true, ()) := by kernel_rfl
theorem pureQuantBack (x : Int × Unit) (hw : Ty.wf (.int .i64) x.1 ∧ True) : ∃ N, G_law03_QuantBack N x = some (true, ()) := by
  obtain ⟨n, ⟨⟩⟩ := x
  clear hw
  refine ⟨281474976710656 + 300, ?_⟩
  have hk := known_is 281474976710656
  have hN := big
  have hP := quant_Parse_is 281474976710656 hN
  have hM := quant_Milli_is 281474976710656 hN
  generalize 281474976710656 + 300 = N at *
  unfold G_law03_QuantBack S_law03_QuantBack
  simp only [quant_Show_is N hN, quant_ShowMilli_is N hN, Option.bind_some]
  by_cases c0 : n < 0
  · rw [if_neg (by omega), if_neg (by omega), decide_eq_true c0, br_true]
    simp only [hk, Option.bind_some, decide_true, br_true]
  by_cases c1 : 1125899906842624 < n
  · rw [if_neg (by omega), if_neg (by omega), decide_eq_false c0, br_false, decide_eq_true c1, br_true]
    simp only [hk, Option.bind_some, decide_true, br_true]
  obtain ⟨m, rfl⟩ : ∃ m : Nat, n = (m : Int) := ⟨n.toNat, by omega⟩
  have hm : m ≤ 1125899906842624 := by omega
  rw [if_pos (by omega), if_pos (by omega), decide_eq_false c0, br_false, decide_eq_false c1, br_false, Int.toNat_natCast]
  have s1 := showQ_size hm
  have s2 := showM_size hm
  have e1 := hP (showQ m).data.toList (by omega)
  have e2 := hM (showM m).data.toList (by omega)
  have b1 : ByteArray.mk (List.toArray (showQ m).data.toList) = showQ m := (bs_eq _).symm
  have b2 : ByteArray.mk (List.toArray (showM m).data.toList) = showM m := (bs_eq _).symm
  rw [b1, parse_show hm] at e1
  rw [b2, milli_show hm] at e2
  simp only [e1, e2, hk, Option.bind_some, decide_true, br_true]
end Go.Proofs.Ythmajioeldhngaa.Qu
