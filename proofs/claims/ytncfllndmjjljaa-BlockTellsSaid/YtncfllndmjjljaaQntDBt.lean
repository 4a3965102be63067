/- The document: numbers and amounts as text. -/
import Derived.Test.YtncfllndmjjljaaNumPBt
import Derived.Test.YtncfllndmjjljaaBaseBt
namespace Go.Proofs.Ytncfllndmjjljaa.Bt
open Go Go.VI
set_option linter.unusedVariables false
set_option linter.unusedSimpArgs false
set_option maxRecDepth 100000

theorem ref01_Digits_rec (N : Nat) : ∀ (k n m : Nat), 1 ≤ k → k ≤ 18 → n < 10 ^ k → k ≤ m → Gr_ref01_Digits N m ((n : Int), ()) = some (numS n, ())
  | 0, n, m, h, _, _, _ => by omega
  | k + 1, n, 0, _, _, _, h => by omega
  | k + 1, n, m + 1, _, hk, hn, hm => by
    have hbig : (10 : Nat) ^ (k + 1) ≤ 10 ^ 18 := Nat.pow_le_pow_right (by omega) hk
    show S_ref01_Digits (Gr_ref01_Digits N m) N _ = _
    unfold S_ref01_Digits
    by_cases h10 : n < 10
    · have d : decide ((n : Int) < 10) = true := decide_eq_true (by omega)
      simp only [d, br_true, ofBytes_one h10]
      congr 2
      exact ba_ext (by rw [numS_list, dec_lt h10])
    · have d : decide ((n : Int) < 10) = false := decide_eq_false (by omega)
      have t1 : Int.tdiv (n : Int) 10 = ((n / 10 : Nat) : Int) := by
        rw [show (10 : Int) = ((10 : Nat) : Int) from rfl, Int.ofNat_tdiv]
      have t2 : Int.tmod (n : Int) 10 = ((n % 10 : Nat) : Int) := by
        rw [show (10 : Int) = ((10 : Nat) : Int) from rfl, Int.ofNat_tmod]
      have w : IntKind.i64.wrap ((n / 10 : Nat) : Int) = ((n / 10 : Nat) : Int) := w64 (by omega) (by omega)
      have hk1 : 1 ≤ k := by
        cases k with
        | zero => simp at hn; omega
        | succ k => omega
      have ih := ref01_Digits_rec N k (n / 10) m hk1 (by omega) (by rw [Nat.pow_succ] at hn; omega) (by omega)
      have hl := dec_len k (n / 10) hk1 (by rw [Nat.pow_succ] at hn; omega)
      have hb : Nat.ble ((numS (n / 10)).size + (ByteArray.mk [UInt8.ofNat (48 + n % 10)].toArray).size) 140737488355328 = true := Nat.ble_eq_true_of_le (by
        rw [numS_size]
        show _ + 1 ≤ _
        omega)
      simp only [d, br_false, t1, t2, w, ih, Option.bind_some, ofBytes_one (n := n % 10) (by omega), hb, br_true]
      congr 2
      exact ba_ext (by rw [ba_append, numS_list, numS_list, dec_ge h10])
theorem ref01_Digits_is (N : Nat) (hN : Big N) {n : Nat} (h : n < 10 ^ 18) : G_ref01_Digits N ((n : Int), ()) = some (numS n, ()) := by
  unfold Big at hN
  exact ref01_Digits_rec N 18 n N (by omega) (by omega) h (by omega)
def bKi : ByteArray := ByteArray.mk (List.toArray [75, 105])
def bMi : ByteArray := ByteArray.mk (List.toArray [77, 105])
def bGi : ByteArray := ByteArray.mk (List.toArray [71, 105])
def bTi : ByteArray := ByteArray.mk (List.toArray [84, 105])
def bm : ByteArray := ByteArray.mk (List.toArray [109])
def showQ (n : Nat) : ByteArray := if n = 0 then numS 0 else if n % 1099511627776 = 0 then numS (n / 1099511627776) ++ bTi else if n % 1073741824 = 0 then numS (n / 1073741824) ++ bGi
  else if n % 1048576 = 0 then numS (n / 1048576) ++ bMi else if n % 1024 = 0 then numS (n / 1024) ++ bKi else numS n
def showM (n : Nat) : ByteArray := if n % 1000 = 0 then numS (n / 1000) else numS n ++ bm
theorem tdivN (n m : Nat) : Int.tdiv (n : Int) (m : Int) = ((n / m : Nat) : Int) := Int.ofNat_tdiv n m
theorem tmodN (n m : Nat) : Int.tmod (n : Int) (m : Int) = ((n % m : Nat) : Int) := Int.ofNat_tmod n m
theorem size_le {n : Nat} (h : n < 10 ^ 18) : (numS n).size ≤ 18 := by
  rw [numS_size]
  exact dec_len 18 n (by omega) h
def nmF : List ByteArray := [bTi, bGi, bMi, bKi]
def nmN : Nat → ByteArray
  | 0 => bTi
  | 1 => bGi
  | 2 => bMi
  | _ => bKi
theorem ref_step (N m n k d : Nat) (hN : Big N) (hn : n ≤ 1125899906842624) (hk : k < 4) (hd : d = 2 ^ (40 - 10 * k)) : g_ref03_Show_5 N (m + 1) (((n : Int), nmF, (k : Int), ()), ()) =
    if 0 < n ∧ n % d = 0 then some (.inr ((numS (n / d) ++ nmN k, ()), ())) else g_ref03_Show_5 N m (((n : Int), nmF, ((k + 1 : Nat) : Int), ()), ()) := by
  have hk' : k = 0 ∨ k = 1 ∨ k = 2 ∨ k = 3 := by omega
  have hdp : 1024 ≤ d := by rcases hk' with rfl | rfl | rfl | rfl <;> subst hd <;> decide
  have hd2 : d ≤ 1099511627776 := by rcases hk' with rfl | rfl | rfl | rfl <;> subst hd <;> decide
  rw [g_ref03_Show_5_succ]
  unfold s_ref03_Show_5
  have w1 : IntKind.i64.wrap (10 * (k : Int)) = ((10 * k : Nat) : Int) := by rw [w64 (by omega) (by omega)]; omega
  have w2 : IntKind.i64.wrap (40 - ((10 * k : Nat) : Int)) = ((40 - 10 * k : Nat) : Int) := by rw [w64 (by omega) (by omega)]; rcases hk' with rfl | rfl | rfl | rfl <;> rfl
  have w3 : IntKind.wrap IntKind.u64 ((40 - 10 * k : Nat) : Int) = ((40 - 10 * k : Nat) : Int) := by rcases hk' with rfl | rfl | rfl | rfl <;> rfl
  have w4 : IntKind.i64.wrap (1 * (2 : Int) ^ (Min.min (40 - 10 * k) (IntKind.bits IntKind.i64))) = (d : Int) := by rcases hk' with rfl | rfl | rfl | rfl <;> subst hd <;> rfl
  have t1 : Int.tdiv (n : Int) (d : Int) = ((n / d : Nat) : Int) := tdivN n d
  have t2 : Int.tmod (n : Int) (d : Int) = ((n % d : Nat) : Int) := tmodN n d
  have hle : n / d ≤ n := Nat.div_le_self _ _
  have w5' : ∀ q : Nat, q ≤ n → IntKind.i64.wrap (q : Int) = (q : Int) := fun q hq => w64 (by omega) (by omega)
  have w5 := w5' _ hle
  have at_ : nmF[k]? = some (nmN k) := by rcases hk' with rfl | rfl | rfl | rfl <;> rfl
  have hsz : (nmN k).size = 2 := by rcases hk' with rfl | rfl | rfl | rfl <;> rfl
  have hq : n / d < 10 ^ 18 := Nat.lt_of_le_of_lt hle (by omega)
  have hs := size_le hq
  have hb : Nat.ble ((numS (n / d)).size + (nmN k).size) 140737488355328 = true := Nat.ble_eq_true_of_le (by omega)
  have d0 : decide ((k : Int) < 4) = true := decide_eq_true (by omega)
  have d1 : decide (((40 - 10 * k : Nat) : Int) < 0) = false := decide_eq_false (by omega)
  have d2 : decide ((d : Int) = 0) = false := decide_eq_false (by omega)
  have d3 : decide ((0 : Int) ≤ (k : Int)) = true := decide_eq_true (by omega)
  simp only [w1, w2, w3, Int.toNat_natCast, w4, t1, t2, w5, d0, d1, d2, d3, br_true, br_false, ref01_Digits_is N hN hq, Option.bind_some, at_, hb, wi (i := k) (by omega)]
  by_cases c1 : 0 < n
  · rw [decide_eq_true (show (0 : Int) < (n : Int) by omega), br_true]
    by_cases c2 : n % d = 0
    · rw [decide_eq_true (show ((n % d : Nat) : Int) = 0 by omega), br_true, if_pos ⟨c1, c2⟩]
    · rw [decide_eq_false (show ¬ ((n % d : Nat) : Int) = 0 by omega), br_false, if_neg (fun h => c2 h.2)]
  · rw [decide_eq_false (show ¬ (0 : Int) < (n : Int) by omega), br_false, if_neg (fun h => c1 h.1)]
theorem ref_end (N m n : Nat) : g_ref03_Show_5 N (m + 1) (((n : Int), nmF, ((4 : Nat) : Int), ()), ()) = some (.inl (((n : Int), ()), ())) := by
  rw [g_ref03_Show_5_succ]; rfl
theorem ref03_Show_is (N : Nat) (hN : Big N) (n : Int) : G_ref03_Show N (n, ()) = some (if 0 ≤ n ∧ n ≤ 1125899906842624 then showQ n.toNat else ByteArray.mk (List.toArray []), ()) := by
  have hN' := hN
  unfold Big at hN'
  unfold G_ref03_Show S_ref03_Show
  by_cases c0 : n < 0
  · rw [decide_eq_true c0, br_true, if_neg (by omega)]
  by_cases c1 : 1125899906842624 < n
  · rw [decide_eq_false c0, br_false, decide_eq_true c1, br_true, if_neg (by omega)]
  rw [decide_eq_false c0, br_false, decide_eq_false c1, br_false, if_pos (by omega)]
  obtain ⟨m, rfl⟩ : ∃ m : Nat, n = (m : Int) := ⟨n.toNat, by omega⟩
  have hm : m ≤ 1125899906842624 := by omega
  obtain ⟨M, rfl⟩ : ∃ M, N = M + 5 := ⟨N - 5, by omega⟩
  have e : g_ref03_Show_5 (M + 5) (M + 5) (((m : Int), [(ByteArray.mk (List.toArray [84, 105])), (ByteArray.mk (List.toArray [71, 105])), (ByteArray.mk (List.toArray [77, 105])), (ByteArray.mk (List.toArray [75, 105]))], 0, ()), ()) = g_ref03_Show_5 (M + 5) (M + 5) (((m : Int), nmF, ((0 : Nat) : Int), ()), ()) := rfl
  rw [e, ref_step (M + 5) (M + 4) m 0 1099511627776 hN hm (by omega) (by decide), Int.toNat_natCast]
  unfold showQ
  by_cases z : m = 0
  · rw [if_neg (by omega), ref_step (M + 5) (M + 3) m 1 1073741824 hN hm (by omega) (by decide), if_neg (by omega), ref_step (M + 5) (M + 2) m 2 1048576 hN hm (by omega) (by decide), if_neg (by omega),
      ref_step (M + 5) (M + 1) m 3 1024 hN hm (by omega) (by decide), if_neg (by omega), ref_end, if_pos z]
    simp only [Option.bind_some, Sum.elim_inl, ref01_Digits_is (M + 5) hN (n := m) (by omega)]
    rw [z]
  rw [if_neg z]
  by_cases k0 : m % 1099511627776 = 0
  · rw [if_pos ⟨by omega, k0⟩, if_pos k0]; rfl
  rw [if_neg (fun h => k0 h.2), if_neg k0, ref_step (M + 5) (M + 3) m 1 1073741824 hN hm (by omega) (by decide)]
  by_cases k1 : m % 1073741824 = 0
  · rw [if_pos ⟨by omega, k1⟩, if_pos k1]; rfl
  rw [if_neg (fun h => k1 h.2), if_neg k1, ref_step (M + 5) (M + 2) m 2 1048576 hN hm (by omega) (by decide)]
  by_cases k2 : m % 1048576 = 0
  · rw [if_pos ⟨by omega, k2⟩, if_pos k2]; rfl
  rw [if_neg (fun h => k2 h.2), if_neg k2, ref_step (M + 5) (M + 1) m 3 1024 hN hm (by omega) (by decide)]
  by_cases k3 : m % 1024 = 0
  · rw [if_pos ⟨by omega, k3⟩, if_pos k3]; rfl
  rw [if_neg (fun h => k3 h.2), if_neg k3, ref_end]
  simp only [Option.bind_some, Sum.elim_inl, ref01_Digits_is (M + 5) hN (n := m) (by omega)]
theorem ref03_ShowMilli_is (N : Nat) (hN : Big N) (n : Int) : G_ref03_ShowMilli N (n, ()) = some (if 0 ≤ n ∧ n ≤ 1125899906842624 then showM n.toNat else ByteArray.mk (List.toArray []), ()) := by
  have hN' := hN
  unfold Big at hN'
  unfold G_ref03_ShowMilli S_ref03_ShowMilli
  by_cases c0 : n < 0
  · rw [decide_eq_true c0, br_true, if_neg (by omega)]
  by_cases c1 : 1125899906842624 < n
  · rw [decide_eq_false c0, br_false, decide_eq_true c1, br_true, if_neg (by omega)]
  rw [decide_eq_false c0, br_false, decide_eq_false c1, br_false, if_pos (by omega)]
  obtain ⟨m, rfl⟩ : ∃ m : Nat, n = (m : Int) := ⟨n.toNat, by omega⟩
  have hm : m ≤ 1125899906842624 := by omega
  have t1 : Int.tdiv (m : Int) 1000 = ((m / 1000 : Nat) : Int) := tdivN m 1000
  have t2 : Int.tmod (m : Int) 1000 = ((m % 1000 : Nat) : Int) := tmodN m 1000
  have w1 : IntKind.i64.wrap ((m / 1000 : Nat) : Int) = ((m / 1000 : Nat) : Int) := w64 (by omega) (by omega)
  have hs := size_le (n := m) (by omega)
  have hb : Nat.ble ((numS m).size + (ByteArray.mk (List.toArray [109])).size) 140737488355328 = true := Nat.ble_eq_true_of_le (by show _ + 1 ≤ _; omega)
  simp only [t1, t2, w1, ref01_Digits_is N hN (n := m) (by omega), ref01_Digits_is N hN (n := m / 1000) (by omega), Option.bind_some, hb, br_true, Int.toNat_natCast]
  unfold showM
  by_cases c : m % 1000 = 0
  · rw [decide_eq_true (show ((m % 1000 : Nat) : Int) = 0 by omega), if_pos c]; rfl
  · rw [decide_eq_false (show ¬ ((m % 1000 : Nat) : Int) = 0 by omega), if_neg c]; rfl
theorem showQ_size {n : Nat} (hn : n ≤ 1125899906842624) : (showQ n).size ≤ 20 := by
  have h : ∀ k, k ≤ n → (dec k).length ≤ 18 := fun k hk => dec_len 18 k (by omega) (by omega)
  rw [← ba_size]
  unfold showQ
  repeat' split
  all_goals first
    | (rw [numS_list]; exact Nat.le_trans (h _ (by omega)) (by omega))
    | (rw [ba_append, numS_list, List.length_append]; exact Nat.add_le_add (b := 18) (d := 2) (h _ (by omega)) (by decide))
theorem showM_size {n : Nat} (hn : n ≤ 1125899906842624) : (showM n).size ≤ 20 := by
  have h : ∀ k, k ≤ n → (dec k).length ≤ 18 := fun k hk => dec_len 18 k (by omega) (by omega)
  rw [← ba_size]
  unfold showM
  split
  · rw [numS_list]; exact Nat.le_trans (h _ (by omega)) (by omega)
  · rw [ba_append, numS_list, List.length_append]; exact Nat.add_le_add (b := 18) (d := 2) (h _ (by omega)) (by decide)
theorem Show_sz (N : Nat) (hN : Big N) (n : Int) : ∃ v, G_ref03_Show N (n, ()) = some (v, ()) ∧ v.size ≤ 20 := by
  refine ⟨_, ref03_Show_is N hN n, ?_⟩
  split
  · exact showQ_size (by omega)
  · exact Nat.zero_le _
theorem ShowMilli_sz (N : Nat) (hN : Big N) (n : Int) : ∃ v, G_ref03_ShowMilli N (n, ()) = some (v, ()) ∧ v.size ≤ 20 := by
  refine ⟨_, ref03_ShowMilli_is N hN n, ?_⟩
  split
  · exact showM_size (by omega)
  · exact Nat.zero_le _
theorem Digits_sz (N : Nat) (hN : Big N) {n : Int} (h0 : 0 ≤ n) (h : n ≤ 1125899906842624) : ∃ v, G_ref01_Digits N (n, ()) = some (v, ()) ∧ v.size ≤ 20 := by
  obtain ⟨k, rfl⟩ : ∃ k : Nat, n = (k : Int) := ⟨n.toNat, by omega⟩
  have hk : k < 10 ^ 18 := by omega
  exact ⟨_, ref01_Digits_is N hN hk, Nat.le_trans (size_le hk) (by omega)⟩
end Go.Proofs.Ytncfllndmjjljaa.Bt
