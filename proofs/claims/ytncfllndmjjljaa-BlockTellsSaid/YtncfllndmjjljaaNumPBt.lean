/- Names with a number: plain facts. -/
import Derived.Test.YtncfllndmjjljaaDecBt
namespace Go.VI
set_option linter.unusedVariables false
set_option linter.unusedSimpArgs false

theorem ba_append (a b : ByteArray) : (a ++ b).data.toList = a.data.toList ++ b.data.toList := by simp
theorem ba_extract (a : ByteArray) (i j : Nat) : (a.extract i j).data.toList = (a.data.toList.drop i).take (j - i) := by simp
theorem ba_size (a : ByteArray) : a.data.toList.length = a.size := size_list a
/-- A number's digits, as a text. -/
def numS (n : Nat) : ByteArray := ⟨(dec n).toArray⟩
theorem numS_list (n : Nat) : (numS n).data.toList = dec n := by simp [numS]
theorem numS_size (n : Nat) : (numS n).size = (dec n).length := by rw [← ba_size, numS_list]
theorem ofBytes_one {n : Nat} (h : n < 10) : ofBytes [IntKind.wrap IntKind.u8 (IntKind.i64.wrap ((48 : Int) + (n : Int)))] = ⟨[UInt8.ofNat (48 + n)].toArray⟩ := by
  have e1 : IntKind.i64.wrap ((48 : Int) + (n : Int)) = ((48 + n : Nat) : Int) := by rw [w64 (by omega) (by omega)]; omega
  have e2 : IntKind.wrap IntKind.u8 ((48 + n : Nat) : Int) = ((48 + n : Nat) : Int) := wu8 (by omega) (by omega)
  unfold ofBytes
  rw [e1, e2]
  simp only [List.map, Int.toNat_natCast]
/-- What digits come to, behind a number. -/
def digsF (a : Nat) (l : List UInt8) : Nat := l.foldl (fun a b => 10 * a + (b.toNat - 48)) a
def digAll (l : List UInt8) : Bool := l.all fun b => decide (48 ≤ b.toNat) && decide (b.toNat ≤ 57)
theorem digAll_iff {l : List UInt8} : digAll l = true ↔ ∀ b ∈ l, isDig b := by
  unfold digAll isDig
  rw [List.all_eq_true]
  constructor
  · intro h b hb
    have := h b hb
    simp only [Bool.and_eq_true, decide_eq_true_eq] at this
    exact this
  · intro h b hb
    simp only [Bool.and_eq_true, decide_eq_true_eq]
    exact h b hb
/-- The number of a name that begins so; 0: it has none. -/
def numL (hd nm : List UInt8) : Nat :=
  if nm.length ≤ hd.length then 0 else if nm.take hd.length ≠ hd then 0 else if (nm.drop hd.length).head? = some 48 then 0 else if 9 < (nm.drop hd.length).length then 0 else if digAll (nm.drop hd.length) then digs (nm.drop hd.length) else 0
theorem numL_name (hd : List UInt8) {n : Nat} (h1 : 0 < n) (h2 : n ≤ 999999999) : numL hd (hd ++ dec n) = n := by
  obtain ⟨b, l, e, hb⟩ := dec_head h1
  have hl := dec_len 9 n (by omega) (by omega)
  have hpos : 0 < (dec n).length := by rw [e]; simp
  unfold numL
  rw [List.length_append, if_neg (by omega), List.take_left, if_neg (by simp), List.drop_left, if_neg (by rw [e]; intro h; simp only [List.head?_cons, Option.some.injEq] at h; exact hb (by rw [h]; rfl)), if_neg (by omega), if_pos (digAll_iff.2 (dec_dig n)), digs_dec]
theorem numL_le (hd nm : List UInt8) : numL hd nm ≤ 999999999 := by
  unfold numL
  split
  · omega
  split
  · omega
  split
  · omega
  split
  · omega
  split
  · rename_i h1 h2 h3 h4 h5
    have := digs_lt _ (nm.drop hd.length) rfl (digAll_iff.1 h5)
    have : 10 ^ (nm.drop hd.length).length ≤ 10 ^ 9 := Nat.pow_le_pow_right (by omega) (by omega)
    omega
  · omega
/-- A number that a name has is its own. -/
theorem numL_own {hd nm : List UInt8} (h : 0 < numL hd nm) : nm = hd ++ dec (numL hd nm) := by
  unfold numL at h ⊢
  split at h
  · omega
  rename_i h1
  split at h
  · omega
  rename_i h2
  split at h
  · omega
  rename_i h3
  split at h
  · omega
  rename_i h4
  split at h
  · rename_i h5
    rw [if_neg h1, if_neg h2, if_neg h3, if_neg h4, if_pos h5]
    have hne : 0 < (nm.drop hd.length).length := by rw [List.length_drop]; omega
    cases e : nm.drop hd.length with
    | nil => rw [e] at hne; simp at hne
    | cons b r =>
      have := dec_digs _ (b :: r) rfl (by rw [← e]; exact digAll_iff.1 h5) ⟨b, r, rfl, fun hb => h3 (by rw [e]; simp only [List.head?_cons, Option.some.injEq]; exact u8_eq hb)⟩
      rw [this]
      have h2 : nm.take hd.length = hd := Classical.byContradiction h2
      rw [← e]
      conv => lhs; rw [← List.take_append_drop hd.length nm, h2]
  · omega
theorem digsF_cons (a : Nat) (b : UInt8) (l : List UInt8) : digsF a (b :: l) = digsF (10 * a + (b.toNat - 48)) l := by
  unfold digsF
  rw [List.foldl_cons]
theorem digsF_lt (l : List UInt8) : ∀ (a : Nat), (∀ b ∈ l, isDig b) → digsF a l < (a + 1) * 10 ^ l.length := by
  induction l with
  | nil => intro a _; show a < (a + 1) * 10 ^ 0; omega
  | cons b l ih =>
    intro a hd
    have hb := hd b (by simp)
    unfold isDig at hb
    rw [digsF_cons]
    have h1 := ih (10 * a + (b.toNat - 48)) fun c hc => hd c (by simp [hc])
    have h2 : (10 * a + (b.toNat - 48) + 1) * 10 ^ l.length ≤ ((a + 1) * 10) * 10 ^ l.length := Nat.mul_le_mul_right _ (by omega)
    rw [List.length_cons, Nat.pow_succ, Nat.mul_comm (10 ^ l.length) 10, ← Nat.mul_assoc]
    exact Nat.lt_of_lt_of_le h1 h2
end Go.VI
