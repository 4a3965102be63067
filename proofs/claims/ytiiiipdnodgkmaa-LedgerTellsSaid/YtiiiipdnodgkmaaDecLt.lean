/- Numbers in digits, and the order of texts: plain facts. -/
import Derived.Test.YtiiiipdnodgkmaaVIC
namespace Go.VI
set_option linter.unusedVariables false
set_option linter.unusedSimpArgs false

theorem u8_eq {a b : UInt8} (h : a.toNat = b.toNat) : a = b := UInt8.toNat_inj.1 h
theorem u8_ofNat {n : Nat} (h : n < 256) : (UInt8.ofNat n).toNat = n := by
  rw [UInt8.toNat_ofNat']
  omega

def digF : Nat → Nat → List UInt8
  | 0, _ => []
  | k + 1, n => if n < 10 then [UInt8.ofNat (48 + n)] else digF k (n / 10) ++ [UInt8.ofNat (48 + n % 10)]
/-- A number's digits. -/
def dec (n : Nat) : List UInt8 := digF (n + 1) n
theorem digF_eq : ∀ (k j n : Nat), n < k → n < j → digF k n = digF j n
  | 0, _, _, h, _ => by omega
  | _ + 1, 0, _, _, h => by omega
  | k + 1, j + 1, n, h, h' => by
    simp only [digF]
    split
    · rfl
    · rw [digF_eq k j (n / 10) (by omega) (by omega)]
theorem dec_lt {n : Nat} (h : n < 10) : dec n = [UInt8.ofNat (48 + n)] := by
  unfold dec
  rw [digF, if_pos h]
theorem dec_ge {n : Nat} (h : ¬ n < 10) : dec n = dec (n / 10) ++ [UInt8.ofNat (48 + n % 10)] := by
  conv => lhs; rw [dec, digF]
  rw [if_neg h, digF_eq n (n / 10 + 1) (n / 10) (by omega) (by omega)]
  rfl
def isDig (b : UInt8) : Prop := 48 ≤ b.toNat ∧ b.toNat ≤ 57
/-- What digits say. -/
def digs (l : List UInt8) : Nat := l.foldl (fun a b => 10 * a + (b.toNat - 48)) 0
theorem digs_snoc (l : List UInt8) (b : UInt8) : digs (l ++ [b]) = 10 * digs l + (b.toNat - 48) := by simp [digs]
theorem dec_ind {P : Nat → Prop} (h0 : ∀ n, n < 10 → P n) (h1 : ∀ n, ¬ n < 10 → P (n / 10) → P n) : ∀ k n, n < k → P n
  | 0, n, h => by omega
  | k + 1, n, h => by
    by_cases hn : n < 10
    · exact h0 n hn
    · exact h1 n hn (dec_ind h0 h1 k (n / 10) (by omega))
theorem digs_dec (n : Nat) : digs (dec n) = n := by
  refine dec_ind (P := fun n => digs (dec n) = n) (fun n h => ?_) (fun n h ih => ?_) (n + 1) n (by omega)
  · rw [dec_lt h]; simp only [digs, List.foldl]; rw [u8_ofNat (by omega)]; omega
  · rw [dec_ge h, digs_snoc, ih, u8_ofNat (by omega)]; omega
theorem dec_inj {a b : Nat} (h : dec a = dec b) : a = b := by rw [← digs_dec a, h, digs_dec]
theorem dec_dig (n : Nat) : ∀ b ∈ dec n, isDig b := by
  refine dec_ind (P := fun n => ∀ b ∈ dec n, isDig b) (fun n h => ?_) (fun n h ih => ?_) (n + 1) n (by omega)
  · rw [dec_lt h]; intro b hb; rw [List.mem_singleton.1 hb]; unfold isDig; rw [u8_ofNat (by omega)]; omega
  · rw [dec_ge h]; intro b hb
    rcases List.mem_append.1 hb with hb | hb
    · exact ih b hb
    · rw [List.mem_singleton.1 hb]; unfold isDig; rw [u8_ofNat (by omega)]; omega
theorem dec_ne (n : Nat) : dec n ≠ [] := by
  by_cases h : n < 10
  · rw [dec_lt h]; simp
  · rw [dec_ge h]; simp
theorem dec_head {n : Nat} (h0 : 0 < n) : ∃ b l, dec n = b :: l ∧ b.toNat ≠ 48 := by
  have := dec_ind (P := fun n => 0 < n → ∃ b l, dec n = b :: l ∧ b.toNat ≠ 48) (fun n h h0 => ?_) (fun n h ih h0 => ?_) (n + 1) n (by omega)
  · exact this h0
  · exact ⟨_, _, dec_lt h, by rw [u8_ofNat (by omega)]; omega⟩
  · obtain ⟨b, l, e, hb⟩ := ih (by omega)
    exact ⟨b, l ++ [UInt8.ofNat (48 + n % 10)], by rw [dec_ge h, e]; rfl, hb⟩
theorem dec_len : ∀ (k n : Nat), 1 ≤ k → n < 10 ^ k → (dec n).length ≤ k
  | 0, n, h, _ => by omega
  | k + 1, n, _, h => by
    by_cases hn : n < 10
    · rw [dec_lt hn]; simp
    · rw [dec_ge hn, List.length_append]
      have hk : 1 ≤ k := by
        cases k with
        | zero => simp at h; omega
        | succ k => omega
      have := dec_len k (n / 10) hk (by rw [Nat.pow_succ] at h; omega)
      simp only [List.length_singleton]; omega
theorem digs_pos {b : UInt8} {l : List UInt8} (hb : isDig b) (h : b.toNat ≠ 48) : 0 < digs (b :: l) := by
  unfold isDig at hb
  have key : ∀ (l : List UInt8) (a : Nat), 0 < a → 0 < l.foldl (fun a b => 10 * a + (b.toNat - 48)) a := by
    intro l
    induction l with
    | nil => intro a h; exact h
    | cons c l ih => intro a h; exact ih _ (by show 0 < 10 * a + (c.toNat - 48); omega)
  exact key l _ (by show 0 < 10 * 0 + (b.toNat - 48); omega)
theorem dec_digs : ∀ (k : Nat) (l : List UInt8), l.length = k → (∀ b ∈ l, isDig b) → (∃ b r, l = b :: r ∧ b.toNat ≠ 48) → dec (digs l) = l
  | 0, l, h, _, ⟨b, r, e, _⟩ => by rw [e] at h; simp at h
  | k + 1, l, h, hd, ⟨b, r, e, hb⟩ => by
    have hne : l ≠ [] := by rw [e]; simp
    have hl := List.dropLast_concat_getLast hne
    generalize hl' : l.dropLast = l' at hl
    generalize hc : l.getLast hne = c at hl
    have hcd : isDig c := hd c (by rw [← hc]; exact List.getLast_mem hne)
    have hcd' := hcd
    unfold isDig at hcd'
    rw [← hl, digs_snoc]
    cases l' with
    | nil =>
      have : b = c := by
        rw [← hl] at e
        simp only [List.nil_append, List.cons.injEq] at e
        exact e.1.symm
      subst this
      rw [show digs [] = 0 from rfl, dec_lt (by omega)]
      simp only [List.nil_append, List.cons.injEq, and_true]
      exact u8_eq (by rw [u8_ofNat (by omega)]; omega)
    | cons b' r' =>
      have : b' = b := by
        rw [← hl] at e
        simp only [List.cons_append, List.cons.injEq] at e
        exact e.1
      subst this
      have hpos : 0 < digs (b' :: r') := digs_pos (hd b' (by rw [← hl]; simp)) hb
      have ih := dec_digs k (b' :: r') (by have : l.length = (b' :: r').length + 1 := by rw [← hl]; simp
                                           omega) (fun x hx => hd x (by rw [← hl]; exact List.mem_append_left _ hx)) ⟨b', r', rfl, hb⟩
      rw [dec_ge (by omega), show (10 * digs (b' :: r') + (c.toNat - 48)) / 10 = digs (b' :: r') by omega, ih]
      congr 2
      exact u8_eq (by rw [u8_ofNat (by omega)]; omega)
theorem digs_lt : ∀ (k : Nat) (l : List UInt8), l.length = k → (∀ b ∈ l, isDig b) → digs l < 10 ^ k
  | 0, l, h, _ => by rw [List.length_eq_zero_iff.1 h]; decide
  | k + 1, l, h, hd => by
    have hne : l ≠ [] := by intro e; rw [e] at h; simp at h
    have hl := List.dropLast_concat_getLast hne
    have ih := digs_lt k l.dropLast (by rw [List.length_dropLast]; omega) (fun b hb => hd b (List.dropLast_subset _ hb))
    have hcd : isDig (l.getLast hne) := hd _ (List.getLast_mem hne)
    unfold isDig at hcd
    rw [← hl, digs_snoc, Nat.pow_succ]
    omega

/-! The order of texts. -/
theorem bL_irrefl : ∀ x : List UInt8, Op.bytesLess x x = false
  | [] => rfl
  | a :: x => by simp only [Op.bytesLess, bL_irrefl x, Bool.and_false, Bool.or_false]; simp
theorem bL_cons (a b : UInt8) (x y : List UInt8) : Op.bytesLess (a :: x) (b :: y) = true ↔ a.toNat < b.toNat ∨ a.toNat = b.toNat ∧ Op.bytesLess x y = true := by
  simp only [Op.bytesLess, Bool.or_eq_true, Bool.and_eq_true, decide_eq_true_eq, beq_iff_eq, UInt8.lt_iff_toNat_lt, UInt8.toNat_inj]
theorem bL_trans : ∀ x y z : List UInt8, Op.bytesLess x y = true → Op.bytesLess y z = true → Op.bytesLess x z = true
  | x, [], _, h, _ => by cases x <;> simp [Op.bytesLess] at h
  | [], _ :: _, [], _, h => by cases h
  | [], _ :: _, _ :: _, _, _ => rfl
  | a :: x, b :: y, [], _, h => by cases h
  | a :: x, b :: y, c :: z, h, h' => by
    rw [bL_cons] at h h' ⊢
    rcases h with h | ⟨h, k⟩ <;> rcases h' with h' | ⟨h', k'⟩
    · left; omega
    · left; omega
    · left; omega
    · right; exact ⟨by omega, bL_trans x y z k k'⟩
theorem bL_tri : ∀ x y : List UInt8, Op.bytesLess x y = false → x ≠ y → Op.bytesLess y x = true
  | [], [], _, h => absurd rfl h
  | [], _ :: _, h, _ => by cases h
  | _ :: _, [], _, _ => rfl
  | a :: x, b :: y, h, h' => by
    rw [bL_cons]
    have h : ¬ Op.bytesLess (a :: x) (b :: y) = true := by rw [h]; decide
    rw [bL_cons] at h
    by_cases e : a.toNat = b.toNat
    · right
      refine ⟨e.symm, bL_tri x y ?_ fun hxy => h' ?_⟩
      · cases hb : Op.bytesLess x y with
        | false => rfl
        | true => exact absurd (.inr ⟨e, hb⟩) h
      · rw [u8_eq e, hxy]
    · left; omega
theorem toList_data (s : ByteArray) : s.toList = s.data.toList := ByteArray.toList_eq s
theorem ba_ext {a b : ByteArray} (h : a.data.toList = b.data.toList) : a = b := by
  cases a; cases b; congr; exact Array.toList_inj.1 h
theorem bl_irrefl (a : ByteArray) : bl a a = false := bL_irrefl _
theorem bl_trans {a b c : ByteArray} (h : bl a b = true) (h' : bl b c = true) : bl a c = true := bL_trans _ _ _ h h'
theorem bl_tri {a b : ByteArray} (h : bl a b = false) (h' : a ≠ b) : bl b a = true :=
  bL_tri _ _ h fun e => h' (ba_ext (by rw [← toList_data, ← toList_data]; exact e))
theorem bl_ne {a b : ByteArray} (h : bl a b = true) : a ≠ b := fun e => by rw [e, bl_irrefl] at h; cases h
theorem bl_not {a b : ByteArray} (h : bl a b = true) : bl b a = false := by
  cases h' : bl b a with
  | false => rfl
  | true => have := bl_trans h h'; rw [bl_irrefl] at this; cases this
/-- a > b, as the model says it. -/
theorem bl_gt (a b : ByteArray) : (!(bl a b).or (decide (a = b))) = bl b a := by
  by_cases e : a = b
  · subst e; simp [bl_irrefl]
  · cases h : bl a b with
    | true => rw [bl_not h]; rfl
    | false => rw [bl_tri h e]; simp [e]
end Go.VI
