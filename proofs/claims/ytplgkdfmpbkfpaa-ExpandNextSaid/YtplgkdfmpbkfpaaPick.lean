/- Plain laws: the first best of a list by a strict weak order; the lexicographic order of two whole numbers. -/
namespace Go.Proofs.Ytplgkdfmpbkfpaa.Pick
/-- A strict weak order by a Bool test, and the first best of a list. -/
def pick {α : Type} (lt : α → α → Bool) (d : α) (l : List α) (b i : Nat) : List α → Nat
  | [] => b
  | x :: xs => pick lt d l (if lt x (l.getD b d) then i else b) (i + 1) xs

structure Weak {α : Type} (lt : α → α → Bool) : Prop where
  irr : ∀ a, lt a a = false
  tr : ∀ a b c, lt a b = true → lt b c = true → lt a c = true
  neg : ∀ a b c, lt a b = false → lt b c = false → lt a c = false

/-- r is the first of those than which none is better. -/
def First {α : Type} (lt : α → α → Bool) (d : α) (l : List α) (r n : Nat) : Prop :=
  (∀ j, j < n → lt (l.getD j d) (l.getD r d) = false) ∧ ∀ j, j < r → lt (l.getD r d) (l.getD j d) = true

theorem pick_first {α : Type} {lt : α → α → Bool} (hw : Weak lt) (d : α) (l : List α) : ∀ (xs : List α) (b i : Nat), l.drop i = xs → b < i → i ≤ l.length → First lt d l b i → pick lt d l b i xs < l.length ∧ First lt d l (pick lt d l b i xs) l.length
  | [], b, i, h, hb, hi, hf => by
    have : i = l.length := by
      have := List.drop_eq_nil_iff.1 h
      omega
    subst this
    exact ⟨hb, hf⟩
  | x :: xs, b, i, h, hb, hi, hf => by
    have hlt : i < l.length := by
      rcases Nat.lt_or_ge i l.length with h1 | h1
      · exact h1
      · rw [List.drop_of_length_le h1] at h
        cases h
    have hx : l.getD i d = x := by
      have := List.drop_eq_getElem_cons hlt
      rw [h] at this
      injection this with h1 _
      rw [List.getD_eq_getElem?_getD, List.getElem?_eq_getElem hlt, h1]
      rfl
    have hd : l.drop (i + 1) = xs := by
      have := List.drop_eq_getElem_cons hlt
      rw [h] at this
      injection this with _ h2
      exact h2.symm
    unfold pick
    by_cases hc : lt x (l.getD b d) = true
    · rw [if_pos hc]
      refine pick_first hw d l xs i (i + 1) hd (by omega) (by omega) ⟨fun j hj => ?_, fun j hj => ?_⟩
      · rcases Nat.lt_or_ge j i with h1 | h1
        · rw [hx]
          by_cases h2 : lt (l.getD j d) x = true
          · have := hw.tr _ _ _ h2 hc
            rw [hf.1 j h1] at this
            cases this
          · simpa using h2
        · have : j = i := by omega
          subst this
          exact hw.irr _
      · rw [hx]
        by_cases h1 : lt x (l.getD j d) = true
        · exact h1
        · have h1 : lt x (l.getD j d) = false := by simpa using h1
          have := hw.neg _ _ _ h1 (hf.1 j hj)
          rw [hc] at this
          cases this
    · have hc : lt x (l.getD b d) = false := by simpa using hc
      rw [if_neg (by rw [hc]; decide)]
      refine pick_first hw d l xs b (i + 1) hd (by omega) (by omega) ⟨fun j hj => ?_, hf.2⟩
      rcases Nat.lt_or_ge j i with h1 | h1
      · exact hf.1 j h1
      · have : j = i := by omega
        subst this
        rw [hx]
        exact hc

theorem pick0 {α : Type} {lt : α → α → Bool} (hw : Weak lt) (d : α) (l : List α) (h : l ≠ []) : pick lt d l 0 0 l < l.length ∧ First lt d l (pick lt d l 0 0 l) l.length := by
  match l, h with
  | x :: xs, _ =>
    have e : pick lt d (x :: xs) 0 0 (x :: xs) = pick lt d (x :: xs) 0 1 xs := by
      rw [pick]
      have : (x :: xs).getD 0 d = x := rfl
      rw [this, hw.irr]
      rfl
    rw [e]
    refine pick_first hw d (x :: xs) xs 0 1 rfl (by omega) (by simp) ⟨fun j hj => ?_, fun j hj => by omega⟩
    have : j = 0 := by omega
    subst this
    exact hw.irr _

theorem First.unique {α : Type} {lt : α → α → Bool} {d : α} {l : List α} {r s n : Nat} (h : First lt d l r n) (h' : First lt d l s n) (hr : r < n) (hs : s < n) : r = s := by
  rcases Nat.lt_trichotomy r s with h1 | h1 | h1
  · have h2 := h'.2 r h1
    rw [h.1 s hs] at h2
    cases h2
  · exact h1
  · have h2 := h.2 s h1
    rw [h'.1 r hr] at h2
    cases h2

/-- The lexicographic order of two whole numbers. -/
def lex2 (a b : Int × Int) : Bool := if a.1 ≠ b.1 then decide (a.1 < b.1) else decide (a.2 < b.2)
theorem lex2_true (a b : Int × Int) : lex2 a b = true ↔ a.1 < b.1 ∨ a.1 = b.1 ∧ a.2 < b.2 := by
  unfold lex2
  split <;> simp <;> omega
theorem lex2_weak : Weak lex2 := by
  refine ⟨fun a => ?_, fun a b c h1 h2 => ?_, fun a b c h1 h2 => ?_⟩
  · rw [← Bool.not_eq_true, lex2_true]; omega
  · rw [lex2_true] at *; omega
  · rw [← Bool.not_eq_true, lex2_true] at *; omega
theorem Weak.on {α β : Type} {lt : β → β → Bool} (h : Weak lt) (f : α → β) : Weak (fun a b => lt (f a) (f b)) :=
  ⟨fun _ => h.irr _, fun _ _ _ => h.tr _ _ _, fun _ _ _ => h.neg _ _ _⟩
end Go.Proofs.Ytplgkdfmpbkfpaa.Pick
