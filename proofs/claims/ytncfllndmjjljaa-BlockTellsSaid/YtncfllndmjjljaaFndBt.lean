/- Loops that look for the first that is so. -/
import Derived.Test.YtncfllndmjjljaaBaseBt
namespace Go.VI
set_option linter.unusedVariables false
set_option linter.unusedSimpArgs false

/-- A loop over a row that is left at the first element that is so: where, and which. -/
theorem Tot.findI {α A Out : Type} {f : Nat → A → Option Out} {l : List α} {q : α → Bool} {Inv : Nat → A → Prop} {Y : Out → Prop} {No : Nat → α → Out → Prop}
    (last : ∀ m a, Inv l.length a → Tot (f (m + 1) a) Y)
    (step : ∀ m i a (Q : Out → Prop) (hi : i < l.length), Inv i a → (q l[i] = false → ∀ a', Inv (i + 1) a' → Tot (f m a') Q) → (q l[i] = true → ∀ o, No i l[i] o → Q o) → Tot (f (m + 1) a) Q) :
    ∀ N a, l.length < N → Inv 0 a → Tot (f N a) fun o => (l.all (fun x => !q x) = true ∧ Y o) ∨ ∃ i, ∃ hi : i < l.length, q l[i] = true ∧ (l.take i).all (fun x => !q x) = true ∧ No i l[i] o := by
  have go : ∀ m i a, i ≤ l.length → l.length - i < m → (l.take i).all (fun x => !q x) = true → Inv i a → Tot (f m a) fun o => (l.all (fun x => !q x) = true ∧ Y o) ∨ ∃ i, ∃ hi : i < l.length, q l[i] = true ∧ (l.take i).all (fun x => !q x) = true ∧ No i l[i] o := by
    intro m
    induction m with
    | zero => intro i a _ h; omega
    | succ m ih =>
      intro i a hi h hall ha
      by_cases e : i = l.length
      · subst e
        rw [List.take_length] at hall
        exact (last m a ha).mono fun o ho => .inl ⟨hall, ho⟩
      · have hlt : i < l.length := by omega
        refine step m i a _ hlt ha (fun hq a' ha' => ih (i + 1) a' (by omega) (by omega) ?_ ha') (fun hq o ho => .inr ⟨i, hlt, hq, hall, ho⟩)
        rw [List.take_add_one, List.getElem?_eq_getElem hlt, List.all_append, hall]
        simp [hq]
  intro N a h ha
  exact go N 0 a (by omega) (by omega) (by simp) ha
theorem find_none {α : Type} {l : List α} {q : α → Bool} (h : l.all (fun x => !q x) = true) : l.find? q = none := by
  rw [List.find?_eq_none]
  intro x hx
  have := List.all_eq_true.1 h x hx
  simpa using this
theorem find_at {α : Type} : ∀ {l : List α} {q : α → Bool} {i : Nat} (hi : i < l.length), q l[i] = true → (l.take i).all (fun x => !q x) = true → l.find? q = some l[i]
  | [], _, _, hi, _, _ => absurd hi (by simp)
  | x :: l, q, 0, hi, h, _ => by
    have h : q x = true := h
    simp [List.find?_cons, h]
  | x :: l, q, i + 1, hi, h, ha => by
    rw [List.take_succ_cons, List.all_cons, Bool.and_eq_true] at ha
    have hx : q x = false := by simpa using ha.1
    have hi' : i < l.length := by simpa using hi
    have h' : q l[i] = true := h
    rw [List.find?_cons, hx]
    exact find_at hi' h' ha.2
theorem findIdx_at {α : Type} : ∀ {l : List α} {q : α → Bool} {i : Nat} (hi : i < l.length), q l[i] = true → (l.take i).all (fun x => !q x) = true → l.findIdx? q = some i
  | [], _, _, hi, _, _ => absurd hi (by simp)
  | x :: l, q, 0, hi, h, _ => by
    have h : q x = true := h
    simp [List.findIdx?_cons, h]
  | x :: l, q, i + 1, hi, h, ha => by
    rw [List.take_succ_cons, List.all_cons, Bool.and_eq_true] at ha
    have hx : q x = false := by simpa using ha.1
    have hi' : i < l.length := by simpa using hi
    have h' : q l[i] = true := h
    rw [List.findIdx?_cons, hx]
    simp [findIdx_at hi' h' ha.2]
theorem findIdx_none {α : Type} {l : List α} {q : α → Bool} (h : l.all (fun x => !q x) = true) : l.findIdx? q = none := by
  rw [List.findIdx?_eq_none_iff]
  intro x hx
  have := List.all_eq_true.1 h x hx
  simpa using this
/-- The same, where only the element matters. -/
theorem Tot.find {α A Out : Type} {f : Nat → A → Option Out} {l : List α} {q : α → Bool} {Inv : Nat → A → Prop} {Y : Out → Prop} {No : α → Out → Prop}
    (last : ∀ m a, Inv l.length a → Tot (f (m + 1) a) Y)
    (step : ∀ m i a (Q : Out → Prop) (hi : i < l.length), Inv i a → (q l[i] = false → ∀ a', Inv (i + 1) a' → Tot (f m a') Q) → (q l[i] = true → ∀ o, No l[i] o → Q o) → Tot (f (m + 1) a) Q) :
    ∀ N a, l.length < N → Inv 0 a → Tot (f N a) fun o => (l.find? q = none ∧ Y o) ∨ ∃ x, x ∈ l ∧ l.find? q = Option.some x ∧ q x = true ∧ No x o := by
  intro N a h ha
  refine (Tot.findI (q := q) (No := fun _ => No) last step N a h ha).mono fun o ho => ?_
  rcases ho with ⟨h1, h2⟩ | ⟨i, hi, h1, h2, h3⟩
  · exact .inl ⟨find_none h1, h2⟩
  · exact .inr ⟨_, List.getElem_mem hi, find_at hi h1 h2, h1, h3⟩
/-- A loop over a row that asks whether all are so. -/
theorem Tot.allL {α A Out : Type} {f : Nat → A → Option Out} {l : List α} {q : α → Bool} {Inv : Nat → A → Prop} {Y No : Out → Prop}
    (last : ∀ m a, Inv l.length a → Tot (f (m + 1) a) Y)
    (step : ∀ m i a (Q : Out → Prop) (hi : i < l.length), Inv i a → (q l[i] = true → ∀ a', Inv (i + 1) a' → Tot (f m a') Q) → (q l[i] = false → ∀ o, No o → Q o) → Tot (f (m + 1) a) Q) :
    ∀ N a, l.length < N → Inv 0 a → Tot (f N a) fun o => (l.all q = true ∧ Y o) ∨ (l.all q = false ∧ No o) := by
  intro N a h ha
  refine (Tot.findI (q := fun x => !q x) (Inv := Inv) (Y := Y) (No := fun _ _ => No) last (fun m i a Q hi hv h1 h2 => step m i a Q hi hv (fun h => h1 (by rw [h]; rfl)) fun h => h2 (by rw [h]; rfl)) N a h ha).mono fun o ho => ?_
  rcases ho with ⟨h1, h2⟩ | ⟨i, hi, h1, h2, h3⟩
  · simp only [Bool.not_not] at h1
    exact .inl ⟨h1, h2⟩
  · refine .inr ⟨?_, h3⟩
    rw [← Bool.not_eq_true]
    intro hall
    have := List.all_eq_true.1 hall _ (List.getElem_mem hi)
    rw [this] at h1
    cases h1
end Go.VI
namespace Go.Proofs.Ytncfllndmjjljaa.Bt
end Go.Proofs.Ytncfllndmjjljaa.Bt
