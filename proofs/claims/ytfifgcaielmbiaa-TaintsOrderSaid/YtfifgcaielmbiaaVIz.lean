/- Plain helpers for what printed functions compute: two ways, numbers, rows, answers that are there. -/
import Derived.Test.YtfifgcaielmbiaaVIy
namespace Go.VI
set_option linter.unusedVariables false

theorem br_true {α : Sort _} (a b : α) : br true a b = a := rfl
theorem br_false {α : Sort _} (a b : α) : br false a b = b := rfl
theorem br_dec {α : Sort _} {p : Prop} [Decidable p] (a b : α) : br (decide p) a b = if p then a else b := by
  by_cases h : p <;> simp [h, br]
theorem br_ite {α : Sort _} (c : Bool) (a b : α) : br c a b = if c = true then a else b := by cases c <;> rfl
theorem bEq_beq (a b : Bool) : bEq a b = (a == b) := by cases a <;> cases b <;> rfl
theorem w64 {x : Int} (h1 : -9223372036854775808 ≤ x) (h2 : x ≤ 9223372036854775807) : IntKind.i64.wrap x = x := by
  simp only [IntKind.wrap, IntKind.bits, IntKind.signed]
  simp
  split <;> omega
theorem w32 {x : Int} (h1 : -2147483648 ≤ x) (h2 : x ≤ 2147483647) : IntKind.i32.wrap x = x := by
  simp only [IntKind.wrap, IntKind.bits, IntKind.signed]
  simp
  split <;> omega
theorem wu64 {x : Int} (h1 : 0 ≤ x) (h2 : x ≤ 18446744073709551615) : IntKind.u64.wrap x = x := by
  simp only [IntKind.wrap, IntKind.bits, IntKind.signed]
  simp
  omega
theorem wu32 {x : Int} (h1 : 0 ≤ x) (h2 : x ≤ 4294967295) : IntKind.u32.wrap x = x := by
  simp only [IntKind.wrap, IntKind.bits, IntKind.signed]
  simp
  omega
theorem wu8 {x : Int} (h1 : 0 ≤ x) (h2 : x ≤ 255) : IntKind.u8.wrap x = x := by
  simp only [IntKind.wrap, IntKind.bits, IntKind.signed]
  simp
  omega
theorem byte_lt (b : UInt8) : (b.toNat : Int) < 256 := by have := b.toNat_lt; omega
theorem wByte (b : UInt8) : IntKind.i64.wrap ((b.toNat : Nat) : Int) = ((b.toNat : Nat) : Int) := by have := b.toNat_lt; exact w64 (by omega) (by omega)

theorem decT {p : Prop} [Decidable p] (h : decide p = true) : p := of_decide_eq_true h
theorem decF {p : Prop} [Decidable p] (h : decide p = false) : ¬ p := of_decide_eq_false h
/-- An answer that is there, and what is known of it. -/
def Tot {α : Type} (o : Option α) (Q : α → Prop) : Prop := ∃ v, o = some v ∧ Q v
theorem Tot.br {α : Type} {c : Bool} {a b : Option α} {Q : α → Prop} (h1 : c = true → Tot a Q) (h2 : c = false → Tot b Q) : Tot (br c a b) Q := by
  cases c
  · exact h2 rfl
  · exact h1 rfl
theorem Tot.brD {α : Type} {p : Prop} [Decidable p] {a b : Option α} {Q : α → Prop} (h1 : p → Tot a Q) (h2 : ¬ p → Tot b Q) : Tot (VI.br (decide p) a b) Q :=
  Tot.br (fun h => h1 (decT h)) fun h => h2 (decF h)
theorem Tot.brN {α : Type} {m n : Nat} {a b : Option α} {Q : α → Prop} (h1 : m ≤ n → Tot a Q) (h2 : ¬ m ≤ n → Tot b Q) : Tot (VI.br (Nat.ble m n) a b) Q :=
  Tot.br (fun h => h1 (Nat.le_of_ble_eq_true h)) fun h => h2 fun h' => by rw [Nat.ble_eq_true_of_le h'] at h; cases h
theorem Tot.bind {α β : Type} {a : Option α} {f : α → Option β} {P : α → Prop} {Q : β → Prop} (h : Tot a P) (h' : ∀ v, P v → Tot (f v) Q) : Tot (a.bind f) Q := by
  obtain ⟨v, rfl, hv⟩ := h
  exact h' v hv
theorem Tot.some {α : Type} {v : α} {Q : α → Prop} (h : Q v) : Tot (some v) Q := ⟨v, rfl, h⟩
theorem Tot.mono {α : Type} {o : Option α} {P Q : α → Prop} (h : Tot o P) (h' : ∀ v, P v → Q v) : Tot o Q := by
  obtain ⟨v, e, hv⟩ := h
  exact ⟨v, e, h' v hv⟩
theorem Tot.idx {α β : Type} {l : List α} {i : Nat} {f : α → Option β} {Q : β → Prop} (hi : i < l.length) (h : ∀ v, l[i]? = Option.some v → Tot (f v) Q) : Tot (Option.bind l[i]? f) Q := by
  have e : l[i]? = Option.some l[i] := List.getElem?_eq_getElem hi
  rw [e]
  exact h _ e
theorem Tot.elim {α β γ : Type} {x : α ⊕ β} {f : α → Option γ} {g : β → Option γ} {Q : γ → Prop} (h1 : ∀ a, x = .inl a → Tot (f a) Q) (h2 : ∀ b, x = .inr b → Tot (g b) Q) : Tot (Sum.elim f g x) Q := by
  cases x
  · exact h1 _ rfl
  · exact h2 _ rfl
theorem size_list (s : ByteArray) : s.data.toList.length = s.size := by rw [Array.length_toList]; rfl

/-- A loop that goes over a row by its number: what each round does, and where it ends. -/
theorem Tot.range {A Out : Type} {f : Nat → A → Option Out} {Inv : Nat → A → Prop} {Q : Out → Prop} (n : Nat)
    (step : ∀ m i a, Inv i a → i ≤ n → (∀ j a', i < j → j ≤ n → Inv j a' → Tot (f m a') Q) → Tot (f (m + 1) a) Q) :
    ∀ m i a, i ≤ n → Inv i a → n - i < m → Tot (f m a) Q
  | 0, i, a, _, _, h => by omega
  | m + 1, i, a, hi, ha, h => step m i a ha hi fun j a' h1 h2 h3 => Tot.range n step m j a' h2 h3 (by omega)
end Go.VI
