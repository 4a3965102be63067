/- Plain facts of loops and rows; what lies in memory. -/
import Derived.Test.YtiiiipdnodgkmaaGLt
import Derived.Test.YtiiiipdnodgkmaaVIC
import Derived.Test.YtiiiipdnodgkmaaDecLt
namespace Go.VI
set_option linter.unusedVariables false
set_option linter.unusedSimpArgs false

/-- From i on, k of them. -/
def allN (ok : Nat → Bool) : Nat → Nat → Bool
  | _, 0 => true
  | i, k + 1 => ok i && allN ok (i + 1) k
theorem allN_iff {ok : Nat → Bool} : ∀ {k i : Nat}, allN ok i k = true ↔ ∀ j, i ≤ j → j < i + k → ok j = true
  | 0, i => by simp only [allN, true_iff]; intro j h1 h2; omega
  | k + 1, i => by
    simp only [allN, Bool.and_eq_true, allN_iff (k := k)]
    constructor
    · rintro ⟨h1, h2⟩ j h3 h4
      by_cases e : j = i
      · rw [e]; exact h1
      · exact h2 j (by omega) (by omega)
    · intro h
      exact ⟨h i (by omega) (by omega), fun j h1 h2 => h j (by omega) (by omega)⟩
theorem allN_congr {p q : Nat → Bool} {i k : Nat} (h : ∀ j, i ≤ j → j < i + k → p j = q j) : allN p i k = allN q i k := by
  rw [Bool.eq_iff_iff, allN_iff, allN_iff]
  constructor <;> intro h' j h1 h2 <;> have := h' j h1 h2
  · rw [← h j h1 h2]; exact this
  · rw [h j h1 h2]; exact this
/-- A loop that goes over a row, and is left at the first that is not so. -/
theorem Tot.all {A Out : Type} {f : Nat → A → Option Out} {Inv : Nat → A → Prop} {Y No : Out → Prop} (n : Nat) (ok : Nat → Bool)
    (last : ∀ m a, Inv n a → Tot (f (m + 1) a) Y)
    (step : ∀ m i a (Q : Out → Prop), Inv i a → i < n → (ok i = true → ∀ a', Inv (i + 1) a' → Tot (f m a') Q) → (ok i = false → ∀ o, No o → Q o) → Tot (f (m + 1) a) Q) :
    ∀ m i a, i ≤ n → Inv i a → n - i < m → Tot (f m a) fun o => if allN ok i (n - i) = true then Y o else No o
  | 0, i, a, _, _, h => by omega
  | m + 1, i, a, hi, ha, h => by
    by_cases e : i = n
    · subst e
      rw [Nat.sub_self]
      exact (last m a ha).mono fun o ho => by simp only [allN, if_true]; exact ho
    · refine step m i a _ ha (by omega) (fun hok a' ha' => ?_) (fun hok o ho => ?_)
      · refine (Tot.all n ok last step m (i + 1) a' (by omega) ha' (by omega)).mono fun o ho => ?_
        have e1 : allN ok i (n - i) = allN ok (i + 1) (n - (i + 1)) := by
          rw [show n - i = (n - (i + 1)) + 1 by omega]
          simp only [allN, hok, Bool.true_and]
        rw [e1]; exact ho
      · have e1 : allN ok i (n - i) = false := by
          rw [show n - i = (n - (i + 1)) + 1 by omega]
          simp only [allN, hok, Bool.false_and]
        rw [e1, if_neg (by decide)]; exact ho
/-- Over a row, where what comes out depends on the place. -/
theorem Tot.rangeI {A Out : Type} {f : Nat → A → Option Out} {Inv : Nat → A → Prop} {Q : Nat → Out → Prop} (n : Nat)
    (step : ∀ m i a, Inv i a → i ≤ n → (∀ j a', i < j → j ≤ n → Inv j a' → Tot (f m a') (Q j)) → Tot (f (m + 1) a) (Q i)) :
    ∀ m i a, i ≤ n → Inv i a → n - i < m → Tot (f m a) (Q i)
  | 0, i, a, _, _, h => by omega
  | m + 1, i, a, hi, ha, h => step m i a ha hi fun j a' h1 h2 h3 => Tot.rangeI n step m j a' h2 h3 (by omega)
/-- A loop that gathers what is so. -/
theorem Tot.filt {A Out α : Type} {f : Nat → A → Option Out} {l : List α} {p : α → Bool} {mk : Nat → List α → A} {Y : List α → Out → Prop}
    (last : ∀ m, Tot (f (m + 1) (mk l.length (l.filter p))) (Y (l.filter p)))
    (step : ∀ m i (Q : Out → Prop) (hi : i < l.length), (p l[i] = true → Tot (f m (mk (i + 1) ((l.take i).filter p ++ [l[i]]))) Q) → (p l[i] = false → Tot (f m (mk (i + 1) ((l.take i).filter p))) Q) → Tot (f (m + 1) (mk i ((l.take i).filter p))) Q) :
    ∀ N, l.length < N → Tot (f N (mk 0 [])) (Y (l.filter p)) := by
  have go : ∀ m i, i ≤ l.length → l.length - i < m → Tot (f m (mk i ((l.take i).filter p))) (Y (l.filter p)) := by
    intro m
    induction m with
    | zero => intro i _ h; omega
    | succ m ih =>
      intro i hi h
      by_cases e : i = l.length
      · subst e; rw [List.take_length]; exact last m
      · have hlt : i < l.length := by omega
        have hs : (l.take (i + 1)).filter p = (l.take i).filter p ++ (if p l[i] then [l[i]] else []) := by
          rw [List.take_add_one, List.getElem?_eq_getElem hlt, List.filter_append]
          simp only [Option.toList_some, List.filter_cons, List.filter_nil]
        have hn := ih (i + 1) (by omega) (by omega)
        refine step m i _ hlt (fun h => ?_) fun h => ?_
        · rw [hs, if_pos h] at hn; exact hn
        · rw [hs, if_neg (by rw [h]; decide), List.append_nil] at hn; exact hn
  intro N h
  exact go N 0 (by omega) (by omega)
theorem ble_filt {α : Type} {l : List α} {p : α → Bool} {i : Nat} (h : l.length ≤ 1000000) : Nat.ble (((l.take i).filter p).length + 1) maxElems = true :=
  Nat.ble_eq_true_of_le (by
    have : ((l.take i).filter p).length ≤ l.length := Nat.le_trans (List.length_filter_le _ _) (by rw [List.length_take]; omega)
    unfold maxElems; omega)
theorem wi {i : Nat} (h : i < 4611686018427387904) : IntKind.i64.wrap ((i : Int) + 1) = ((i + 1 : Nat) : Int) := by rw [w64 (by omega) (by omega)]; omega
theorem at_lt {α : Type} {l : List α} {i : Nat} (h : i < l.length) : l[i]? = some l[i] := List.getElem?_eq_getElem h

/-- Is the element at a place so? -/
def atP {α : Type} (p : α → Bool) (l : List α) (j : Nat) : Bool := match l[j]? with
  | some y => p y
  | none => false
theorem atP_lt {α : Type} {p : α → Bool} {l : List α} {j : Nat} (h : j < l.length) : atP p l j = p l[j] := by unfold atP; rw [at_lt h]
theorem all_take {α : Type} {l : List α} {p : α → Bool} : ∀ {k : Nat}, k ≤ l.length → allN (atP p l) 0 k = (l.take k).all p := by
  intro k hk
  rw [Bool.eq_iff_iff, allN_iff, List.all_eq_true]
  constructor
  · intro h y hy
    obtain ⟨i, hi⟩ := List.mem_iff_getElem?.1 hy
    have hik : i < k := by have := (List.getElem?_eq_some_iff.1 hi).1; rw [List.length_take] at this; omega
    have := h i (by omega) (by omega)
    rw [List.getElem?_take_of_lt hik] at hi
    unfold atP at this
    simp only [hi] at this; exact this
  · intro h j h1 h2
    have hj : l[j]? = some l[j] := at_lt (by omega)
    unfold atP
    simp only [hj]
    exact h _ (List.mem_iff_getElem?.2 ⟨j, by rw [List.getElem?_take_of_lt (by omega)]; exact hj⟩)
theorem all_full {α : Type} {l : List α} {p : α → Bool} : allN (atP p l) 0 l.length = l.all p := by rw [all_take (Nat.le_refl _), List.take_length]

theorem keq_str (a b : ByteArray) : Ty.str.keq a b = decide (a = b) := rfl
theorem mget_mset_str {β : Type} (k k' : ByteArray) (v : β) : ∀ (es : List (ByteArray × β)), mget Ty.str (mset Ty.str es k v) k' = if k' = k then some v else mget Ty.str es k'
  | [] => by
    simp only [mset, mget, keq_str]
    rw [br_dec]
  | e :: es => by
    have ih := mget_mset_str k k' v es
    simp only [mset, keq_str]
    rw [br_dec]
    by_cases h : k = e.1
    · rw [if_pos h]
      simp only [mget, keq_str]
      rw [br_dec, br_dec, ← h]
      by_cases h' : k' = k <;> simp [h']
    · rw [if_neg h]
      simp only [mget, keq_str]
      rw [br_dec, br_dec, ih]
      by_cases h' : k' = e.1
      · rw [if_pos h', if_pos h', if_neg (fun h'' => h (by rw [← h'', h']))]
      · rw [if_neg h', if_neg h']
end Go.VI
namespace Go.Proofs.Ytiiiipdnodgkmaa.Lt
open Go Go.VI
set_option linter.unusedVariables false
set_option linter.unusedSimpArgs false
set_option maxRecDepth 100000

def Big (N : Nat) : Prop := 281474976710656 ≤ N
theorem big : Big (281474976710656 + 300) := by unfold Big; omega
def okS (s : ByteArray) : Prop := s.size ≤ 140737488355328
abbrev Labels := List (ByteArray × ByteArray)
abbrev Taints := List (ByteArray × ByteArray × Int)
def okL (l : Labels) : Prop := l.length ≤ 140737488355328 ∧ ∀ x ∈ l, okS x.1 ∧ okS x.2
def okT (l : Taints) : Prop := l.length ≤ 140737488355328 ∧ ∀ x ∈ l, okS x.1 ∧ okS x.2.1
abbrev Res := Int × Int × Int × Int × Int
abbrev Mach := ByteArray × ByteArray × Res × Labels × Taints × Bool
def okM (m : Mach) : Prop := okS m.1 ∧ okS m.2.1 ∧ okL m.2.2.2.1 ∧ okT m.2.2.2.2.1
abbrev nameless : ByteArray := ByteArray.mk (List.toArray [])

end Go.Proofs.Ytiiiipdnodgkmaa.Lt
