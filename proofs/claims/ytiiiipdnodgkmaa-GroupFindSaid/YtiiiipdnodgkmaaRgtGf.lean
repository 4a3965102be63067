/- What is right: words, labels, taints, machines: the functions and the document's words tell the same. -/
import Derived.Test.YtiiiipdnodgkmaaWordGf
import Derived.Test.YtiiiipdnodgkmaaDecGf
namespace Go.VI
set_option linter.unusedVariables false
set_option linter.unusedSimpArgs false

/-- From i on, k of them. -/
def allN (ok : Nat → Bool) : Nat → Nat → Bool
  | _, 0 => true
  | i, k + 1 => ok i && allN ok (i + 1) k
theorem allN_iff {ok : Nat → Bool} : ∀ {k i : Nat}, allN ok i k = true ↔ ∀ j, i ≤ j → j < i + k → ok j = true
  | 0, i => by simp only [allN, true_iff]; intro j h1 h2; omega
  | k + 1, i => by
    simp only [allN, Bool.and_eq_true, allN_iff (k := k)]
    constructor
    · rintro ⟨h1, h2⟩ j h3 h4
      by_cases e : j = i
      · rw [e]; exact h1
      · exact h2 j (by omega) (by omega)
    · intro h
      exact ⟨h i (by omega) (by omega), fun j h1 h2 => h j (by omega) (by omega)⟩
theorem allN_congr {p q : Nat → Bool} {i k : Nat} (h : ∀ j, i ≤ j → j < i + k → p j = q j) : allN p i k = allN q i k := by
  rw [Bool.eq_iff_iff, allN_iff, allN_iff]
  constructor <;> intro h' j h1 h2 <;> have := h' j h1 h2
  · rw [← h j h1 h2]; exact this
  · rw [h j h1 h2]; exact this
/-- A loop that goes over a row, and is left at the first that is not so. -/
theorem Tot.all {A Out : Type} {f : Nat → A → Option Out} {Inv : Nat → A → Prop} {Y No : Out → Prop} (n : Nat) (ok : Nat → Bool)
    (last : ∀ m a, Inv n a → Tot (f (m + 1) a) Y)
    (step : ∀ m i a (Q : Out → Prop), Inv i a → i < n → (ok i = true → ∀ a', Inv (i + 1) a' → Tot (f m a') Q) → (ok i = false → ∀ o, No o → Q o) → Tot (f (m + 1) a) Q) :
    ∀ m i a, i ≤ n → Inv i a → n - i < m → Tot (f m a) fun o => if allN ok i (n - i) = true then Y o else No o
  | 0, i, a, _, _, h => by omega
  | m + 1, i, a, hi, ha, h => by
    by_cases e : i = n
    · subst e
      rw [Nat.sub_self]
      exact (last m a ha).mono fun o ho => by simp only [allN, if_true]; exact ho
    · refine step m i a _ ha (by omega) (fun hok a' ha' => ?_) (fun hok o ho => ?_)
      · refine (Tot.all n ok last step m (i + 1) a' (by omega) ha' (by omega)).mono fun o ho => ?_
        have e1 : allN ok i (n - i) = allN ok (i + 1) (n - (i + 1)) := by
          rw [show n - i = (n - (i + 1)) + 1 by omega]
          simp only [allN, hok, Bool.true_and]
        rw [e1]; exact ho
      · have e1 : allN ok i (n - i) = false := by
          rw [show n - i = (n - (i + 1)) + 1 by omega]
          simp only [allN, hok, Bool.false_and]
        rw [e1, if_neg (by decide)]; exact ho
/-- Over a row, where what comes out depends on the place. -/
theorem Tot.rangeI {A Out : Type} {f : Nat → A → Option Out} {Inv : Nat → A → Prop} {Q : Nat → Out → Prop} (n : Nat)
    (step : ∀ m i a, Inv i a → i ≤ n → (∀ j a', i < j → j ≤ n → Inv j a' → Tot (f m a') (Q j)) → Tot (f (m + 1) a) (Q i)) :
    ∀ m i a, i ≤ n → Inv i a → n - i < m → Tot (f m a) (Q i)
  | 0, i, a, _, _, h => by omega
  | m + 1, i, a, hi, ha, h => step m i a ha hi fun j a' h1 h2 h3 => Tot.rangeI n step m j a' h2 h3 (by omega)
theorem wi {i : Nat} (h : i < 4611686018427387904) : IntKind.i64.wrap ((i : Int) + 1) = ((i + 1 : Nat) : Int) := by rw [w64 (by omega) (by omega)]; omega
theorem at_lt {α : Type} {l : List α} {i : Nat} (h : i < l.length) : l[i]? = some l[i] := List.getElem?_eq_getElem h

/-- Is the element at a place so? -/
def atP {α : Type} (p : α → Bool) (l : List α) (j : Nat) : Bool := match l[j]? with
  | some y => p y
  | none => false
theorem atP_lt {α : Type} {p : α → Bool} {l : List α} {j : Nat} (h : j < l.length) : atP p l j = p l[j] := by unfold atP; rw [at_lt h]
theorem all_take {α : Type} {l : List α} {p : α → Bool} : ∀ {k : Nat}, k ≤ l.length → allN (atP p l) 0 k = (l.take k).all p := by
  intro k hk
  rw [Bool.eq_iff_iff, allN_iff, List.all_eq_true]
  constructor
  · intro h y hy
    obtain ⟨i, hi⟩ := List.mem_iff_getElem?.1 hy
    have hik : i < k := by have := (List.getElem?_eq_some_iff.1 hi).1; rw [List.length_take] at this; omega
    have := h i (by omega) (by omega)
    rw [List.getElem?_take_of_lt hik] at hi
    unfold atP at this
    simp only [hi] at this; exact this
  · intro h j h1 h2
    have hj : l[j]? = some l[j] := at_lt (by omega)
    unfold atP
    simp only [hj]
    exact h _ (List.mem_iff_getElem?.2 ⟨j, by rw [List.getElem?_take_of_lt (by omega)]; exact hj⟩)
theorem all_full {α : Type} {l : List α} {p : α → Bool} : allN (atP p l) 0 l.length = l.all p := by rw [all_take (Nat.le_refl _), List.take_length]

theorem keq_str (a b : ByteArray) : Ty.str.keq a b = decide (a = b) := rfl
theorem mget_mset_str {β : Type} (k k' : ByteArray) (v : β) : ∀ (es : List (ByteArray × β)), mget Ty.str (mset Ty.str es k v) k' = if k' = k then some v else mget Ty.str es k'
  | [] => by
    simp only [mset, mget, keq_str]
    rw [br_dec]
  | e :: es => by
    have ih := mget_mset_str k k' v es
    simp only [mset, keq_str]
    rw [br_dec]
    by_cases h : k = e.1
    · rw [if_pos h]
      simp only [mget, keq_str]
      rw [br_dec, br_dec, ← h]
      by_cases h' : k' = k <;> simp [h']
    · rw [if_neg h]
      simp only [mget, keq_str]
      rw [br_dec, br_dec, ih]
      by_cases h' : k' = e.1
      · rw [if_pos h', if_pos h', if_neg (fun h'' => h (by rw [← h'', h']))]
      · rw [if_neg h', if_neg h']
end Go.VI
namespace Go.Proofs.Ytiiiipdnodgkmaa.Gf
open Go Go.VI
set_option linter.unusedVariables false
set_option linter.unusedSimpArgs false
set_option maxRecDepth 100000

def Big (N : Nat) : Prop := 281474976710656 ≤ N
theorem big : Big (281474976710656 + 300) := by unfold Big; omega
def okS (s : ByteArray) : Prop := s.size ≤ 140737488355328
abbrev Labels := List (ByteArray × ByteArray)
abbrev Taints := List (ByteArray × ByteArray × Int)
def okL (l : Labels) : Prop := l.length ≤ 140737488355328 ∧ ∀ x ∈ l, okS x.1 ∧ okS x.2
def okT (l : Taints) : Prop := l.length ≤ 140737488355328 ∧ ∀ x ∈ l, okS x.1 ∧ okS x.2.1
abbrev Res := Int × Int × Int × Int × Int
abbrev Mach := ByteArray × ByteArray × Res × Labels × Taints × Bool
def okM (m : Mach) : Prop := okS m.1 ∧ okS m.2.1 ∧ okL m.2.2.2.1 ∧ okT m.2.2.2.2.1
abbrev nameless : ByteArray := ByteArray.mk (List.toArray [])

def wordB (N : Nat) (s : ByteArray) : Bool := match G_lex_Word N (s, ()) with
  | some v => v.1
  | none => false
theorem lex_Word_is {N : Nat} (hN : Big N) {s : ByteArray} (hs : okS s) : G_lex_Word N (s, ()) = some (wordB N s, ()) := by
  unfold Big at hN; unfold okS at hs
  obtain ⟨b, h1, h2⟩ := Word_is N s (by omega) (by omega)
  unfold wordB; rw [h1]
theorem ref01_Word_is {N : Nat} (hN : Big N) {s : ByteArray} (hs : okS s) : G_ref01_Word N (s, ()) = some (wordB N s, ()) := by
  unfold Big at hN; unfold okS at hs
  obtain ⟨b, h1, h2⟩ := Word_is N s (by omega) (by omega)
  unfold wordB; rw [h1]; exact h2
def maybeB (N : Nat) (s : ByteArray) : Bool := decide (s = nameless) || wordB N s

theorem labels_maybe_is {N : Nat} (hN : Big N) {s : ByteArray} (hs : okS s) : G_labels_maybe N (s, ()) = some (maybeB N s, ()) := by
  unfold G_labels_maybe S_labels_maybe maybeB
  simp only [lex_Word_is hN hs, Option.bind_some]
  by_cases h : s = nameless <;> simp [h, br]
theorem taints_maybe_is {N : Nat} (hN : Big N) {s : ByteArray} (hs : okS s) : G_taints_maybe N (s, ()) = some (maybeB N s, ()) := by
  unfold G_taints_maybe S_taints_maybe maybeB
  simp only [lex_Word_is hN hs, Option.bind_some]
  by_cases h : s = nameless <;> simp [h, br]
theorem spec_maybe_is {N : Nat} (hN : Big N) {s : ByteArray} (hs : okS s) : G_spec_maybe N (s, ()) = some (maybeB N s, ()) := by
  unfold G_spec_maybe S_spec_maybe maybeB
  simp only [lex_Word_is hN hs, Option.bind_some]
  by_cases h : s = nameless <;> simp [h, br]
theorem ref05_maybe_is {N : Nat} (hN : Big N) {s : ByteArray} (hs : okS s) : G_ref05_maybe N (s, ()) = some (maybeB N s, ()) := by
  unfold G_ref05_maybe S_ref05_maybe maybeB
  simp only [ref01_Word_is hN hs, Option.bind_some]
  by_cases h : s = nameless <;> simp [h, br]
theorem ref06_maybe_is {N : Nat} (hN : Big N) {s : ByteArray} (hs : okS s) : G_ref06_maybe N (s, ()) = some (maybeB N s, ()) := by
  unfold G_ref06_maybe S_ref06_maybe maybeB
  simp only [ref01_Word_is hN hs, Option.bind_some]
  by_cases h : s = nameless <;> simp [h, br]
theorem ref07_maybe_is {N : Nat} (hN : Big N) {s : ByteArray} (hs : okS s) : G_ref07_maybe N (s, ()) = some (maybeB N s, ()) := by
  unfold G_ref07_maybe S_ref07_maybe maybeB
  simp only [ref01_Word_is hN hs, Option.bind_some]
  by_cases h : s = nameless <;> simp [h, br]

/-! Labels -/
theorem Less_is (N : Nat) (hN : Big N) {a b : ByteArray} (ha : okS a) (hb : okS b) : G_ref05_Less N (a, b, ()) = some (bl a b, ()) := by
  unfold Big at hN; unfold okS at ha hb
  have sa := size_list a
  have sb := size_list b
  have loop : ∀ m (i : Nat) (x : (ByteArray × ByteArray × Int × Unit) × Unit), i ≤ a.size → x = ((a, b, (i : Int), ()), ()) → a.size - i < m → Tot (g_ref05_Less_2 N m x) fun o =>
      Op.bytesLess (a.data.toList.drop i) (b.data.toList.drop i) = Sum.elim (fun v => decide (((v.1.1.size : Nat) : Int) < ((v.1.2.1.size : Nat) : Int))) (fun v => v.1.1) o := by
    intro m
    induction m with
    | zero => intro i x h1 h2 h3; omega
    | succ m ih =>
      intro i x h1 h2 h3
      subst h2
      rw [g_ref05_Less_2_succ]
      unfold s_ref05_Less_2
      by_cases hi : i < a.size
      · have ga : a.data.toList.drop i = a.data.toList[i] :: a.data.toList.drop (i + 1) := List.drop_eq_getElem_cons (by omega)
        have d1 : decide ((i : Int) < ((a.size : Nat) : Int)) = true := decide_eq_true (by omega)
        have d0 : decide ((0 : Int) ≤ (i : Int)) = true := decide_eq_true (by omega)
        by_cases hj : i < b.size
        · have gb : b.data.toList.drop i = b.data.toList[i] :: b.data.toList.drop (i + 1) := List.drop_eq_getElem_cons (by omega)
          have d2 : decide ((i : Int) < ((b.size : Nat) : Int)) = true := decide_eq_true (by omega)
          simp only [d0, d1, d2, br_true, Int.toNat_natCast, at_lt (l := a.data.toList) (i := i) (by omega), at_lt (l := b.data.toList) (i := i) (by omega), Option.bind_some, wi (i := i) (by omega)]
          rw [ga, gb]
          generalize hx : a.data.toList[i] = x
          generalize hy : b.data.toList[i] = y
          by_cases e : x.toNat = y.toNat
          · have d3 : decide (((x.toNat : Nat) : Int) = ((y.toNat : Nat) : Int)) = true := decide_eq_true (by omega)
            simp only [d3, Bool.not_true, br_false]
            refine (ih (i + 1) _ (by omega) rfl (by omega)).mono fun o ho => ?_
            rw [← ho, Bool.eq_iff_iff, bL_cons]
            constructor
            · rintro (h | h)
              · omega
              · exact h.2
            · intro h; exact .inr ⟨e, h⟩
          · have d3 : decide (((x.toNat : Nat) : Int) = ((y.toNat : Nat) : Int)) = false := decide_eq_false (by omega)
            simp only [d3, Bool.not_false, br_true]
            refine Tot.some ?_
            show _ = decide (((x.toNat : Nat) : Int) < ((y.toNat : Nat) : Int))
            rw [Bool.eq_iff_iff, bL_cons, decide_eq_true_eq]
            constructor
            · rintro (h | h)
              · omega
              · exact absurd h.1 e
            · intro h; left; omega
        · have gb : b.data.toList.drop i = [] := List.drop_eq_nil_of_le (by omega)
          have d2 : decide ((i : Int) < ((b.size : Nat) : Int)) = false := decide_eq_false (by omega)
          simp only [d1, d2, br_true, br_false]
          refine Tot.some ?_
          rw [ga, gb]
          show false = decide (((a.size : Nat) : Int) < ((b.size : Nat) : Int))
          symm; exact decide_eq_false (by omega)
      · have ga : a.data.toList.drop i = [] := List.drop_eq_nil_of_le (by omega)
        have d1 : decide ((i : Int) < ((a.size : Nat) : Int)) = false := decide_eq_false (by omega)
        simp only [d1, br_false]
        refine Tot.some ?_
        rw [ga]
        show _ = decide (((a.size : Nat) : Int) < ((b.size : Nat) : Int))
        by_cases hj : i < b.size
        · have gb : b.data.toList.drop i = b.data.toList[i] :: b.data.toList.drop (i + 1) := List.drop_eq_getElem_cons (by omega)
          rw [gb]
          show true = _
          symm; exact decide_eq_true (by omega)
        · have gb : b.data.toList.drop i = [] := List.drop_eq_nil_of_le (by omega)
          rw [gb]
          show false = _
          symm; exact decide_eq_false (by omega)
  obtain ⟨o, e, ho⟩ := loop N 0 _ (by omega) rfl (by omega)
  have e : g_ref05_Less_2 N N ((a, b, 0, ()), ()) = some o := e
  unfold G_ref05_Less S_ref05_Less
  simp only [e, Option.bind_some]
  have hb' : bl a b = Op.bytesLess (a.data.toList.drop 0) (b.data.toList.drop 0) := by
    unfold bl; rw [toList_data, toList_data]; rfl
  rw [hb', ho]
  cases o <;> rfl

def okLab (N : Nat) (l : Labels) (i : Nat) : Bool := match l[i]? with
  | some v => (wordB N v.1 && maybeB N v.2) && (i == 0 || match l[i - 1]? with
    | some u => bl u.1 v.1
    | none => false)
  | none => false
def rightL (N : Nat) (l : Labels) : Bool := decide (l.length ≤ 16) && allN (okLab N l) 0 l.length
/-- The same, as the program asks it. -/
def okLabP (N : Nat) (l : Labels) (i : Nat) : Bool := match l[i]? with
  | some v => (decide ((l.take i).countP (fun y => decide (y.1 = v.1)) = 0) && (wordB N v.1 && maybeB N v.2)) && (i == 0 || match l[i - 1]? with
    | some u => !bl v.1 u.1
    | none => false)
  | none => false
theorem okLab_same (N : Nat) (l : Labels) : allN (okLabP N l) 0 l.length = allN (okLab N l) 0 l.length := by
  rw [Bool.eq_iff_iff, allN_iff, allN_iff]
  constructor
  · intro h j h1 h2
    have hj := h j h1 h2
    have hlt : j < l.length := by omega
    unfold okLabP at hj
    unfold okLab
    rw [at_lt hlt] at hj ⊢
    simp only [Bool.and_eq_true] at hj ⊢
    obtain ⟨⟨c1, c2⟩, c3⟩ := hj
    refine ⟨c2, ?_⟩
    by_cases e : j = 0
    · simp [e]
    · have hp : l[j - 1]? = some l[j - 1] := at_lt (by omega)
      have e' : (j == 0) = false := by simp [e]
      rw [hp, e'] at c3 ⊢
      simp only [Bool.false_or] at c3 ⊢
      refine bl_tri (by simpa using c3) fun e2 => ?_
      have c1 := of_decide_eq_true c1
      rw [List.countP_eq_zero] at c1
      exact c1 l[j - 1] (List.mem_iff_getElem?.2 ⟨j - 1, by rw [List.getElem?_take_of_lt (by omega)]; exact hp⟩) (decide_eq_true e2.symm)
  · intro h
    have lt : ∀ d i (hd : i + d + 1 < l.length), bl (l[i]'(by omega)).1 (l[i + d + 1]).1 = true := by
      intro d
      induction d with
      | zero =>
        intro i hd
        have := h (i + 1) (by omega) (by omega)
        unfold okLab at this
        rw [at_lt (by omega)] at this
        have hp : l[i + 1 - 1]? = some l[i] := at_lt (l := l) (i := i) (by omega)
        rw [hp] at this
        simp only [Bool.and_eq_true, Bool.or_eq_true, beq_iff_eq] at this
        rcases this.2 with h0 | h0
        · omega
        · exact h0
      | succ d ih =>
        intro i hd
        have s1 := ih i (by omega)
        have := h (i + d + 1 + 1) (by omega) (by omega)
        unfold okLab at this
        rw [at_lt (by omega)] at this
        have hp : l[i + d + 1 + 1 - 1]? = some l[i + d + 1] := at_lt (l := l) (i := i + d + 1) (by omega)
        rw [hp] at this
        simp only [Bool.and_eq_true, Bool.or_eq_true, beq_iff_eq] at this
        rcases this.2 with h0 | h0
        · omega
        · exact bl_trans s1 h0
    intro j h1 h2
    have hj := h j h1 h2
    have hlt : j < l.length := by omega
    unfold okLab at hj
    unfold okLabP
    rw [at_lt hlt] at hj ⊢
    simp only [Bool.and_eq_true] at hj ⊢
    refine ⟨⟨decide_eq_true ?_, hj.1⟩, ?_⟩
    · rw [List.countP_eq_zero]
      intro y hy
      obtain ⟨i, hi⟩ := List.mem_iff_getElem?.1 hy
      have hij : i < j := by
        have := (List.getElem?_eq_some_iff.1 hi).1
        rw [List.length_take] at this; omega
      rw [List.getElem?_take_of_lt hij, at_lt (by omega)] at hi
      cases hi
      have := lt (j - i - 1) i (by omega)
      simp only [show i + (j - i - 1) + 1 = j by omega] at this
      simpa using bl_ne this
    · by_cases e : j = 0
      · simp [e]
      · have hp : l[j - 1]? = some l[j - 1] := at_lt (by omega)
        have e' : (j == 0) = false := by simp [e]
        have := lt 0 (j - 1) (by omega)
        simp only [show j - 1 + 0 + 1 = j by omega] at this
        rw [hp, e']
        simp only [Bool.false_or, bl_not this, Bool.not_false]

theorem ref05_Right_is (N : Nat) (hN : Big N) {l : Labels} (hl : okL l) : G_ref05_Right N (l, ()) = some (rightL N l, ()) := by
  have hN' := hN
  unfold Big at hN'; obtain ⟨h1, h2⟩ := hl
  have loop := Tot.all (f := g_ref05_Right_4 N) (Inv := fun i x => x = ((l, (i : Int), ()), ())) (Y := fun o => ∃ y, o = .inl y) (No := fun o => ∃ y, o = .inr ((false, ()), y)) l.length (okLab N l)
    (fun m a ha => by
      subst ha
      rw [g_ref05_Right_4_succ]
      unfold s_ref05_Right_4
      exact Tot.brD (fun h => absurd h (by dsimp only; omega)) fun _ => Tot.some ⟨_, rfl⟩)
    (fun m i a Q ha hi rec no => by
      subst ha
      rw [g_ref05_Right_4_succ]
      unfold s_ref05_Right_4
      have hm : l[i] ∈ l := List.getElem_mem hi
      have d0 : decide ((0 : Int) ≤ (i : Int)) = true := decide_eq_true (by omega)
      have d1 : decide ((i : Int) < ((l.length : Nat) : Int)) = true := decide_eq_true (by omega)
      simp only [d0, d1, br_true, Int.toNat_natCast, at_lt hi, Option.bind_some, ref01_Word_is hN (h2 _ hm).1, ref05_maybe_is hN (h2 _ hm).2, wi (i := i) (by omega)]
      have hok : okLab N l i = ((wordB N l[i].1 && maybeB N l[i].2) && (i == 0 || match l[i - 1]? with
        | some u => bl u.1 l[i].1
        | none => false)) := by unfold okLab; rw [at_lt hi]
      cases hw : wordB N l[i].1
      · rw [hw] at hok
        exact Tot.some (no (by rw [hok]; rfl) _ ⟨_, rfl⟩)
      cases hv : maybeB N l[i].2
      · rw [hw, hv] at hok
        exact Tot.some (no (by rw [hok]; rfl) _ ⟨_, rfl⟩)
      rw [hw, hv] at hok
      simp only [Bool.not_true, br_false]
      by_cases e : i = 0
      · have d2 : decide ((0 : Int) < (i : Int)) = false := decide_eq_false (by omega)
        simp only [d2, br_false]
        exact rec (by rw [hok]; simp [e]) _ rfl
      · have d2 : decide ((0 : Int) < (i : Int)) = true := decide_eq_true (by omega)
        have w1 : IntKind.i64.wrap ((i : Int) - 1) = ((i - 1 : Nat) : Int) := by rw [w64 (by omega) (by omega)]; omega
        have d3 : decide ((0 : Int) ≤ ((i - 1 : Nat) : Int)) = true := decide_eq_true (by omega)
        have hp : i - 1 < l.length := by omega
        have hm' : l[i - 1] ∈ l := List.getElem_mem hp
        have e' : (i == 0) = false := by simp [e]
        rw [at_lt hp, e'] at hok
        simp only [d2, w1, d3, br_true, Int.toNat_natCast, at_lt hp, Option.bind_some, Less_is N hN (h2 _ hm').1 (h2 _ hm).1]
        cases hb : bl l[i - 1].1 l[i].1
        · simp only [hb] at hok
          exact Tot.some (no (by rw [hok]; rfl) _ ⟨_, rfl⟩)
        · simp only [hb] at hok
          exact rec (by rw [hok]; rfl) _ rfl)
    N 0 ((l, 0, ()), ()) (by omega) rfl (by omega)
  obtain ⟨o, e, ho⟩ := loop
  unfold G_ref05_Right S_ref05_Right rightL
  simp only [e, Option.bind_some]
  by_cases h : l.length ≤ 16
  · have d1 : decide ((16 : Int) < ((l.length : Nat) : Int)) = false := decide_eq_false (by omega)
    simp only [d1, br_false, decide_eq_true h, Bool.true_and]
    rw [Nat.sub_zero] at ho
    split at ho
    · rename_i hy; obtain ⟨y, rfl⟩ := ho; rw [hy]; rfl
    · rename_i hy; obtain ⟨y, rfl⟩ := ho; rw [Bool.not_eq_true] at hy; rw [hy]; rfl
  · have d1 : decide ((16 : Int) < ((l.length : Nat) : Int)) = true := decide_eq_true (by omega)
    simp only [d1, br_true, decide_eq_false h, Bool.false_and]

theorem labels_Right_is (N : Nat) (hN : Big N) {l : Labels} (hl : okL l) : G_labels_Right N (l, ()) = some (rightL N l, ()) := by
  have hN' := hN
  unfold Big at hN'; obtain ⟨h1, h2⟩ := hl
  have cnt : ∀ i (k : ByteArray), (l.take i).countP (fun y => decide (y.1 = k)) ≤ i := fun i k => Nat.le_trans List.countP_le_length (by rw [List.length_take]; omega)
  have loop := Tot.all (f := g_labels_Right_3 N) (Inv := fun i x => ∃ es, x = ((l, l, (l.length : Int), (i : Int), ()), es, ()) ∧ ∀ k, (mget Ty.str es k).getD 0 = (((l.take i).countP (fun y => decide (y.1 = k)) : Nat) : Int))
    (Y := fun o => ∃ y, o = .inl ((l, ()), y)) (No := fun o => ∃ y, o = .inr ((false, ()), y)) l.length (okLabP N l)
    (fun m a ha => by
      obtain ⟨es, rfl, _⟩ := ha
      rw [g_labels_Right_3_succ]
      unfold s_labels_Right_3
      exact Tot.brD (fun h => absurd h (by dsimp only; omega)) fun _ => Tot.some ⟨_, rfl⟩)
    (fun m i a Q ha hi rec no => by
      obtain ⟨es, rfl, hes⟩ := ha
      rw [g_labels_Right_3_succ]
      unfold s_labels_Right_3
      have hm : l[i] ∈ l := List.getElem_mem hi
      have d0 : decide ((0 : Int) ≤ (i : Int)) = true := decide_eq_true (by omega)
      have d1 : decide ((i : Int) < ((l.length : Nat) : Int)) = true := decide_eq_true (by omega)
      have hc := cnt i l[i].1
      have w0 : IntKind.i64.wrap ((((l.take i).countP (fun y => decide (y.1 = l[i].1)) : Nat) : Int) + 1) = (((l.take i).countP (fun y => decide (y.1 = l[i].1)) + 1 : Nat) : Int) := by rw [w64 (by omega) (by omega)]; omega
      simp only [d0, d1, br_true, Int.toNat_natCast, at_lt hi, Option.bind_some, lex_Word_is hN (h2 _ hm).1, labels_maybe_is hN (h2 _ hm).2, wi (i := i) (by omega), hes, w0, mget_mset_str, if_true, Option.getD_some, bl_gt]
      have hes' : ∀ k, (mget Ty.str (mset Ty.str es l[i].1 (((l.take i).countP (fun y => decide (y.1 = l[i].1)) + 1 : Nat) : Int)) k).getD 0 = (((l.take (i + 1)).countP (fun y => decide (y.1 = k)) : Nat) : Int) := fun k => by
        rw [mget_mset_str, List.take_add_one, at_lt hi, List.countP_append]
        simp only [Option.toList_some, List.countP_cons, List.countP_nil, Nat.zero_add]
        by_cases e : k = l[i].1
        · subst e; simp
        · rw [if_neg e, hes k, if_neg (by simpa using Ne.symm e)]; rfl
      have hok : okLabP N l i = ((decide ((l.take i).countP (fun y => decide (y.1 = l[i].1)) = 0) && (wordB N l[i].1 && maybeB N l[i].2)) && (i == 0 || match l[i - 1]? with
        | some u => !bl l[i].1 u.1
        | none => false)) := by unfold okLabP; rw [at_lt hi]
      by_cases hz : (l.take i).countP (fun y => decide (y.1 = l[i].1)) = 0
      · have d4 : decide ((1 : Int) < (((l.take i).countP (fun y => decide (y.1 = l[i].1)) + 1 : Nat) : Int)) = false := decide_eq_false (by omega)
        rw [decide_eq_true hz] at hok
        simp only [d4, br_false]
        cases hw : wordB N l[i].1
        · rw [hw] at hok
          exact Tot.some (no (by rw [hok]; rfl) _ ⟨_, rfl⟩)
        cases hv : maybeB N l[i].2
        · rw [hw, hv] at hok
          exact Tot.some (no (by rw [hok]; rfl) _ ⟨_, rfl⟩)
        rw [hw, hv] at hok
        simp only [Bool.not_true, br_false]
        by_cases e : i = 0
        · have d2 : decide ((0 : Int) < (i : Int)) = false := decide_eq_false (by omega)
          simp only [d2, br_false]
          exact rec (by rw [hok]; simp [e]) _ ⟨_, rfl, hes'⟩
        · have d2 : decide ((0 : Int) < (i : Int)) = true := decide_eq_true (by omega)
          have w1 : IntKind.i64.wrap ((i : Int) - 1) = ((i - 1 : Nat) : Int) := by rw [w64 (by omega) (by omega)]; omega
          have d3 : decide ((0 : Int) ≤ ((i - 1 : Nat) : Int)) = true := decide_eq_true (by omega)
          have hp : i - 1 < l.length := by omega
          have e' : (i == 0) = false := by simp [e]
          rw [at_lt hp, e'] at hok
          simp only [d2, w1, d3, br_true, Int.toNat_natCast, at_lt hp, Option.bind_some]
          cases hb : bl l[i].1 l[i - 1].1
          · simp only [hb] at hok
            exact rec (by rw [hok]; rfl) _ ⟨_, rfl, hes'⟩
          · simp only [hb] at hok
            exact Tot.some (no (by rw [hok]; rfl) _ ⟨_, rfl⟩)
      · have d4 : decide ((1 : Int) < (((l.take i).countP (fun y => decide (y.1 = l[i].1)) + 1 : Nat) : Int)) = true := decide_eq_true (by omega)
        rw [decide_eq_false hz] at hok
        simp only [d4, br_true]
        exact Tot.some (no (by rw [hok]; rfl) _ ⟨_, rfl⟩))
    N 0 ((l, l, (l.length : Int), 0, ()), [], ()) (by omega) ⟨[], rfl, fun k => by simp [mget]⟩ (by omega)
  obtain ⟨o, e, ho⟩ := loop
  unfold G_labels_Right S_labels_Right rightL
  simp only [e, Option.bind_some]
  rw [Nat.sub_zero, okLab_same] at ho
  split at ho
  · rename_i hy; obtain ⟨y, rfl⟩ := ho; rw [hy, Bool.and_true]
    show some (decide (((l.length : Nat) : Int) ≤ 16), ()) = _
    congr 2; rw [decide_eq_decide]; omega
  · rename_i hy; obtain ⟨y, rfl⟩ := ho; rw [Bool.not_eq_true] at hy; rw [hy, Bool.and_false]; rfl
end Go.Proofs.Ytiiiipdnodgkmaa.Gf
