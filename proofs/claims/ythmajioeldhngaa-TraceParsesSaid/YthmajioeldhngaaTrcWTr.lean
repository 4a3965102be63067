/- Texts in parts; words' bytes; a right event's parts. -/
import Derived.Test.YthmajioeldhngaaTrcTTr
namespace Go.VI
set_option linter.unusedVariables false
set_option linter.unusedSimpArgs false
def splitL (b : UInt8) : List UInt8 → List (List UInt8)
  | [] => [[]]
  | c :: l => if c = b then [] :: splitL b l else (match splitL b l with
    | [] => [[c]]
    | p :: ps => (c :: p) :: ps)
def joinL (b : UInt8) : List (List UInt8) → List UInt8
  | [] => []
  | [p] => p
  | p :: q :: ps => p ++ b :: joinL b (q :: ps)
theorem splitL_ne (b : UInt8) : ∀ l : List UInt8, splitL b l ≠ []
  | [] => by simp [splitL]
  | c :: l => by
    unfold splitL
    split
    · simp
    · split <;> simp
theorem split_end {b : UInt8} : ∀ {l : List UInt8}, b ∉ l → splitL b l = [l]
  | [], _ => rfl
  | c :: l, h => by
    simp only [List.mem_cons, not_or] at h
    unfold splitL
    rw [if_neg (Ne.symm h.1), split_end h.2]
theorem split_at {b : UInt8} {r : List UInt8} : ∀ {l : List UInt8}, b ∉ l → splitL b (l ++ b :: r) = l :: splitL b r
  | [], _ => by
    show splitL b (b :: r) = _
    conv => lhs; unfold splitL
    rw [if_pos rfl]
  | c :: l, h => by
    simp only [List.mem_cons, not_or] at h
    show splitL b (c :: (l ++ b :: r)) = _
    conv => lhs; unfold splitL
    rw [if_neg (Ne.symm h.1), split_at h.2]
theorem join_split (b : UInt8) : ∀ l : List UInt8, joinL b (splitL b l) = l
  | [] => rfl
  | c :: l => by
    have ih := join_split b l
    unfold splitL
    split
    · rename_i h
      cases hs : splitL b l with
      | nil => exact absurd hs (splitL_ne b l)
      | cons p ps => rw [hs] at ih; show b :: joinL b (p :: ps) = _; rw [ih, h]
    · split
      · rename_i hs; exact absurd hs (splitL_ne b l)
      · rename_i p ps hs
        rw [hs] at ih
        cases ps with
        | nil => show c :: p = _; rw [show p = l from ih]
        | cons q ps => show c :: (p ++ b :: joinL b (q :: ps)) = _; rw [show p ++ b :: joinL b (q :: ps) = l from ih]
theorem split_join (b : UInt8) : ∀ {ps : List (List UInt8)}, ps ≠ [] → (∀ p ∈ ps, b ∉ p) → splitL b (joinL b ps) = ps
  | [], h, _ => absurd rfl h
  | [p], _, h => split_end (h p (by simp))
  | p :: q :: ps, _, h => by
    show splitL b (p ++ b :: joinL b (q :: ps)) = _
    rw [split_at (h p (by simp)), split_join b (by simp) fun x hx => h x (List.mem_cons_of_mem _ hx)]
theorem decode_bytes (s : ByteArray) (p : Nat) (hp : p < s.size) : 1 ≤ (Utf8.decode s p).2 ∧ ((s.get! p).toNat < 128 → (Utf8.decode s p).1 = (s.get! p).toNat ∧ (Utf8.decode s p).2 = 1) ∧
    ∀ d, 1 ≤ d → d < (Utf8.decode s p).2 → 128 ≤ (s.get! (p + d)).toNat := by
  rw [Go.Lib.decode_at]
  have h0 : (s.get! p).toNat < 256 := (s.get! p).toNat_lt
  have h1 : (s.get! (p + 1)).toNat < 256 := (s.get! (p + 1)).toNat_lt
  have h2 : (s.get! (p + 2)).toNat < 256 := (s.get! (p + 2)).toNat_lt
  have h3 : (s.get! (p + 3)).toNat < 256 := (s.get! (p + 3)).toNat_lt
  have key : ∀ (n b0 b1 b2 b3 : Nat), 1 ≤ n → 1 ≤ (Go.Lib.decodeN n b0 b1 b2 b3).2 ∧ (b0 < 128 → (Go.Lib.decodeN n b0 b1 b2 b3).1 = b0 ∧ (Go.Lib.decodeN n b0 b1 b2 b3).2 = 1) ∧ (Go.Lib.decodeN n b0 b1 b2 b3).2 ≤ 4 ∧
      (1 < (Go.Lib.decodeN n b0 b1 b2 b3).2 → 128 ≤ b1) ∧ (2 < (Go.Lib.decodeN n b0 b1 b2 b3).2 → 128 ≤ b2) ∧ (3 < (Go.Lib.decodeN n b0 b1 b2 b3).2 → 128 ≤ b3) := by
    intro n b0 b1 b2 b3 hn
    unfold Go.Lib.decodeN
    repeat' split
    all_goals (dsimp only; omega)
  obtain ⟨k1, k2, k3, k4, k5, k6⟩ := key (s.size - p) (s.get! p).toNat (s.get! (p + 1)).toNat (s.get! (p + 2)).toNat (s.get! (p + 3)).toNat (by omega)
  refine ⟨k1, k2, fun d hd hlt => ?_⟩
  rcases (by omega : d = 1 ∨ d = 2 ∨ d = 3) with rfl | rfl | rfl
  · exact k4 hlt
  · exact k5 hlt
  · exact k6 hlt
end Go.VI
namespace Go.Proofs.Ythmajioeldhngaa.Tr
open Go Go.VI
set_option linter.unusedVariables false
set_option linter.unusedSimpArgs false
set_option maxRecDepth 100000

/-- A word's bytes are above the blank. -/
theorem word_bytes {N : Nat} (hN : Big N) {s : ByteArray} (hs : okS s) (h : wordB N s = true) : s ≠ bs [] ∧ ∀ b ∈ s.data.toList, 32 < b.toNat := by
  have e0 := ref01_Word_is hN hs
  rw [h] at e0
  unfold Big at hN; unfold okS at hs
  have loop : ∀ (k p n m : Nat), s.size - p < k → k ≤ m → p ≤ s.size → n ≤ p → Tot (g_ref01_Word_3 N m ((s, (n : Int), (p : Int), ()), ())) fun o => (∃ n' : Nat, ∃ y, o = .inl (((n' : Int), ()), y) ∧ (p < s.size ∨ n' = n) ∧ ∀ j, p ≤ j → j < s.size → 32 < (s.get! j).toNat) ∨ ∃ y, o = .inr ((false, ()), y) := by
    intro k
    induction k with
    | zero => intro p n m h; omega
    | succ k ih =>
      intro p n m h1 h2 h3 h4
      obtain ⟨m, rfl⟩ : ∃ j, m = j + 1 := ⟨m - 1, by omega⟩
      rw [g_ref01_Word_3_succ]
      unfold s_ref01_Word_3
      by_cases hlt : p < s.size
      · have d1 : decide ((p : Int) < ((s.size : Nat) : Int)) = true := decide_eq_true (by omega)
        obtain ⟨⟨c, w, ⟨⟩⟩, e1, q⟩ := Rune_is N s p hlt (by omega)
        obtain ⟨r1, r2, r3⟩ := decode_bytes s p hlt
        simp only [d1, br_true, e1, Option.bind_some]
        rcases q with ⟨a1, _⟩ | ⟨a1, a2, a3, a4, _⟩
        · have a1 : w = 0 := a1
          rw [decide_eq_true a1]
          exact Tot.some (.inr ⟨_, rfl⟩)
        · have a1 : 1 ≤ w := a1
          have a2 : c = (((Go.Utf8.decode s p).1 : Nat) : Int) := a2
          have a3 : w = (((Go.Utf8.decode s p).2 : Nat) : Int) := a3
          rw [decide_eq_false (show ¬ w = 0 by omega)]
          simp only [br_false, ref_plain_is, Option.bind_some]
          cases hpl : plainB c
          · exact Tot.some (.inr ⟨_, rfl⟩)
          · have hc : 32 < c := by unfold plainB at hpl; have := of_decide_eq_true hpl; exact this.1
            have wn : IntKind.i64.wrap ((n : Int) + 1) = ((n + 1 : Nat) : Int) := by rw [w64 (by omega) (by omega)]; omega
            have wp : IntKind.i64.wrap ((p : Int) + w) = ((p + (Go.Utf8.decode s p).2 : Nat) : Int) := by rw [a3, w64 (by omega) (by omega)]; omega
            simp only [Bool.not_true, br_false, wn, wp]
            refine (ih (p + (Go.Utf8.decode s p).2) (n + 1) m (by omega) (by omega) a4 (by omega)).mono fun o ho => ?_
            rcases ho with ⟨n', y, e, _, hb⟩ | ho
            · refine .inl ⟨n', y, e, .inl hlt, fun j hj1 hj2 => ?_⟩
              by_cases hj : j < p + (Go.Utf8.decode s p).2
              · by_cases hjp : j = p
                · subst hjp
                  by_cases hb0 : (s.get! j).toNat < 128
                  · have := (r2 hb0).1; omega
                  · omega
                · have := r3 (j - p) (by omega) (by omega)
                  rw [show p + (j - p) = j by omega] at this
                  omega
              · exact hb j (by omega) hj2
            · exact .inr ho
      · have d1 : decide ((p : Int) < ((s.size : Nat) : Int)) = false := decide_eq_false (by omega)
        simp only [d1, br_false]
        exact Tot.some (.inl ⟨n, _, rfl, .inr rfl, fun j _ _ => by omega⟩)
  obtain ⟨o, e, ho⟩ := loop (s.size + 1) 0 0 N (by omega) (by omega) (by omega) (by omega)
  have e : g_ref01_Word_3 N N ((s, 0, 0, ()), ()) = _ := e
  unfold G_ref01_Word S_ref01_Word at e0
  simp only [e, Option.bind_some] at e0
  rcases ho with ⟨n', y, rfl, hn, hb⟩ | ⟨y, rfl⟩
  · refine ⟨fun h0 => ?_, fun b hmem => ?_⟩
    · subst h0
      have hn : n' = 0 := by
        rcases hn with h | h
        · exact absurd h (by decide)
        · exact h
      subst hn
      simp only [Sum.elim_inl] at e0
      have d : decide ((1 : Int) ≤ ((0 : Nat) : Int)) = false := by decide
      rw [d] at e0
      cases e0
    · obtain ⟨j, hj, rfl⟩ := List.mem_iff_getElem.1 hmem
      have hj2 : j < s.size := by rw [← size_list]; exact hj
      have := hb j (by omega) hj2
      rw [Option.some.inj ((at_lt hj).symm.trans (at_get s j hj2))]
      exact this
  · simp only [Sum.elim_inr] at e0
    cases e0
/-- A right event's parts. -/
def toks (e : Ev) : List (List UInt8) := (dec e.1.toNat ++ [58]) :: e.2.1.data.toList :: ((if e.2.2.1 = bs [] then [] else [e.2.2.1.data.toList]) ++ (if 0 < e.2.2.2 then [dec e.2.2.2.toNat] else []))
theorem right_word {w : ByteArray → Bool} {e : Ev} (h : rightW w e = true) : (e.2.1 ∈ lCounts ∧ w e.2.2.1 = true ∧ 1 ≤ e.2.2.2) ∨ (e.2.1 ∈ lNames ∧ w e.2.2.1 = true ∧ e.2.2.2 = 0) ∨ (e.2.1 ∈ lAlone ∧ e.2.2.1 = bs [] ∧ e.2.2.2 = 0) := by
  unfold rightW at h
  rw [Bool.and_eq_true] at h
  have h := h.2
  split at h
  · rename_i hc
    simp only [Bool.and_eq_true, decide_eq_true_eq] at h
    exact .inl ⟨amB_iff.1 hc, h.1, h.2.1⟩
  · split at h
    · rename_i hc
      simp only [Bool.and_eq_true, decide_eq_true_eq] at h
      exact .inr (.inl ⟨amB_iff.1 hc, h.1, h.2⟩)
    · simp only [Bool.and_eq_true, decide_eq_true_eq] at h
      exact .inr (.inr ⟨amB_iff.1 h.1, h.2.1, h.2.2⟩)
theorem lits_big : (∀ s ∈ lCounts, ∀ b ∈ s.data.toList, 32 < b.toNat) ∧ (∀ s ∈ lNames, ∀ b ∈ s.data.toList, 32 < b.toNat) ∧ (∀ s ∈ lAlone, ∀ b ∈ s.data.toList, 32 < b.toNat) := by decide
theorem lits_size : (∀ s ∈ lCounts, s.size ≤ 2000) ∧ (∀ s ∈ lNames, s.size ≤ 2000) ∧ (∀ s ∈ lAlone, s.size ≤ 2000) := by decide
/-- Nothing in a right event's parts is a blank, or the end of a line. -/
theorem toks_big {N : Nat} (hN : Big N) {e : Ev} (hs : okS e.2.2.1) (h : rightW (wordB N) e = true) : ∀ p ∈ toks e, ∀ b ∈ p, 32 < b.toNat := by
  have hd : ∀ n : Nat, ∀ b ∈ dec n, 32 < b.toNat := fun n b hb => by have := dec_dig n b hb; unfold isDig at this; omega
  have hw : ∀ b ∈ e.2.1.data.toList, 32 < b.toNat := by
    rcases right_word h with ⟨q, _⟩ | ⟨q, _⟩ | ⟨q, _⟩
    · exact lits_big.1 _ q
    · exact lits_big.2.1 _ q
    · exact lits_big.2.2 _ q
  have hn : e.2.2.1 ≠ bs [] → ∀ b ∈ e.2.2.1.data.toList, 32 < b.toNat := fun hne => by
    rcases right_word h with ⟨_, q, _⟩ | ⟨_, q, _⟩ | ⟨_, q, _⟩
    · exact (word_bytes hN hs q).2
    · exact (word_bytes hN hs q).2
    · exact absurd q hne
  intro p hp b hb
  unfold toks at hp
  rcases List.mem_cons.1 hp with rfl | hp
  · rcases List.mem_append.1 hb with hb | hb
    · exact hd _ b hb
    · rw [List.mem_singleton.1 hb]; decide
  rcases List.mem_cons.1 hp with rfl | hp
  · exact hw b hb
  rcases List.mem_append.1 hp with hp | hp
  · split at hp
    · cases hp
    · rename_i hne
      rw [List.mem_singleton.1 hp] at hb
      exact hn hne b hb
  · split at hp
    · rw [List.mem_singleton.1 hp] at hb
      exact hd _ b hb
    · cases hp
theorem right_name {N : Nat} (hN : Big N) {e : Ev} (hs : okS e.2.2.1) (h : rightW (wordB N) e = true) : 0 < e.2.2.2 → e.2.2.1 ≠ bs [] := fun hp => by
  rcases right_word h with ⟨_, q, _⟩ | ⟨_, _, q⟩ | ⟨_, _, q⟩
  · exact (word_bytes hN hs q).1
  · omega
  · omega
theorem line_join {N : Nat} (hN : Big N) {e : Ev} (hs : okS e.2.2.1) (h : rightW (wordB N) e = true) : lineL e = joinL 32 (toks e) := by
  have hn := right_name hN hs h
  unfold lineL toks
  by_cases c1 : e.2.2.1 = bs []
  · have c2 : ¬ 0 < e.2.2.2 := fun c => hn c c1
    rw [if_pos c1, if_pos c1, if_neg c2, if_neg c2]
    simp only [List.append_nil, List.nil_append, joinL]
    rw [List.append_assoc]; rfl
  · by_cases c2 : 0 < e.2.2.2
    · rw [if_neg c1, if_neg c1, if_pos c2, if_pos c2]
      simp only [joinL, List.cons_append, List.nil_append, List.append_assoc]
    · rw [if_neg c1, if_neg c1, if_neg c2, if_neg c2]
      simp only [List.append_nil, joinL, List.cons_append, List.nil_append, List.append_assoc]
theorem toks_split {N : Nat} (hN : Big N) {e : Ev} (hs : okS e.2.2.1) (h : rightW (wordB N) e = true) : splitL 32 (lineL e) = toks e := by
  rw [line_join hN hs h]
  refine split_join 32 (by unfold toks; simp) fun p hp hb => ?_
  have := toks_big hN hs h p hp 32 hb
  exact absurd this (by decide)
theorem line_nl {N : Nat} (hN : Big N) {e : Ev} (hs : okS e.2.2.1) (h : rightW (wordB N) e = true) : (10 : UInt8) ∉ lineL e := by
  have hb := toks_big hN hs h
  have hno : ∀ p ∈ toks e, (10 : UInt8) ∉ p := fun p hp h10 => absurd (hb p hp 10 h10) (by decide)
  rw [line_join hN hs h]
  generalize toks e = ps at hno
  induction ps with
  | nil => simp [joinL]
  | cons p ps ih =>
    cases ps with
    | nil => exact hno p (by simp)
    | cons q ps =>
      show (10 : UInt8) ∉ p ++ 32 :: joinL 32 (q :: ps)
      have := ih fun x hx => hno x (List.mem_cons_of_mem _ hx)
      simp only [List.mem_append, List.mem_cons, not_or]
      exact ⟨hno p (by simp), by decide, this⟩
end Go.Proofs.Ythmajioeldhngaa.Tr
