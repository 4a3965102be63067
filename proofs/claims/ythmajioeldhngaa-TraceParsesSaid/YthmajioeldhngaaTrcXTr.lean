/- Lines are read: trace.parts, number, read. -/
import Derived.Test.YthmajioeldhngaaTrcWTr
import Derived.Test.YthmajioeldhngaaQnuPTr
namespace Go.Proofs.Ythmajioeldhngaa.Tr
open Go Go.VI
set_option linter.unusedVariables false
set_option linter.unusedSimpArgs false
set_option maxRecDepth 100000

abbrev tl (s : ByteArray) : List UInt8 := s.data.toList
theorem tl_inj {a b : ByteArray} (h : tl a = tl b) : a = b := ba_ext h
theorem take_snoc_drop {α : Type} {l : List α} {f i : Nat} (hf : f ≤ i) (hi : i < l.length) : (l.drop f).take (i + 1 - f) = (l.drop f).take (i - f) ++ [l[i]] := by
  rw [show i + 1 - f = (i - f) + 1 by omega, List.take_add_one, List.getElem?_drop, show f + (i - f) = i by omega, at_lt hi]; rfl
theorem drop_split {α : Type} {l : List α} {f i : Nat} (hf : f ≤ i) (hi : i < l.length) : l.drop f = (l.drop f).take (i - f) ++ l[i] :: l.drop (i + 1) := by
  conv => lhs; rw [← List.take_append_drop (i - f) (l.drop f)]
  rw [List.drop_drop, show f + (i - f) = i by omega, List.drop_eq_getElem_cons hi]
theorem trace_parts_is (N : Nat) (hN : Big N) {s : ByteArray} (hs : s.size ≤ 1000000) (b : UInt8) : Tot (G_trace_parts N (s, ((b.toNat : Nat) : Int), ())) fun v => v.1.map tl = splitL b (tl s) := by
  unfold Big at hN
  have hsz := size_list s
  have loop : ∀ m (i : Nat) x, i ≤ s.size → (∃ f : Nat, ∃ acc : List ByteArray, x = ((s, ((b.toNat : Nat) : Int), (f : Int), (s.size : Int), (i : Int), ()), acc, ()) ∧ f ≤ i ∧ acc.length ≤ i ∧ acc.map tl ++ splitL b ((tl s).drop f) = splitL b (tl s) ∧ b ∉ ((tl s).drop f).take (i - f)) → s.size - i < m →
      Tot (g_trace_parts_4 N m x) fun o => ∃ f : Nat, ∃ acc : List ByteArray, ∃ y, o = .inl ((s, (f : Int), ()), acc, y) ∧ f ≤ s.size ∧ acc.length ≤ s.size ∧ acc.map tl ++ splitL b ((tl s).drop f) = splitL b (tl s) ∧ b ∉ (tl s).drop f := by
    refine Tot.range s.size fun m i x hx hi rec => ?_
    obtain ⟨f, acc, rfl, hf, hal, hacc, hno⟩ := hx
    rw [g_trace_parts_4_succ]
    unfold s_trace_parts_4
    by_cases hlt : i < s.size
    · have d0 : decide ((0 : Int) ≤ (i : Int)) = true := decide_eq_true (by omega)
      have d1 : decide ((i : Int) < ((s.size : Nat) : Int)) = true := decide_eq_true (by omega)
      have d2 : decide ((0 : Int) ≤ (f : Int)) = true := decide_eq_true (by omega)
      have hi' : i < s.data.toList.length := by omega
      have b1 : Nat.ble f i = true := Nat.ble_eq_true_of_le hf
      have b2 : Nat.ble i s.size = true := Nat.ble_eq_true_of_le hi
      have b3 : Nat.ble (acc.length + 1) maxElems = true := Nat.ble_eq_true_of_le (by unfold maxElems; omega)
      simp only [d0, d1, d2, br_true, Int.toNat_natCast, at_lt hi', Option.bind_some, wi (i := i) (by omega), b1, b2, b3, Bool.and_self]
      by_cases e : s.data.toList[i] = b
      · rw [e, decide_eq_true rfl, br_true]
        refine rec (i + 1) _ (by omega) (by omega) ⟨i + 1, _, rfl, Nat.le_refl _, by rw [List.length_append]; simp only [List.length_cons, List.length_nil]; omega, ?_, by rw [Nat.sub_self]; simp⟩
        rw [drop_split hf hi', e, split_at hno] at hacc
        rw [List.map_append, List.append_assoc, ← hacc]
        congr 1
        show [tl (s.extract f i)] ++ _ = _
        unfold tl
        rw [ba_extract]; rfl
      · have e' : ¬ (((s.data.toList[i]).toNat : Nat) : Int) = ((b.toNat : Nat) : Int) := fun h => e (u8_eq (by omega))
        rw [decide_eq_false e', br_false]
        refine rec (i + 1) _ (by omega) (by omega) ⟨f, acc, rfl, by omega, by omega, hacc, ?_⟩
        rw [take_snoc_drop hf hi', List.mem_append, List.mem_singleton, not_or]
        exact ⟨hno, fun h => e h.symm⟩
    · have d1 : decide ((i : Int) < ((s.size : Nat) : Int)) = false := decide_eq_false (by omega)
      simp only [d1, br_false]
      have : i = s.size := by omega
      subst this
      rw [List.take_of_length_le (by rw [List.length_drop]; show s.data.toList.length - f ≤ _; omega)] at hno
      exact Tot.some ⟨f, acc, _, rfl, hf, hal, hacc, hno⟩
  obtain ⟨o, e, f, acc, y, rfl, hf, hal, hacc, hno⟩ := loop N 0 _ (by omega) ⟨0, [], rfl, Nat.le_refl _, Nat.le_refl _, rfl, by simp⟩ (by omega)
  have e : g_trace_parts_4 N N ((s, ((b.toNat : Nat) : Int), 0, (s.size : Int), 0, ()), [], ()) = _ := e
  have d2 : decide ((0 : Int) ≤ (f : Int)) = true := decide_eq_true (by omega)
  have b1 : Nat.ble f s.size = true := Nat.ble_eq_true_of_le hf
  have b2 : Nat.ble s.size s.size = true := Nat.ble_eq_true_of_le (Nat.le_refl _)
  have b3 : Nat.ble (acc.length + 1) maxElems = true := Nat.ble_eq_true_of_le (by unfold maxElems; omega)
  unfold G_trace_parts S_trace_parts
  simp only [e, Option.bind_some, Sum.elim_inl, d2, Int.toNat_natCast, b1, b2, b3, br_true, Bool.and_self]
  refine Tot.some ?_
  show (acc ++ [s.extract f s.size]).map tl = _
  rw [List.map_append, ← hacc, split_end hno]
  congr 1
  show [tl (s.extract f s.size)] = _
  unfold tl
  rw [ba_extract, List.take_of_length_le (by rw [List.length_drop]; omega)]
theorem digAll_dec (n : Nat) : digAll (dec n) = true := digAll_iff.2 (dec_dig n)
/-- A number without a nought ahead. -/
theorem trace_number_is (N : Nat) (hN : Big N) {t : ByteArray} (ht : okS t) : Tot (G_trace_number N (t, ())) fun v => (v.2.1 = true → ∃ n : Nat, n ≤ 1125899906842624 ∧ v.1 = (n : Int) ∧ tl t = dec n) ∧ ∀ n : Nat, n ≤ 1125899906842624 → tl t = dec n → v = ((n : Int), true, ()) := by
  have hq : ∀ n : Nat, n ≤ 1125899906842624 → tl t = dec n → numQ t = ((n : Int), 0) := fun n hn h => by
    have h : t.data.toList = dec n := h
    unfold numQ qnum
    rw [h, if_neg (dec_ne n), if_pos (digAll_dec n), digs_dec, if_pos hn]
  unfold G_trace_number S_trace_number
  simp only [quant_Number_is N hN ht, Option.bind_some]
  by_cases c : (numQ t).2 = 0
  · have hn : ∃ n : Nat, n ≤ 1125899906842624 ∧ (numQ t).1 = (n : Int) := by
      unfold numQ qnum at c ⊢
      split at c
      · cases c
      · rename_i h1
        split at c
        · rename_i h2
          split at c
          · rename_i h3
            rw [if_neg h1, if_pos h2, if_pos h3]
            exact ⟨_, h3, rfl⟩
          · cases c
        · cases c
    obtain ⟨n, hn, e⟩ := hn
    have hp : n < 10 ^ 18 := Nat.lt_of_le_of_lt hn (by decide)
    simp only [decide_eq_true c, br_true, e, trace_digits_is N hN hp, Option.bind_some]
    refine Tot.some ⟨fun h => ⟨n, hn, rfl, ?_⟩, fun k hk h => ?_⟩
    · have h : numS n = t := of_decide_eq_true h
      unfold tl; rw [← h, numS_list]
    · have := hq k hk h
      rw [this] at e
      have e : (k : Int) = (n : Int) := e
      have e : k = n := by omega
      subst e
      have : numS k = t := ba_ext (by rw [numS_list]; exact h.symm)
      rw [decide_eq_true this]
  · simp only [decide_eq_false c, br_false]
    refine Tot.some ⟨fun h => (by cases h), fun k hk h => ?_⟩
    have := hq k hk h
    rw [this] at c
    exact absurd rfl c
theorem map_tl_one {ps : List ByteArray} {a : List UInt8} {r : List (List UInt8)} (h : ps.map tl = a :: r) : ∃ x xs, ps = x :: xs ∧ tl x = a ∧ xs.map tl = r := by
  cases ps with
  | nil => cases h
  | cons x xs =>
    rw [List.map_cons] at h
    injection h with h1 h2
    exact ⟨x, xs, rfl, h1, h2⟩
/-- The last byte, and what stands ahead. -/
theorem last_byte {a : ByteArray} (h : a ≠ bs []) (hs : a.size ≤ 1000000) : ∃ (k : Nat) (c : UInt8), a.size = k + 1 ∧ IntKind.i64.wrap (((a.size : Nat) : Int) - 1) = (k : Int) ∧ a.data.toList[k]? = some c ∧ tl a = tl (a.extract 0 k) ++ [c] := by
  have hsz := size_list a
  have hne : a.size ≠ 0 := fun h0 => h (ba_ext (by
    have : a.data.toList = [] := List.eq_nil_of_length_eq_zero (by omega)
    rw [this]))
  have hk : a.size - 1 < a.data.toList.length := by omega
  refine ⟨a.size - 1, a.data.toList[a.size - 1], by omega, by rw [w64 (by omega) (by omega)]; omega, at_lt hk, ?_⟩
  unfold tl
  rw [ba_extract, List.drop_zero, Nat.sub_zero]
  conv => lhs; rw [← List.take_append_drop (a.size - 1) a.data.toList]
  rw [List.drop_eq_getElem_cons hk, List.drop_eq_nil_of_le (by omega)]
theorem trace_read_is (N : Nat) (hN : Big N) {s : ByteArray} (hs : s.size ≤ 300000) : Tot (G_trace_read N (s, ())) fun v => (v.2.1 = true → rightW (wordB N) v.1 = true ∧ lineL v.1 = tl s) ∧ ∀ e, rightW (wordB N) e = true → lineL e = tl s → v = (e, true, ()) := by
  have hw : ∀ s, okS s → G_lex_Word N (s, ()) = some (wordB N s, ()) := fun s hs => lex_Word_is hN hs
  have hsz := size_list s
  obtain ⟨⟨ps, ⟨⟩⟩, e0, hps⟩ := trace_parts_is N hN (s := s) (by omega) 32
  have e0 : G_trace_parts N (s, 32, ()) = _ := e0
  have hps : ps.map tl = splitL 32 (tl s) := hps
  have hjoin : joinL 32 (ps.map tl) = tl s := by rw [hps, join_split]
  -- parts are short
  have hlen : ∀ p ∈ ps, p.size ≤ 300000 := by
    have key : ∀ (l : List (List UInt8)), ∀ p ∈ l, p.length ≤ (joinL 32 l).length := by
      intro l
      induction l with
      | nil => intro p h; cases h
      | cons q l ih =>
        intro p h
        cases l with
        | nil => rw [List.mem_singleton.1 h]; exact Nat.le_refl _
        | cons r l =>
          show _ ≤ (q ++ 32 :: joinL 32 (r :: l)).length
          rw [List.length_append, List.length_cons]
          rcases List.mem_cons.1 h with rfl | h
          · omega
          · have := ih p h; omega
    intro p hp
    have := key (ps.map tl) (tl p) (List.mem_map_of_mem hp)
    rw [hjoin] at this
    have h2 := size_list p
    have h3 : (tl p).length = p.size := h2
    have h4 : (tl s).length = s.size := hsz
    omega
  -- what an event of this line has for parts
  have tk : ∀ e, rightW (wordB N) e = true → lineL e = tl s → toks e = ps.map tl ∧ okS e.2.2.1 := fun e h1 h2 => by
    have hok : okS e.2.2.1 := by
      unfold okS
      by_cases c : e.2.2.1 = bs []
      · rw [c]; decide
      · have : e.2.2.1.data.toList.length ≤ (lineL e).length := by
          unfold lineL
          rw [if_neg c]
          simp only [List.length_append, List.length_cons, List.length_nil]
          omega
        rw [h2] at this
        have h3 : (tl s).length = s.size := hsz
        have h4 := size_list e.2.2.1
        omega
    exact ⟨by rw [hps, ← h2, toks_split hN hok h1], hok⟩
  have bad : ∀ (e0 : Ev), (∀ e, rightW (wordB N) e = true → lineL e = tl s → False) → Tot (some (e0, false, ()) : Option (Ev × Bool × Unit)) fun v => (v.2.1 = true → rightW (wordB N) v.1 = true ∧ lineL v.1 = tl s) ∧ ∀ e, rightW (wordB N) e = true → lineL e = tl s → v = (e, true, ()) :=
    fun e0 h => Tot.some ⟨fun h' => (by cases h'), fun e h1 h2 => (h e h1 h2).elim⟩
  unfold G_trace_read S_trace_read
  simp only [e0, Option.bind_some]
  have tklen : ∀ e : Ev, 2 ≤ (toks e).length ∧ (toks e).length ≤ 4 := fun e => by
    unfold toks
    simp only [List.length_cons, List.length_append]
    split <;> split <;> simp
  refine Tot.brD (fun hl => bad _ fun e h1 h2 => ?_) fun hl => ?_
  · have := (tklen e).1
    rw [(tk e h1 h2).1, List.length_map] at this
    have hl : ((ps.length : Nat) : Int) < 2 := hl
    omega
  refine Tot.brD (fun hl2 => bad _ fun e h1 h2 => ?_) fun hl2 => ?_
  · have := (tklen e).2
    rw [(tk e h1 h2).1, List.length_map] at this
    have hl2 : (4 : Int) < ((ps.length : Nat) : Int) := hl2
    omega
  have hl : ¬ ((ps.length : Nat) : Int) < 2 := hl
  have hl2 : ¬ (4 : Int) < ((ps.length : Nat) : Int) := hl2
  obtain ⟨a, b, r, rfl⟩ : ∃ a b r, ps = a :: b :: r := by
    match ps, hl with
    | [], h => exact absurd (by show ((0 : Nat) : Int) < 2; decide) h
    | [_], h => exact absurd (by show ((1 : Nat) : Int) < 2; decide) h
    | a :: b :: r, _ => exact ⟨a, b, r, rfl⟩
  have g0 : (a :: b :: r)[(Int.toNat 0)]? = some a := rfl
  have g1 : (a :: b :: r)[(Int.toNat 1)]? = some b := rfl
  simp only [g0, g1, Option.bind_some]
  have ha := hlen a (by simp)
  refine Tot.brD (fun h0 => bad _ fun e h1 h2 => ?_) fun h0 => ?_
  · have := (tk e h1 h2).1
    unfold toks at this
    rw [h0] at this
    injection this with this _
    simp [tl] at this
  obtain ⟨k, c, k1, k2, k3, k4⟩ := last_byte h0 (by omega)
  have d0 : decide ((0 : Int) ≤ (k : Int)) = true := decide_eq_true (by omega)
  have b1 : Nat.ble 0 k = true := rfl
  have b2 : Nat.ble k a.size = true := Nat.ble_eq_true_of_le (by omega)
  simp only [k2, d0, br_true, Int.toNat_natCast, k3, Option.bind_some, b1, b2, Bool.and_self]
  -- the first part of an event's line
  have first : ∀ e, rightW (wordB N) e = true → lineL e = tl s → c = 58 ∧ tl (a.extract 0 k) = dec e.1.toNat := fun e h1 h2 => by
    have := (tk e h1 h2).1
    unfold toks at this
    rw [List.map_cons] at this
    injection this with this _
    rw [k4] at this
    have := List.append_inj' this rfl
    exact ⟨by injection this.2 with h _; exact h.symm, this.1.symm⟩
  refine Tot.br (fun hc => bad _ fun e h1 h2 => ?_) fun hc => ?_
  · rw [(first e h1 h2).1] at hc; cases hc
  have hc : c = 58 := by
    have : (((c.toNat : Nat) : Int) = 58) := by simpa using hc
    exact u8_eq (b := 58) (by show c.toNat = 58; omega)
  subst hc
  have hx : (a.extract 0 k).size ≤ 300000 := by rw [ByteArray.size_extract]; omega
  obtain ⟨⟨n, ok, ⟨⟩⟩, e1, q1, q2⟩ := trace_number_is N hN (t := a.extract 0 k) (Nat.le_trans hx (by omega))
  dsimp only at q1
  simp only [e1, Option.bind_some]
  have now : ∀ e, rightW (wordB N) e = true → lineL e = tl s → n = e.1 ∧ ok = true := fun e h1 h2 => by
    have h3 := right_num h1
    have := q2 e.1.toNat (by omega) (first e h1 h2).2
    injection this with t1 t2
    injection t2 with t2 _
    exact ⟨by rw [t1]; omega, t2⟩
  have okE : ∀ (name : ByteArray) (m : Int), name.size ≤ 300000 → okEv (n, b, name, m) := fun name m h => ⟨Nat.le_trans (hlen b (by simp)) (by omega), Nat.le_trans h (by omega)⟩
  -- the last step, for each shape
  have fin : ∀ (name : ByteArray) (m : Int), name.size ≤ 300000 → ok = true → ((n : Int) = n → lineL (n, b, name, m) = tl s) → (∀ e, rightW (wordB N) e = true → lineL e = tl s → e = (n, b, name, m)) →
      Tot (Option.bind (G_trace_Right N ((n, b, name, m), ())) (fun v12 => (some ((n, b, name, m), v12.1, ())))) fun v => (v.2.1 = true → rightW (wordB N) v.1 = true ∧ lineL v.1 = tl s) ∧ ∀ e, rightW (wordB N) e = true → lineL e = tl s → v = (e, true, ()) := by
    intro name m h1 h2 h3 h4
    simp only [trace_Right_is N hN (wordB N) hw (okE name m h1), Option.bind_some]
    refine Tot.some ⟨fun h => ⟨h, h3 rfl⟩, fun e h5 h6 => ?_⟩
    have := h4 e h5 h6
    rw [← this, h5]
  have num : ok = true → ∃ k' : Nat, n = (k' : Int) ∧ tl (a.extract 0 k) = dec k' := fun h => by
    obtain ⟨k', _, h1, h2⟩ := q1 h
    exact ⟨k', h1, h2⟩
  match r, hjoin, tk, hl2, hlen with
  | [], hjoin, tk, _, _ =>
    have l2 : decide ((2 : Int) < (([a, b].length : Nat) : Int)) = false := rfl
    have l3 : decide ((3 : Int) < (([a, b].length : Nat) : Int)) = false := rfl
    simp only [l2, l3, br_false]
    cases ok
    · exact bad _ fun e h1 h2 => by have := (now e h1 h2).2; cases this
    · simp only [br_true]
      obtain ⟨k', rfl, hk'⟩ := num rfl
      refine fin _ _ (by decide) rfl (fun _ => ?_) fun e h1 h2 => ?_
      · rw [← hjoin]
        show dec ((k' : Int)).toNat ++ ([58, 32] ++ (b.data.toList ++ ((if bs [] = bs [] then [] else _) ++ (if (0 : Int) < 0 then _ else [])))) = tl a ++ 32 :: tl b
        rw [if_pos rfl, if_neg (by omega), k4, hk', Int.toNat_natCast]
        simp
      · have h3 := (tk e h1 h2).1
        have h4 := (now e h1 h2).1
        obtain ⟨t, w, nm, m⟩ := e
        unfold toks at h3
        simp only [List.map_cons, List.map_nil, List.cons.injEq] at h3
        obtain ⟨_, h5, h6⟩ := h3
        have h7 := (List.append_eq_nil_iff.1 h6)
        have h8 : nm = bs [] := by
          by_cases c : nm = bs []
          · exact c
          · have := h7.1; rw [if_neg c] at this; cases this
        have h9 : ¬ 0 < m := fun c => by have := h7.2; rw [if_pos c] at this; cases this
        have h10 := (right_num h1).2.1
        have h10 : 0 ≤ m := h10
        have h11 : w = b := tl_inj h5
        have h4 : (k' : Int) = t := h4
        rw [h8, h11, ← h4, show m = 0 by omega]
  | [nm0], hjoin, tk, _, hlen =>
    have l2 : decide ((2 : Int) < (([a, b, nm0].length : Nat) : Int)) = true := rfl
    have l3 : decide ((3 : Int) < (([a, b, nm0].length : Nat) : Int)) = false := rfl
    have g2 : [a, b, nm0][(Int.toNat (2 : Int))]? = some nm0 := rfl
    simp only [l2, l3, g2, br_true, br_false, Option.bind_some]
    -- its name
    have nmOf : ∀ e, rightW (wordB N) e = true → lineL e = tl s → e.2.2.1 = nm0 ∧ e.2.2.1 ≠ bs [] ∧ e.2.2.2 = 0 ∧ e.2.1 = b := fun e h1 h2 => by
      have h3 := (tk e h1 h2).1
      have hnn := right_name hN (tk e h1 h2).2 h1
      have h10 := (right_num h1).2.1
      obtain ⟨t, w, nm, m⟩ := e
      dsimp only at hnn h10 ⊢
      unfold toks at h3
      simp only [List.map_cons, List.map_nil, List.cons.injEq] at h3
      obtain ⟨_, h5, h6⟩ := h3
      by_cases c : nm = bs []
      · have c2 : ¬ 0 < m := fun c2 => hnn c2 c
        rw [if_pos c, if_neg c2] at h6
        cases h6
      · by_cases c2 : 0 < m
        · rw [if_neg c, if_pos c2] at h6
          have := congrArg List.length h6
          simp at this
        · rw [if_neg c, if_neg c2] at h6
          injection h6 with h6 _
          exact ⟨tl_inj h6, c, by omega, tl_inj h5⟩
    cases ok
    · exact bad _ fun e h1 h2 => by have := (now e h1 h2).2; cases this
    · simp only [br_true]
      obtain ⟨k', rfl, hk'⟩ := num rfl
      by_cases c : nm0 = bs []
      · rw [decide_eq_true c]
        exact bad _ fun e h1 h2 => (nmOf e h1 h2).2.1 ((nmOf e h1 h2).1.trans c)
      · rw [decide_eq_false c]
        simp only [Bool.not_false, br_true]
        refine fin _ _ (hlen nm0 (by simp)) rfl (fun _ => ?_) fun e h1 h2 => ?_
        · rw [← hjoin]
          show dec ((k' : Int)).toNat ++ ([58, 32] ++ (b.data.toList ++ ((if nm0 = bs [] then [] else 32 :: nm0.data.toList) ++ (if (0 : Int) < 0 then _ else [])))) = tl a ++ 32 :: (tl b ++ 32 :: tl nm0)
          rw [if_neg c, if_neg (by omega), k4, hk', Int.toNat_natCast]
          simp
        · obtain ⟨h5, _, h6, h7⟩ := nmOf e h1 h2
          have h4 := (now e h1 h2).1
          obtain ⟨t, w, nm, m⟩ := e
          dsimp only at h4 h5 h6 h7
          rw [h5, h6, h7, ← h4]
  | [nm0, x0], hjoin, tk, _, hlen =>
    have l2 : decide ((2 : Int) < (([a, b, nm0, x0].length : Nat) : Int)) = true := rfl
    have l3 : decide ((3 : Int) < (([a, b, nm0, x0].length : Nat) : Int)) = true := rfl
    have g2 : [a, b, nm0, x0][(Int.toNat (2 : Int))]? = some nm0 := rfl
    have g3 : [a, b, nm0, x0][(Int.toNat (3 : Int))]? = some x0 := rfl
    have hx0 := hlen x0 (by simp)
    obtain ⟨⟨m, ok2, ⟨⟩⟩, e2, p1, p2⟩ := trace_number_is N hN (t := x0) (Nat.le_trans hx0 (by omega))
    dsimp only at p1
    simp only [l2, l3, g2, g3, e2, br_true, Option.bind_some]
    have nmOf : ∀ e, rightW (wordB N) e = true → lineL e = tl s → e.2.2.1 = nm0 ∧ e.2.2.1 ≠ bs [] ∧ 0 < e.2.2.2 ∧ e.2.1 = b ∧ m = e.2.2.2 ∧ ok2 = true := fun e h1 h2 => by
      have h3 := (tk e h1 h2).1
      have hnn := right_name hN (tk e h1 h2).2 h1
      have h10 := (right_num h1).2
      obtain ⟨t, w, nm, j⟩ := e
      dsimp only at hnn h10 ⊢
      unfold toks at h3
      simp only [List.map_cons, List.map_nil, List.cons.injEq] at h3
      obtain ⟨_, h5, h6⟩ := h3
      by_cases c : nm = bs []
      · have c2 : ¬ 0 < j := fun c2 => hnn c2 c
        rw [if_pos c, if_neg c2] at h6
        cases h6
      · by_cases c2 : 0 < j
        · rw [if_neg c, if_pos c2] at h6
          simp only [List.cons_append, List.nil_append, List.cons.injEq, and_true] at h6
          have := p2 j.toNat (by omega) h6.2.symm
          injection this with t1 t2
          injection t2 with t2 _
          exact ⟨tl_inj h6.1, c, c2, tl_inj h5, by rw [t1]; omega, t2⟩
        · rw [if_neg c, if_neg c2] at h6
          have := congrArg List.length h6
          simp at this
    cases ok
    · simp only [br_false]
      exact bad _ fun e h1 h2 => by have := (now e h1 h2).2; cases this
    · simp only [br_true]
      obtain ⟨k', rfl, hk'⟩ := num rfl
      by_cases c : nm0 = bs []
      · rw [decide_eq_true c]
        exact bad _ fun e h1 h2 => (nmOf e h1 h2).2.1 ((nmOf e h1 h2).1.trans c)
      · rw [decide_eq_false c]
        simp only [Bool.not_false, br_true]
        cases ok2
        · exact bad _ fun e h1 h2 => by have := (nmOf e h1 h2).2.2.2.2.2; cases this
        · simp only [br_true]
          obtain ⟨j, _, rfl, hj⟩ := p1 rfl
          by_cases c2 : 0 < (j : Int)
          · rw [decide_eq_true c2]
            simp only [br_true]
            refine fin _ _ (hlen nm0 (by simp)) rfl (fun _ => ?_) fun e h1 h2 => ?_
            · rw [← hjoin]
              show dec ((k' : Int)).toNat ++ ([58, 32] ++ (b.data.toList ++ ((if nm0 = bs [] then [] else 32 :: nm0.data.toList) ++ (if (0 : Int) < (j : Int) then 32 :: dec ((j : Int)).toNat else [])))) = tl a ++ 32 :: (tl b ++ 32 :: (tl nm0 ++ 32 :: tl x0))
              rw [if_neg c, if_pos c2, k4, hk', hj, Int.toNat_natCast, Int.toNat_natCast]
              simp
            · obtain ⟨h5, _, _, h7, h8, _⟩ := nmOf e h1 h2
              have h4 := (now e h1 h2).1
              obtain ⟨t, w, nm, m⟩ := e
              dsimp only at h4 h5 h7 h8
              rw [h5, h7, ← h4, ← h8]
          · rw [decide_eq_false c2]
            exact bad _ fun e h1 h2 => by
              obtain ⟨_, _, h3, _, h8, _⟩ := nmOf e h1 h2
              omega
  | _ :: _ :: _ :: _, _, _, h, _ =>
    simp only [List.length_cons] at h
    omega
end Go.Proofs.Ythmajioeldhngaa.Tr
