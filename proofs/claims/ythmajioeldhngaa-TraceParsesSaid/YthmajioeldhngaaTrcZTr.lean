/- The document: lines are read. -/
import Derived.Test.YthmajioeldhngaaTrcYTr
namespace Go.Proofs.Ythmajioeldhngaa.Tr
open Go Go.VI
set_option linter.unusedVariables false
set_option linter.unusedSimpArgs false
set_option maxRecDepth 100000

theorem ref32_cut_is (N : Nat) (hN : Big N) {s : ByteArray} (hs : s.size ≤ 1000000) : Tot (G_ref32_cut N (s, ())) fun v => v.1.map tl = splitL 32 (tl s) := by
  unfold Big at hN
  have hsz := size_list s
  have loop : ∀ m (i : Nat) x, i ≤ s.size → (∃ f : Nat, ∃ acc : List ByteArray, x = ((s, (f : Int), (i : Int), ()), acc, ()) ∧ f ≤ i ∧ acc.length ≤ i ∧ acc.map tl ++ splitL 32 ((tl s).drop f) = splitL 32 (tl s) ∧ (32 : UInt8) ∉ ((tl s).drop f).take (i - f)) → s.size - i + 1 < m →
      Tot (g_ref32_cut_4 N m x) fun o => ∃ acc y, o = .inl (y, acc, ()) ∧ acc.map tl = splitL 32 (tl s) := by
    intro m
    induction m with
    | zero => intro i x _ _ h; omega
    | succ m ih =>
      intro i x hi hx hm
      obtain ⟨f, acc, rfl, hf, hal, hacc, hno⟩ := hx
      rw [g_ref32_cut_4_succ]
      unfold s_ref32_cut_4
      have d0 : decide ((0 : Int) ≤ (i : Int)) = true := decide_eq_true (by omega)
      have d1 : decide ((i : Int) ≤ ((s.size : Nat) : Int)) = true := decide_eq_true (by omega)
      have d2 : decide ((0 : Int) ≤ (f : Int)) = true := decide_eq_true (by omega)
      have b1 : Nat.ble f i = true := Nat.ble_eq_true_of_le hf
      have b2 : Nat.ble i s.size = true := Nat.ble_eq_true_of_le hi
      have b3 : Nat.ble (acc.length + 1) maxElems = true := Nat.ble_eq_true_of_le (by unfold maxElems; omega)
      by_cases hlt : i < s.size
      · have hi' : i < s.data.toList.length := by omega
        rw [decide_eq_false (show ¬ (i : Int) = ((s.size : Nat) : Int) by omega)]
        simp only [d0, d1, d2, br_true, br_false, Int.toNat_natCast, at_lt hi', Option.bind_some, wi (i := i) (by omega), b1, b2, b3, Bool.and_self]
        by_cases e : s.data.toList[i] = 32
        · rw [e, decide_eq_true (show (((32 : UInt8).toNat : Nat) : Int) = 32 by decide), br_true]
          refine ih (i + 1) _ (by omega) ⟨i + 1, _, rfl, Nat.le_refl _, by rw [List.length_append]; simp only [List.length_cons, List.length_nil]; omega, ?_, by rw [Nat.sub_self]; simp⟩ (by omega)
          rw [drop_split hf hi', e, split_at hno] at hacc
          rw [List.map_append, List.append_assoc, ← hacc]
          congr 1
          show [tl (s.extract f i)] ++ _ = _
          unfold tl
          rw [ba_extract]; rfl
        · have e' : ¬ (((s.data.toList[i]).toNat : Nat) : Int) = 32 := fun h => e (u8_eq (b := 32) (by show _ = 32; omega))
          rw [decide_eq_false e', br_false]
          refine ih (i + 1) _ (by omega) ⟨f, acc, rfl, by omega, by omega, hacc, ?_⟩ (by omega)
          rw [take_snoc_drop hf hi', List.mem_append, List.mem_singleton, not_or]
          exact ⟨hno, fun h => e h.symm⟩
      · have : i = s.size := by omega
        subst this
        rw [decide_eq_true (rfl : ((s.size : Nat) : Int) = ((s.size : Nat) : Int))]
        simp only [d0, d1, d2, br_true, Int.toNat_natCast, b1, b2, b3, Bool.and_self, wi (i := s.size) (by omega)]
        rw [List.take_of_length_le (by rw [List.length_drop]; show s.data.toList.length - f ≤ _; omega)] at hno
        obtain ⟨m, rfl⟩ : ∃ j, m = j + 1 := ⟨m - 1, by omega⟩
        rw [g_ref32_cut_4_succ]
        unfold s_ref32_cut_4
        rw [decide_eq_false (show ¬ ((s.size + 1 : Nat) : Int) ≤ ((s.size : Nat) : Int) by omega)]
        refine Tot.some ⟨_, _, rfl, ?_⟩
        show (acc ++ [s.extract f s.size]).map tl = _
        rw [List.map_append, ← hacc, split_end hno]
        congr 1
        show [tl (s.extract f s.size)] = _
        unfold tl
        rw [ba_extract, List.take_of_length_le (by rw [List.length_drop]; omega)]
  obtain ⟨o, e, acc, y, rfl, h⟩ := loop N 0 _ (by omega) ⟨0, [], rfl, Nat.le_refl _, Nat.le_refl _, rfl, by simp⟩ (by omega)
  have e : g_ref32_cut_4 N N ((s, 0, 0, ()), [], ()) = _ := e
  unfold G_ref32_cut S_ref32_cut
  simp only [e, Option.bind_some, Sum.elim_inl]
  exact Tot.some h
theorem ref32_number_is (N : Nat) (hN : Big N) {t : ByteArray} (ht : okS t) : Tot (G_ref32_number N (t, ())) fun v => ∀ n : Nat, n < 10 ^ 13 → tl t = dec n → v.1 = (n : Int) := by
  unfold Big at hN; unfold okS at ht
  have hsz := size_list t
  have loop : ∀ m (i : Nat) x, i ≤ t.size → (∃ a : Int, x = ((t, a, (i : Int), ()), ()) ∧ ∀ n : Nat, n < 10 ^ 13 → tl t = dec n → a = ((digs ((tl t).take i) : Nat) : Int)) → t.size - i < m →
      Tot (g_ref32_number_3 N m x) fun o => ∃ a : Int, ∃ y, o = .inl ((a, ()), y) ∧ ∀ n : Nat, n < 10 ^ 13 → tl t = dec n → a = (n : Int) := by
    refine Tot.range t.size fun m i x hx hi rec => ?_
    obtain ⟨a, rfl, ha⟩ := hx
    rw [g_ref32_number_3_succ]
    unfold s_ref32_number_3
    -- at the end
    have done : (t.size ≤ i ∨ 13 ≤ i) → ∀ n : Nat, n < 10 ^ 13 → tl t = dec n → a = (n : Int) := fun h n hn he => by
      have hl := dec_len 13 n (by omega) hn
      rw [← he] at hl
      have hl2 : (tl t).length = t.size := hsz
      rw [ha n hn he, List.take_of_length_le (by omega), he, digs_dec]
    by_cases hlt : i < t.size
    · have hi' : i < t.data.toList.length := by omega
      have d0 : decide ((0 : Int) ≤ (i : Int)) = true := decide_eq_true (by omega)
      have d1 : decide ((i : Int) < ((t.size : Nat) : Int)) = true := decide_eq_true (by omega)
      by_cases h13 : i < 13
      · have d2 : decide ((i : Int) < 13) = true := decide_eq_true (by omega)
        simp only [d0, d1, d2, br_true, Int.toNat_natCast, at_lt hi', Option.bind_some, wi (i := i) (by omega)]
        have hsn : (tl t).take (i + 1) = (tl t).take i ++ [t.data.toList[i]] := by
          show t.data.toList.take (i + 1) = _
          rw [List.take_add_one, at_lt hi']; rfl
        -- a digit, if it is a number's text
        have hdig : ∀ n, tl t = dec n → isDig t.data.toList[i] := fun n h => dec_dig n _ (by rw [← h]; exact List.getElem_mem hi')
        by_cases c1 : 48 ≤ (t.data.toList[i]).toNat
        · rw [decide_eq_true (show (48 : Int) ≤ (((t.data.toList[i]).toNat : Nat) : Int) by omega)]
          simp only [br_true]
          by_cases c2 : (t.data.toList[i]).toNat ≤ 57
          · rw [decide_eq_true (show (((t.data.toList[i]).toNat : Nat) : Int) ≤ 57 by omega)]
            simp only [br_true]
            refine rec (i + 1) _ (by omega) (by omega) ⟨_, rfl, fun n hn he => ?_⟩
            have h1 := ha n hn he
            have hdl : ∀ b ∈ (tl t).take i, isDig b := fun b hb => dec_dig n b (by rw [← he]; exact List.mem_of_mem_take hb)
            have hb := digs_lt i ((tl t).take i) (by rw [List.length_take]; show min i t.data.toList.length = i; omega) hdl
            have hp : 10 ^ i ≤ 10 ^ 12 := Nat.pow_le_pow_right (by omega) (by omega)
            rw [hsn, digs_snoc, h1]
            have w1 : IntKind.wrap IntKind.u8 ((((t.data.toList[i]).toNat : Nat) : Int) - 48) = (((t.data.toList[i]).toNat - 48 : Nat) : Int) := by rw [wu8 (by omega) (by omega)]; omega
            have w2 : IntKind.i64.wrap (((t.data.toList[i]).toNat - 48 : Nat) : Int) = (((t.data.toList[i]).toNat - 48 : Nat) : Int) := w64 (by omega) (by omega)
            have w3 : IntKind.i64.wrap (10 * ((digs ((tl t).take i) : Nat) : Int)) = ((10 * digs ((tl t).take i) : Nat) : Int) := by rw [w64 (by omega) (by omega)]; omega
            rw [w1, w2, w3, w64 (by omega) (by omega)]; omega
          · rw [decide_eq_false (show ¬ (((t.data.toList[i]).toNat : Nat) : Int) ≤ 57 by omega)]
            simp only [br_false]
            exact rec (i + 1) _ (by omega) (by omega) ⟨_, rfl, fun n hn he => absurd (hdig n he).2 c2⟩
        · rw [decide_eq_false (show ¬ (48 : Int) ≤ (((t.data.toList[i]).toNat : Nat) : Int) by omega)]
          simp only [br_false]
          exact rec (i + 1) _ (by omega) (by omega) ⟨_, rfl, fun n hn he => absurd (hdig n he).1 c1⟩
      · have d2 : decide ((i : Int) < 13) = false := decide_eq_false (by omega)
        simp only [d1, d2, br_true, br_false]
        exact Tot.some ⟨a, _, rfl, done (.inr (by omega))⟩
    · have d1 : decide ((i : Int) < ((t.size : Nat) : Int)) = false := decide_eq_false (by omega)
      simp only [d1, br_false]
      exact Tot.some ⟨a, _, rfl, done (.inl (by omega))⟩
  obtain ⟨o, e, a, y, rfl, h⟩ := loop N 0 _ (by omega) ⟨0, rfl, fun n _ _ => rfl⟩ (by omega)
  have e : g_ref32_number_3 N N ((t, 0, 0, ()), ()) = _ := e
  unfold G_ref32_number S_ref32_number
  simp only [e, Option.bind_some, Sum.elim_inl]
  exact Tot.some h
theorem ref32_read_is (N : Nat) (hN : Big N) {s : ByteArray} (hs : s.size ≤ 2000) : Tot (G_ref32_read N (s, ())) fun v => (v.2.1 = true → rightW (wordB N) v.1 = true ∧ lineL v.1 = tl s) ∧ ∀ e, rightW (wordB N) e = true → lineL e = tl s → v = (e, true, ()) := by
  have hw : ∀ s, okS s → G_ref01_Word N (s, ()) = some (wordB N s, ()) := fun s hs => ref01_Word_is hN hs
  have hsz := size_list s
  have hsz2 : (tl s).length = s.size := hsz
  obtain ⟨⟨ps, ⟨⟩⟩, e0, hps⟩ := ref32_cut_is N hN (s := s) (by omega)
  have hps : ps.map tl = splitL 32 (tl s) := hps
  have hjoin : joinL 32 (ps.map tl) = tl s := by rw [hps, join_split]
  have hlen : ∀ p ∈ ps, p.size ≤ 2000 := by
    intro p hp
    have := join_len 32 (ps.map tl) (tl p) (List.mem_map_of_mem hp)
    rw [hjoin] at this
    have h2 : (tl p).length = p.size := size_list p
    omega
  have tk : ∀ e, rightW (wordB N) e = true → lineL e = tl s → toks e = ps.map tl ∧ okS e.2.2.1 := fun e h1 h2 => by
    have hok : okS e.2.2.1 := by
      unfold okS
      by_cases c : e.2.2.1 = bs []
      · rw [c]; decide
      · have : e.2.2.1.data.toList.length ≤ (lineL e).length := by
          unfold lineL
          rw [if_neg c]
          simp only [List.length_append, List.length_cons, List.length_nil]
          omega
        rw [h2] at this
        have h4 := size_list e.2.2.1
        omega
    exact ⟨by rw [hps, ← h2, toks_split hN hok h1], hok⟩
  have bad : ∀ (e0 : Ev), (∀ e, rightW (wordB N) e = true → lineL e = tl s → False) → Tot (some (e0, false, ()) : Option (Ev × Bool × Unit)) fun v => (v.2.1 = true → rightW (wordB N) v.1 = true ∧ lineL v.1 = tl s) ∧ ∀ e, rightW (wordB N) e = true → lineL e = tl s → v = (e, true, ()) :=
    fun e0 h => Tot.some ⟨fun h' => (by cases h'), fun e h1 h2 => (h e h1 h2).elim⟩
  unfold G_ref32_read S_ref32_read
  simp only [e0, Option.bind_some]
  have tklen : ∀ e : Ev, 2 ≤ (toks e).length ∧ (toks e).length ≤ 4 := fun e => by
    unfold toks
    simp only [List.length_cons, List.length_append]
    split <;> split <;> simp
  refine Tot.brD (fun hl => bad _ fun e h1 h2 => ?_) fun hl => ?_
  · have := (tklen e).1
    rw [(tk e h1 h2).1, List.length_map] at this
    have hl : ((ps.length : Nat) : Int) < 2 := hl
    omega
  refine Tot.brD (fun hl2 => bad _ fun e h1 h2 => ?_) fun hl2 => ?_
  · have := (tklen e).2
    rw [(tk e h1 h2).1, List.length_map] at this
    have hl2 : (4 : Int) < ((ps.length : Nat) : Int) := hl2
    omega
  have hl : ¬ ((ps.length : Nat) : Int) < 2 := hl
  have hl2 : ¬ (4 : Int) < ((ps.length : Nat) : Int) := hl2
  obtain ⟨a, b, r, rfl⟩ : ∃ a b r, ps = a :: b :: r := by
    match ps, hl with
    | [], h => exact absurd (by show ((0 : Nat) : Int) < 2; decide) h
    | [_], h => exact absurd (by show ((1 : Nat) : Int) < 2; decide) h
    | a :: b :: r, _ => exact ⟨a, b, r, rfl⟩
  have g0 : (a :: b :: r)[(Int.toNat 0)]? = some a := rfl
  have g1 : (a :: b :: r)[(Int.toNat 1)]? = some b := rfl
  simp only [g0, g1, Option.bind_some]
  have ha := hlen a (by simp)
  have hb := hlen b (by simp)
  have ha2 : (tl a).length = a.size := size_list a
  -- the first part of an event's line
  have first : ∀ e, rightW (wordB N) e = true → lineL e = tl s → tl a = dec e.1.toNat ++ [58] ∧ e.2.1 = b := fun e h1 h2 => by
    have := (tk e h1 h2).1
    unfold toks at this
    simp only [List.map_cons, List.cons.injEq] at this
    exact ⟨this.1.symm, tl_inj this.2.1⟩
  refine Tot.brD (fun h0 => bad _ fun e h1 h2 => ?_) fun h0 => ?_
  · have h3 := (first e h1 h2).1
    have h4 := List.length_pos_iff.2 (dec_ne e.1.toNat)
    have h5 := congrArg List.length h3
    rw [List.length_append, List.length_cons, List.length_nil] at h5
    have h0 : ((a.size : Nat) : Int) < 2 := h0
    omega
  have h0 : ¬ ((a.size : Nat) : Int) < 2 := h0
  obtain ⟨k, hk⟩ : ∃ k, a.size = k + 1 := ⟨a.size - 1, by omega⟩
  have w1 : IntKind.i64.wrap (((a.size : Nat) : Int) - 1) = (k : Int) := by rw [w64 (by omega) (by omega)]; omega
  have d0 : decide ((0 : Int) ≤ (k : Int)) = true := decide_eq_true (by omega)
  have b1 : Nat.ble 0 k = true := rfl
  have b2 : Nat.ble k a.size = true := Nat.ble_eq_true_of_le (by omega)
  have hx : (a.extract 0 k).size ≤ 2000 := by rw [ByteArray.size_extract]; omega
  obtain ⟨⟨n, ⟨⟩⟩, e1, q1⟩ := ref32_number_is N hN (t := a.extract 0 k) (Nat.le_trans hx (by omega))
  dsimp only at q1
  simp only [w1, d0, br_true, Int.toNat_natCast, b1, b2, Bool.and_self, e1, Option.bind_some]
  have now : ∀ e, rightW (wordB N) e = true → lineL e = tl s → n = e.1 := fun e h1 h2 => by
    have h3 := right_num h1
    have h4 := (first e h1 h2).1
    have h5 : tl (a.extract 0 k) = dec e.1.toNat := by
      show (a.extract 0 k).data.toList = _
      rw [ba_extract, List.drop_zero, Nat.sub_zero]
      have h6 := congrArg List.length h4
      rw [List.length_append, List.length_cons, List.length_nil] at h6
      show (tl a).take k = _
      rw [h4, List.take_left' (by omega)]
    have := q1 e.1.toNat (Nat.lt_of_le_of_lt (show e.1.toNat ≤ 1099511627776 by omega) (by decide)) h5
    omega
  -- the last step, for each shape
  have fin : ∀ (name : ByteArray) (m : Int), name.size ≤ 2000 → (∀ e, rightW (wordB N) e = true → lineL e = tl s → e = (n, b, name, m)) →
      Tot (Option.bind (G_ref32_Right N ((n, b, name, m), ())) (fun v9 => (VI.br v9.1 (Option.bind (G_ref32_line N ((n, b, name, m), ())) (fun v10 => (some ((n, b, name, m), (decide (v10.1 = s)), ())))) (some ((n, b, name, m), false, ()))))) fun v => (v.2.1 = true → rightW (wordB N) v.1 = true ∧ lineL v.1 = tl s) ∧ ∀ e, rightW (wordB N) e = true → lineL e = tl s → v = (e, true, ()) := by
    intro name m h1 h4
    have hok : okEv (n, b, name, m) := ⟨Nat.le_trans hb (by omega), Nat.le_trans h1 (by omega)⟩
    simp only [ref32_Right_is N hN (wordB N) hw hok, Option.bind_some]
    cases hr : rightW (wordB N) (n, b, name, m)
    · exact bad _ fun e h5 h6 => by rw [h4 e h5 h6, hr] at h5; cases h5
    · have hn := right_num hr
      simp only [br_true, ref32_line_is N hN (e := (n, b, name, m)) hn.1 hn.2 ⟨hb, h1⟩, Option.bind_some]
      refine Tot.some ⟨fun h => ⟨hr, ?_⟩, fun e h5 h6 => ?_⟩
      · have h : lineS (n, b, name, m) = s := of_decide_eq_true h
        show lineL (n, b, name, m) = tl s
        rw [← h]; exact (lineS_list _).symm
      · have := h4 e h5 h6
        subst this
        have : lineS (n, b, name, m) = s := ba_ext (by rw [lineS_list]; exact h6)
        rw [decide_eq_true this]
  match r, tk, hl2, hlen with
  | [], tk, _, _ =>
    have l2 : decide ((2 : Int) < (([a, b].length : Nat) : Int)) = false := rfl
    have l3 : decide ((3 : Int) < (([a, b].length : Nat) : Int)) = false := rfl
    simp only [l2, l3, br_false]
    refine fin _ _ (by decide) fun e h1 h2 => ?_
    have h3 := (tk e h1 h2).1
    have h4 := now e h1 h2
    have h5 := (first e h1 h2).2
    have h10 := (right_num h1).2.1
    obtain ⟨t, w, nm, m⟩ := e
    dsimp only at h4 h5 h10
    unfold toks at h3
    simp only [List.map_cons, List.map_nil, List.cons.injEq] at h3
    have h7 := (List.append_eq_nil_iff.1 h3.2.2)
    have h8 : nm = bs [] := by
      by_cases c : nm = bs []
      · exact c
      · have := h7.1; rw [if_neg c] at this; cases this
    have h9 : ¬ 0 < m := fun c => by have := h7.2; rw [if_pos c] at this; cases this
    rw [h8, h5, ← h4, show m = 0 by omega]
  | [nm0], tk, _, hlen =>
    have l2 : decide ((2 : Int) < (([a, b, nm0].length : Nat) : Int)) = true := rfl
    have l3 : decide ((3 : Int) < (([a, b, nm0].length : Nat) : Int)) = false := rfl
    have g2 : [a, b, nm0][(Int.toNat (2 : Int))]? = some nm0 := rfl
    simp only [l2, l3, g2, br_true, br_false, Option.bind_some]
    refine fin _ _ (hlen nm0 (by simp)) fun e h1 h2 => ?_
    have h3 := (tk e h1 h2).1
    have h4 := now e h1 h2
    have h5 := (first e h1 h2).2
    have hnn := right_name hN (tk e h1 h2).2 h1
    have h10 := (right_num h1).2.1
    obtain ⟨t, w, nm, m⟩ := e
    dsimp only at hnn h4 h5 h10
    unfold toks at h3
    simp only [List.map_cons, List.map_nil, List.cons.injEq] at h3
    have h6 := h3.2.2
    by_cases c : nm = bs []
    · have c2 : ¬ 0 < m := fun c2 => hnn c2 c
      rw [if_pos c, if_neg c2] at h6
      cases h6
    · by_cases c2 : 0 < m
      · rw [if_neg c, if_pos c2] at h6
        have := congrArg List.length h6
        simp at this
      · rw [if_neg c, if_neg c2] at h6
        injection h6 with h6 _
        rw [tl_inj h6, h5, ← h4, show m = 0 by omega]
  | [nm0, x0], tk, _, hlen =>
    have l2 : decide ((2 : Int) < (([a, b, nm0, x0].length : Nat) : Int)) = true := rfl
    have l3 : decide ((3 : Int) < (([a, b, nm0, x0].length : Nat) : Int)) = true := rfl
    have g2 : [a, b, nm0, x0][(Int.toNat (2 : Int))]? = some nm0 := rfl
    have g3 : [a, b, nm0, x0][(Int.toNat (3 : Int))]? = some x0 := rfl
    have hx0 := hlen x0 (by simp)
    obtain ⟨⟨m, ⟨⟩⟩, e2, p2⟩ := ref32_number_is N hN (t := x0) (Nat.le_trans hx0 (by omega))
    dsimp only at p2
    simp only [l2, l3, g2, g3, e2, br_true, Option.bind_some]
    refine fin _ _ (hlen nm0 (by simp)) fun e h1 h2 => ?_
    have h3 := (tk e h1 h2).1
    have h4 := now e h1 h2
    have h5 := (first e h1 h2).2
    have hnn := right_name hN (tk e h1 h2).2 h1
    have h10 := (right_num h1).2
    obtain ⟨t, w, nm, j⟩ := e
    dsimp only at hnn h4 h5 h10
    unfold toks at h3
    simp only [List.map_cons, List.map_nil, List.cons.injEq] at h3
    have h6 := h3.2.2
    by_cases c : nm = bs []
    · have c2 : ¬ 0 < j := fun c2 => hnn c2 c
      rw [if_pos c, if_neg c2] at h6
      cases h6
    · by_cases c2 : 0 < j
      · rw [if_neg c, if_pos c2] at h6
        simp only [List.cons_append, List.nil_append, List.cons.injEq, and_true] at h6
        have := p2 j.toNat (Nat.lt_of_le_of_lt (show j.toNat ≤ 200 by omega) (by decide)) h6.2.symm
        rw [tl_inj h6.1, h5, ← h4, this]
        congr 3
        omega
      · rw [if_neg c, if_neg c2] at h6
        have := congrArg List.length h6
        simp at this
  | _ :: _ :: _ :: _, _, h, _ =>
    simp only [List.length_cons] at h
    omega
theorem ref32_Parse_is (N : Nat) (hN : Big N) {s : ByteArray} (hs : s.size ≤ 2000) : G_ref32_Parse N (s, ()) = some (parseF N (linesL (tl s)) 0 []) := by
  have hN' := hN
  unfold Big at hN'
  have hsz := size_list s
  have hsz2 : (tl s).length = s.size := hsz
  -- the end of a line
  have inner : ∀ (n at_ : Nat) (acc : List Ev), at_ ≤ s.size → ∃ end_ : Nat, g_ref32_Parse_6 N N ((s, (n : Int), (at_ : Int), (at_ : Int), ()), acc, ()) = some (.inl ((s, (n : Int), (at_ : Int), (end_ : Int), ()), acc, ())) ∧ at_ ≤ end_ ∧ end_ ≤ s.size ∧ (10 : UInt8) ∉ ((tl s).drop at_).take (end_ - at_) ∧ (∀ h : end_ < (tl s).length, (tl s)[end_] = 10) := by
    intro n at_ acc hat
    have loop : ∀ m (i : Nat) x, i ≤ s.size → (x = ((s, (n : Int), (at_ : Int), (i : Int), ()), acc, ()) ∧ at_ ≤ i ∧ (10 : UInt8) ∉ ((tl s).drop at_).take (i - at_)) → s.size - i < m →
        Tot (g_ref32_Parse_6 N m x) fun o => ∃ end_ : Nat, o = .inl ((s, (n : Int), (at_ : Int), (end_ : Int), ()), acc, ()) ∧ at_ ≤ end_ ∧ end_ ≤ s.size ∧ (10 : UInt8) ∉ ((tl s).drop at_).take (end_ - at_) ∧ (∀ h : end_ < (tl s).length, (tl s)[end_] = 10) := by
      refine Tot.range s.size fun m i x hx hi rec => ?_
      obtain ⟨rfl, hai, hno⟩ := hx
      rw [g_ref32_Parse_6_succ]
      unfold s_ref32_Parse_6
      by_cases hlt : i < s.size
      · have hi' : i < s.data.toList.length := by omega
        have d0 : decide ((0 : Int) ≤ (i : Int)) = true := decide_eq_true (by omega)
        have d1 : decide ((i : Int) < ((s.size : Nat) : Int)) = true := decide_eq_true (by omega)
        simp only [d0, d1, br_true, Int.toNat_natCast, at_lt hi', Option.bind_some, wi (i := i) (by omega)]
        by_cases e : s.data.toList[i] = 10
        · rw [e, decide_eq_true (show (((10 : UInt8).toNat : Nat) : Int) = 10 by decide)]
          exact Tot.some ⟨i, rfl, hai, hi, hno, fun _ => e⟩
        · have e' : ¬ (((s.data.toList[i]).toNat : Nat) : Int) = 10 := fun h => e (u8_eq (b := 10) (by show _ = 10; omega))
          rw [decide_eq_false e']
          refine rec (i + 1) _ (by omega) (by omega) ⟨rfl, by omega, ?_⟩
          rw [take_snoc_drop hai hi', List.mem_append, List.mem_singleton, not_or]
          exact ⟨hno, fun h => e h.symm⟩
      · have d1 : decide ((i : Int) < ((s.size : Nat) : Int)) = false := decide_eq_false (by omega)
        simp only [d1, br_false]
        exact Tot.some ⟨i, rfl, hai, hi, hno, fun h => by omega⟩
    obtain ⟨o, e, end_, rfl, h⟩ := loop N at_ _ hat ⟨rfl, Nat.le_refl _, by rw [Nat.sub_self]; simp⟩ (by omega)
    exact ⟨end_, e, h⟩
  have loop : ∀ (k : Nat) (m at_ n : Nat) (acc : List Ev), s.size + 1 - at_ ≤ k → k < m → n ≤ at_ → acc.length ≤ at_ → parseF N (linesL ((tl s).drop at_)) n acc = parseF N (linesL (tl s)) 0 [] →
      Tot (g_ref32_Parse_4 N m ((s, (n : Int), (at_ : Int), ()), acc, ())) fun o => (∃ acc y, o = .inl (y, acc, ()) ∧ parseF N (linesL (tl s)) 0 [] = (acc, 0, 0, ())) ∨ ∃ y, o = .inr (parseF N (linesL (tl s)) 0 [], y) := by
    intro k
    induction k with
    | zero =>
      intro m at_ n acc h1 h2 h3 h4 hp
      obtain ⟨m, rfl⟩ : ∃ j, m = j + 1 := ⟨m - 1, by omega⟩
      rw [g_ref32_Parse_4_succ]
      unfold s_ref32_Parse_4
      have d1 : decide ((at_ : Int) < ((s.size : Nat) : Int)) = false := decide_eq_false (by omega)
      simp only [d1, br_false]
      rw [List.drop_eq_nil_of_le (by omega), lines_nil] at hp
      exact Tot.some (.inl ⟨acc, _, rfl, hp.symm⟩)
    | succ k ih =>
      intro m at_ n acc h1 h2 h3 h4 hp
      obtain ⟨m, rfl⟩ : ∃ j, m = j + 1 := ⟨m - 1, by omega⟩
      rw [g_ref32_Parse_4_succ]
      unfold s_ref32_Parse_4
      by_cases hlt : at_ < s.size
      · have d1 : decide ((at_ : Int) < ((s.size : Nat) : Int)) = true := decide_eq_true (by omega)
        obtain ⟨end_, ei, q1, q2, q3, q4⟩ := inner n at_ acc (by omega)
        have d2 : decide ((0 : Int) ≤ (at_ : Int)) = true := decide_eq_true (by omega)
        have d3 : decide ((0 : Int) ≤ (end_ : Int)) = true := decide_eq_true (by omega)
        have b1 : Nat.ble at_ end_ = true := Nat.ble_eq_true_of_le q1
        have b2 : Nat.ble end_ s.size = true := Nat.ble_eq_true_of_le q2
        have b3 : Nat.ble (acc.length + 1) maxElems = true := Nat.ble_eq_true_of_le (by unfold maxElems; omega)
        have hline : tl (s.extract at_ end_) = ((tl s).drop at_).take (end_ - at_) := by unfold tl; rw [ba_extract]
        have hls : (s.extract at_ end_).size ≤ 2000 := by rw [ByteArray.size_extract]; omega
        have hdec : linesL ((tl s).drop at_) = tl (s.extract at_ end_) :: linesL ((tl s).drop (end_ + 1)) := by
          rw [hline]
          by_cases he : end_ < (tl s).length
          · rw [← lines_at q3]
            congr 1
            have := drop_split q1 he
            rw [q4 he] at this
            exact this
          · have hl : ((tl s).drop at_).take (end_ - at_) = (tl s).drop at_ := List.take_of_length_le (by rw [List.length_drop]; omega)
            rw [hl] at q3 ⊢
            have hz : (tl s).drop (end_ + 1) = [] := List.drop_eq_nil_of_le (by omega)
            rw [lines_end q3 (fun h => by have := congrArg List.length h; rw [List.length_drop, List.length_nil] at this; omega), hz, lines_nil]
        rw [hdec] at hp
        obtain ⟨v, e1, g1, g2⟩ := ref32_read_is N hN hls
        simp only [d1, br_true, ei, Option.bind_some, Sum.elim_inl, d2, d3, Int.toNat_natCast, b1, b2, Bool.and_self, e1, b3, wi (i := n) (by omega), wi (i := end_) (by omega)]
        rcases rdO_of g1 g2 with ⟨e, r1, rfl⟩ | ⟨r1, r2⟩
        · rw [parseF_some r1] at hp
          simp only [Bool.not_true, br_false]
          exact ih m (end_ + 1) (n + 1) _ (by omega) (by omega) (by omega) (by rw [List.length_append]; simp only [List.length_cons, List.length_nil]; omega) hp
        · rw [parseF_none r1] at hp
          rw [r2]
          simp only [Bool.not_false, br_true]
          exact Tot.some (.inr ⟨_, by rw [← hp]⟩)
      · have d1 : decide ((at_ : Int) < ((s.size : Nat) : Int)) = false := decide_eq_false (by omega)
        simp only [d1, br_false]
        rw [List.drop_eq_nil_of_le (by omega), lines_nil] at hp
        exact Tot.some (.inl ⟨acc, _, rfl, hp.symm⟩)
  obtain ⟨o, e, ho⟩ := loop (s.size + 1) N 0 0 [] (by omega) (by omega) (by omega) (Nat.le_refl _) rfl
  have e : g_ref32_Parse_4 N N ((s, 0, 0, ()), [], ()) = _ := e
  unfold G_ref32_Parse S_ref32_Parse
  simp only [e, Option.bind_some]
  rcases ho with ⟨acc, y, rfl, h⟩ | ⟨y, rfl⟩
  · rw [h]; rfl
  · rfl
end Go.Proofs.Ythmajioeldhngaa.Tr
