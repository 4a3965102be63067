/- Events: what is shown, called, added; what can be: the functions and the document. -/
import Derived.Test.YthmajioeldhngaaTrcPTr
import Derived.Test.YthmajioeldhngaaDigPTr
import Derived.Test.YthmajioeldhngaaWrdTr
namespace Go.Proofs.Ythmajioeldhngaa.Tr
open Go Go.VI
set_option linter.unusedVariables false
set_option linter.unusedSimpArgs false
set_option maxRecDepth 100000

def kindB (s : ByteArray) : Int := if amB lCounts s then 1 else if amB lNames s then 2 else if amB lAlone s then 3 else 0
theorem ref32_kind_is (N : Nat) (s : ByteArray) : G_ref32_kind N (s, ()) = some (kindB s, ()) := by
  unfold G_ref32_kind S_ref32_kind
  by_cases e0 : s = wUp
  · subst e0; rfl
  by_cases e1 : s = wRaise
  · subst e1; rfl
  by_cases e2 : s = wFix
  · subst e2; rfl
  by_cases e3 : s = bs [99, 108, 101, 97, 110]
  · subst e3; rfl
  by_cases e4 : s = bs [114, 101, 102, 117, 115, 101, 100]
  · subst e4; rfl
  by_cases e5 : s = bs [104, 111, 112, 101, 108, 101, 115, 115]
  · subst e5; rfl
  by_cases e6 : s = bs [101, 118, 105, 99, 116]
  · subst e6; rfl
  by_cases e7 : s = wDelete
  · subst e7; rfl
  by_cases e8 : s = wKeep
  · subst e8; rfl
  by_cases e9 : s = wStop
  · subst e9; rfl
  by_cases e10 : s = wGone
  · subst e10; rfl
  by_cases e11 : s = wDown
  · subst e11; rfl
  by_cases e12 : s = wUnhealthy
  · subst e12; rfl
  have no : ∀ l : List ByteArray, s ∉ l → amB l s = false := fun l h => by rw [← Bool.not_eq_true, amB_iff]; exact h
  simp only [decide_eq_false e0, decide_eq_false e1, decide_eq_false e2, decide_eq_false e3, decide_eq_false e4, decide_eq_false e5, decide_eq_false e6, decide_eq_false e7, decide_eq_false e8, decide_eq_false e9, decide_eq_false e10, decide_eq_false e11, decide_eq_false e12, br_false]
  unfold kindB
  rw [no lCounts (by unfold lCounts; simp only [List.mem_cons, List.not_mem_nil, or_false]; rintro (h | h | h) <;> first | exact e0 h | exact e1 h | exact e2 h), no lNames (by unfold lNames; simp only [List.mem_cons, List.not_mem_nil, or_false]; rintro (h | h | h | h | h | h | h | h | h) <;> first | exact e3 h | exact e4 h | exact e5 h | exact e6 h | exact e7 h | exact e8 h | exact e9 h | exact e10 h | exact e11 h), no lAlone (by unfold lAlone; simp only [List.mem_cons, List.not_mem_nil, or_false]; exact e12)]
  rfl
theorem ref32_Right_is (N : Nat) (hN : Big N) (w : ByteArray → Bool) (hw : ∀ s, okS s → G_ref01_Word N (s, ()) = some (w s, ())) {e : Ev} (he : okEv e) : G_ref32_Right N (e, ()) = some (rightW w e, ()) := by
  obtain ⟨now, what, name, n⟩ := e
  obtain ⟨h1, h2⟩ := he
  have h2 : okS name := h2
  unfold G_ref32_Right S_ref32_Right rightW
  simp only [ref32_kind_is, hw _ h2, Option.bind_some, kindB]
  by_cases a1 : now < 0
  · rw [decide_eq_true a1, decide_eq_false (show ¬ (0 ≤ now ∧ now ≤ 1099511627776) by omega)]; rfl
  by_cases a2 : 1099511627776 < now
  · rw [decide_eq_false a1, decide_eq_true a2, decide_eq_false (show ¬ (0 ≤ now ∧ now ≤ 1099511627776) by omega)]; rfl
  rw [decide_eq_false a1, decide_eq_false a2, decide_eq_true (show 0 ≤ now ∧ now ≤ 1099511627776 by omega)]
  simp only [br_false, Bool.true_and]
  cases amB lCounts what
  · cases amB lNames what
    · cases amB lAlone what
      · rfl
      · by_cases e : name = bs []
        · rw [decide_eq_true e]; rfl
        · rw [decide_eq_false e]; rfl
    · cases w name <;> rfl
  · cases w name
    · rfl
    · by_cases c : 1 ≤ n
      · rw [decide_eq_true c]
        simp only [br_true, if_true, Bool.true_and, decide_true]
        congr 2
        rw [decide_eq_decide]; omega
      · rw [decide_eq_false c]
        simp only [br_true, br_false, if_true, Bool.true_and, decide_true]
        congr 2
        rw [decide_eq_false (show ¬ (1 ≤ n ∧ n ≤ 200) by omega)]
/-- An event's line. -/
def lineL (e : Ev) : List UInt8 := dec e.1.toNat ++ ([58, 32] ++ (e.2.1.data.toList ++ ((if e.2.2.1 = bs [] then [] else 32 :: e.2.2.1.data.toList) ++ (if 0 < e.2.2.2 then 32 :: dec e.2.2.2.toNat else []))))
def lineS (e : Ev) : ByteArray := ⟨(lineL e).toArray⟩
theorem lineS_list (e : Ev) : (lineS e).data.toList = lineL e := by simp [lineS]
def smallE (e : Ev) : Prop := e.2.1.size ≤ 2000 ∧ e.2.2.1.size ≤ 2000
theorem right_num {w : ByteArray → Bool} {e : Ev} (h : rightW w e = true) : (0 ≤ e.1 ∧ e.1 ≤ 1099511627776) ∧ 0 ≤ e.2.2.2 ∧ e.2.2.2 ≤ 200 := by
  unfold rightW at h
  rw [Bool.and_eq_true, decide_eq_true_eq] at h
  refine ⟨h.1, ?_⟩
  have h := h.2
  split at h
  · simp only [Bool.and_eq_true, decide_eq_true_eq] at h; omega
  · split at h
    · simp only [Bool.and_eq_true, decide_eq_true_eq] at h; omega
    · simp only [Bool.and_eq_true, decide_eq_true_eq] at h; omega
theorem lineL_len {e : Ev} (h1 : 0 ≤ e.1 ∧ e.1 ≤ 1099511627776) (h2 : 0 ≤ e.2.2.2 ∧ e.2.2.2 ≤ 200) (h3 : smallE e) : (lineL e).length ≤ 4100 := by
  have l1 := dec_len 18 e.1.toNat (by omega) (Nat.lt_of_le_of_lt (show e.1.toNat ≤ 1099511627776 by omega) (by decide))
  have l2 := dec_len 18 e.2.2.2.toNat (by omega) (Nat.lt_of_le_of_lt (show e.2.2.2.toNat ≤ 200 by omega) (by decide))
  have s1 := size_list e.2.1
  have s2 := size_list e.2.2.1
  obtain ⟨q1, q2⟩ := h3
  unfold lineL
  simp only [List.length_append, List.length_cons, List.length_nil]
  split <;> split <;> simp only [List.length_cons, List.length_nil] <;> omega
theorem ble_str {n : Nat} (h : n ≤ 1000000) : Nat.ble n 140737488355328 = true := Nat.ble_eq_true_of_le (by omega)
theorem numS_le {n : Nat} (h : n < 10 ^ 18) : (numS n).size ≤ 18 := by rw [numS_size]; exact dec_len 18 n (by omega) h
theorem trace_line_is (N : Nat) (hN : Big N) {e : Ev} (h1 : 0 ≤ e.1 ∧ e.1 ≤ 1099511627776) (h2 : 0 ≤ e.2.2.2 ∧ e.2.2.2 ≤ 200) (h3 : smallE e) : G_trace_Event_line N (e, ()) = some (lineS e, ()) := by
  obtain ⟨now, what, name, n⟩ := e
  obtain ⟨q1, q2⟩ := h3
  have q1 : what.size ≤ 2000 := q1
  have q2 : name.size ≤ 2000 := q2
  have h1 : 0 ≤ now ∧ now ≤ 1099511627776 := h1
  have h2 : 0 ≤ n ∧ n ≤ 200 := h2
  obtain ⟨t, rfl⟩ : ∃ t : Nat, now = (t : Int) := ⟨now.toNat, by omega⟩
  obtain ⟨k, rfl⟩ : ∃ k : Nat, n = (k : Int) := ⟨n.toNat, by omega⟩
  have ht : t < 10 ^ 18 := Nat.lt_of_le_of_lt (show t ≤ 1099511627776 by omega) (by decide)
  have hk : k < 10 ^ 18 := Nat.lt_of_le_of_lt (show k ≤ 200 by omega) (by decide)
  have s1 := numS_le ht
  have s2 := numS_le hk
  have z1 : (ByteArray.mk (List.toArray [58, 32])).size = 2 := rfl
  have z2 : (ByteArray.mk (List.toArray [32])).size = 1 := rfl
  unfold G_trace_Event_line S_trace_Event_line
  simp only [trace_digits_is N hN ht, trace_digits_is N hN hk, Option.bind_some, ByteArray.size_append, z1, z2]
  rw [ble_str (by omega), ble_str (by omega)]
  simp only [br_true]
  by_cases c1 : name = bs []
  · rw [decide_eq_true c1]
    simp only [Bool.not_true, br_false]
    by_cases c2 : 0 < (k : Int)
    · rw [decide_eq_true c2, ble_str (by omega), ble_str (by omega)]
      simp only [br_true]
      congr 2
      refine ba_ext ?_
      rw [lineS_list]
      unfold lineL
      simp only [ba_append, numS_list, if_pos c1, if_pos c2, Int.toNat_natCast, List.append_assoc]; rfl
    · rw [decide_eq_false c2]
      simp only [br_false]
      congr 2
      refine ba_ext ?_
      rw [lineS_list]
      unfold lineL
      simp only [ba_append, numS_list, if_pos c1, if_neg c2, Int.toNat_natCast, List.append_assoc, List.append_nil]
  · rw [decide_eq_false c1]
    simp only [Bool.not_false, br_true]
    rw [ble_str (by omega), ble_str (by omega)]
    simp only [br_true]
    by_cases c2 : 0 < (k : Int)
    · rw [decide_eq_true c2, ble_str (by omega), ble_str (by omega)]
      simp only [br_true]
      congr 2
      refine ba_ext ?_
      rw [lineS_list]
      unfold lineL
      simp only [ba_append, numS_list, if_neg c1, if_pos c2, Int.toNat_natCast, List.append_assoc]; rfl
    · rw [decide_eq_false c2]
      simp only [br_false]
      congr 2
      refine ba_ext ?_
      rw [lineS_list]
      unfold lineL
      simp only [ba_append, numS_list, if_neg c1, if_neg c2, Int.toNat_natCast, List.append_assoc, List.append_nil]; rfl
theorem ref32_line_is (N : Nat) (hN : Big N) {e : Ev} (h1 : 0 ≤ e.1 ∧ e.1 ≤ 1099511627776) (h2 : 0 ≤ e.2.2.2 ∧ e.2.2.2 ≤ 200) (h3 : smallE e) : G_ref32_line N (e, ()) = some (lineS e, ()) := by
  obtain ⟨now, what, name, n⟩ := e
  obtain ⟨q1, q2⟩ := h3
  have q1 : what.size ≤ 2000 := q1
  have q2 : name.size ≤ 2000 := q2
  have h1 : 0 ≤ now ∧ now ≤ 1099511627776 := h1
  have h2 : 0 ≤ n ∧ n ≤ 200 := h2
  obtain ⟨t, rfl⟩ : ∃ t : Nat, now = (t : Int) := ⟨now.toNat, by omega⟩
  obtain ⟨k, rfl⟩ : ∃ k : Nat, n = (k : Int) := ⟨n.toNat, by omega⟩
  have ht : t < 10 ^ 18 := Nat.lt_of_le_of_lt (show t ≤ 1099511627776 by omega) (by decide)
  have hk : k < 10 ^ 18 := Nat.lt_of_le_of_lt (show k ≤ 200 by omega) (by decide)
  have s1 := numS_le ht
  have s2 := numS_le hk
  have z1 : (ByteArray.mk (List.toArray [58, 32])).size = 2 := rfl
  have z2 : (ByteArray.mk (List.toArray [32])).size = 1 := rfl
  unfold G_ref32_line S_ref32_line
  simp only [ref01_Digits_is N hN ht, ref01_Digits_is N hN hk, Option.bind_some, ByteArray.size_append, z1, z2]
  rw [ble_str (by omega), ble_str (by omega)]
  simp only [br_true]
  by_cases c1 : name = bs []
  · rw [decide_eq_true c1]
    simp only [Bool.not_true, br_false]
    by_cases c2 : 0 < (k : Int)
    · rw [decide_eq_true c2, ble_str (by omega), ble_str (by omega)]
      simp only [br_true]
      congr 2
      refine ba_ext ?_
      rw [lineS_list]
      unfold lineL
      simp only [ba_append, numS_list, if_pos c1, if_pos c2, Int.toNat_natCast, List.append_assoc]; rfl
    · rw [decide_eq_false c2]
      simp only [br_false]
      congr 2
      refine ba_ext ?_
      rw [lineS_list]
      unfold lineL
      simp only [ba_append, numS_list, if_pos c1, if_neg c2, Int.toNat_natCast, List.append_assoc, List.append_nil]
  · rw [decide_eq_false c1]
    simp only [Bool.not_false, br_true]
    rw [ble_str (by omega), ble_str (by omega)]
    simp only [br_true]
    by_cases c2 : 0 < (k : Int)
    · rw [decide_eq_true c2, ble_str (by omega), ble_str (by omega)]
      simp only [br_true]
      congr 2
      refine ba_ext ?_
      rw [lineS_list]
      unfold lineL
      simp only [ba_append, numS_list, if_neg c1, if_pos c2, Int.toNat_natCast, List.append_assoc]; rfl
    · rw [decide_eq_false c2]
      simp only [br_false]
      congr 2
      refine ba_ext ?_
      rw [lineS_list]
      unfold lineL
      simp only [ba_append, numS_list, if_neg c1, if_neg c2, Int.toNat_natCast, List.append_assoc, List.append_nil]; rfl
/-- What is shown. -/
def showL (w : ByteArray → Bool) : List Ev → List UInt8
  | [] => []
  | e :: l => (if rightW w e then lineL e ++ [10] else []) ++ showL w l
theorem showL_snoc (w : ByteArray → Bool) (e : Ev) : ∀ l : List Ev, showL w (l ++ [e]) = showL w l ++ (if rightW w e then lineL e ++ [10] else [])
  | [] => by simp [showL]
  | x :: l => by rw [List.cons_append]; simp only [showL]; rw [showL_snoc w e l, List.append_assoc]
theorem showL_len {w : ByteArray → Bool} : ∀ {l : List Ev}, (∀ e ∈ l, smallE e) → (showL w l).length ≤ l.length * 4101
  | [], _ => by simp [showL]
  | e :: l, h => by
    have := showL_len (w := w) (l := l) fun x hx => h x (List.mem_cons_of_mem _ hx)
    simp only [showL, List.length_append, List.length_cons]
    cases c : rightW w e
    · simp only [Bool.false_eq_true, if_false, List.length_nil]; omega
    · have h0 := right_num c
      have := lineL_len h0.1 h0.2 (h e List.mem_cons_self)
      simp only [if_true, List.length_append, List.length_cons, List.length_nil]; omega
def showS (w : ByteArray → Bool) (l : List Ev) : ByteArray := ⟨(showL w l).toArray⟩
theorem showS_list (w : ByteArray → Bool) (l : List Ev) : (showS w l).data.toList = showL w l := by simp [showS]
theorem showS_size {w : ByteArray → Bool} {l : List Ev} (h : ∀ e ∈ l, smallE e) (hl : l.length ≤ 60) : (showS w l).size ≤ 60 * 4101 := by
  rw [← size_list, showS_list]
  exact Nat.le_trans (showL_len h) (Nat.mul_le_mul_right _ hl)
theorem lineS_size {e : Ev} (h1 : 0 ≤ e.1 ∧ e.1 ≤ 1099511627776) (h2 : 0 ≤ e.2.2.2 ∧ e.2.2.2 ≤ 200) (h3 : smallE e) : (lineS e).size ≤ 4100 := by
  rw [← size_list, lineS_list]; exact lineL_len h1 h2 h3
theorem okEv_small {e : Ev} (h : smallE e) : okEv e := ⟨Nat.le_trans h.1 (by omega), Nat.le_trans h.2 (by omega)⟩
theorem trace_Show_is (N : Nat) (hN : Big N) (w : ByteArray → Bool) (hw : ∀ s, okS s → G_lex_Word N (s, ()) = some (w s, ())) {l : List Ev} (hl : l.length ≤ 60) (he : ∀ e ∈ l, smallE e) : G_trace_Show N (l, ()) = some (showS w l, ()) := by
  have hN' := hN
  unfold Big at hN'
  have loop : ∀ m (i : Nat) x, i ≤ l.length → x = ((showS w (l.take i), l, (l.length : Int), (i : Int), ()), ()) → l.length - i < m → Tot (g_trace_Show_3 N m x) fun o => ∃ y, o = .inl ((showS w l, ()), y) := by
    refine Tot.range l.length fun m i x hx hi rec => ?_
    subst hx
    rw [g_trace_Show_3_succ]
    unfold s_trace_Show_3
    by_cases hlt : i < l.length
    · have d0 : decide ((0 : Int) ≤ (i : Int)) = true := decide_eq_true (by omega)
      have d1 : decide ((i : Int) < ((l.length : Nat) : Int)) = true := decide_eq_true (by omega)
      have hm := he _ (List.getElem_mem hlt)
      have hn := rec (i + 1) _ (by omega) (by omega) rfl
      have hs := showS_size (w := w) (l := l.take i) (fun e h => he e (List.mem_of_mem_take h)) (by rw [List.length_take]; omega)
      simp only [d0, d1, br_true, Int.toNat_natCast, at_lt hlt, Option.bind_some, wi (i := i) (by omega), trace_Right_is N hN w hw (okEv_small hm)]
      rw [List.take_add_one, at_lt hlt] at hn
      simp only [Option.toList_some] at hn
      cases c : rightW w l[i]
      · have e : showS w (l.take i ++ [l[i]]) = showS w (l.take i) := by
          refine ba_ext ?_
          rw [showS_list, showS_list, showL_snoc, c]; simp
        rw [e] at hn
        exact hn
      · have h0 := right_num c
        have e : showS w (l.take i ++ [l[i]]) = showS w (l.take i) ++ (lineS l[i] ++ ByteArray.mk (List.toArray [10])) := by
          refine ba_ext ?_
          rw [showS_list, showL_snoc, c, ba_append, ba_append, showS_list, lineS_list]; rfl
        rw [e] at hn
        have hls := lineS_size h0.1 h0.2 hm
        have z : (ByteArray.mk (List.toArray [10])).size = 1 := rfl
        simp only [br_true, trace_line_is N hN h0.1 h0.2 hm, Option.bind_some, ByteArray.size_append, z]
        rw [ble_str (by omega), ble_str (by omega)]
        exact hn
    · have d1 : decide ((i : Int) < ((l.length : Nat) : Int)) = false := decide_eq_false (by omega)
      simp only [d1, br_false]
      exact Tot.some ⟨_, by rw [List.take_of_length_le (by omega)]⟩
  obtain ⟨o, e, y, rfl⟩ := loop N 0 _ (by omega) rfl (by omega)
  have e : g_trace_Show_3 N N ((ByteArray.mk (List.toArray []), l, (l.length : Int), 0, ()), ()) = _ := e
  unfold G_trace_Show S_trace_Show
  simp only [e, Option.bind_some]; rfl
theorem ref32_Show_is (N : Nat) (hN : Big N) (w : ByteArray → Bool) (hw : ∀ s, okS s → G_ref01_Word N (s, ()) = some (w s, ())) {l : List Ev} (hl : l.length ≤ 60) (he : ∀ e ∈ l, smallE e) : G_ref32_Show N (l, ()) = some (showS w l, ()) := by
  have hN' := hN
  unfold Big at hN'
  have loop : ∀ m (i : Nat) x, i ≤ l.length → x = ((l, showS w (l.take i), (i : Int), ()), ()) → l.length - i < m → Tot (g_ref32_Show_3 N m x) fun o => ∃ y, o = .inl ((showS w l, ()), y) := by
    refine Tot.range l.length fun m i x hx hi rec => ?_
    subst hx
    rw [g_ref32_Show_3_succ]
    unfold s_ref32_Show_3
    by_cases hlt : i < l.length
    · have d0 : decide ((0 : Int) ≤ (i : Int)) = true := decide_eq_true (by omega)
      have d1 : decide ((i : Int) < ((l.length : Nat) : Int)) = true := decide_eq_true (by omega)
      have hm := he _ (List.getElem_mem hlt)
      have hn := rec (i + 1) _ (by omega) (by omega) rfl
      have hs := showS_size (w := w) (l := l.take i) (fun e h => he e (List.mem_of_mem_take h)) (by rw [List.length_take]; omega)
      simp only [d0, d1, br_true, Int.toNat_natCast, at_lt hlt, Option.bind_some, wi (i := i) (by omega), ref32_Right_is N hN w hw (okEv_small hm)]
      rw [List.take_add_one, at_lt hlt] at hn
      simp only [Option.toList_some] at hn
      cases c : rightW w l[i]
      · have e : showS w (l.take i ++ [l[i]]) = showS w (l.take i) := by
          refine ba_ext ?_
          rw [showS_list, showS_list, showL_snoc, c]; simp
        rw [e] at hn
        exact hn
      · have h0 := right_num c
        have e : showS w (l.take i ++ [l[i]]) = showS w (l.take i) ++ lineS l[i] ++ ByteArray.mk (List.toArray [10]) := by
          refine ba_ext ?_
          rw [showS_list, showL_snoc, c, ba_append, ba_append, showS_list, lineS_list, List.append_assoc]; rfl
        rw [e] at hn
        have hls := lineS_size h0.1 h0.2 hm
        have z : (ByteArray.mk (List.toArray [10])).size = 1 := rfl
        simp only [br_true, ref32_line_is N hN h0.1 h0.2 hm, Option.bind_some, ByteArray.size_append, z]
        rw [ble_str (by omega), ble_str (by omega)]
        exact hn
    · have d1 : decide ((i : Int) < ((l.length : Nat) : Int)) = false := decide_eq_false (by omega)
      simp only [d1, br_false]
      exact Tot.some ⟨_, by rw [List.take_of_length_le (by omega)]⟩
  obtain ⟨o, e, y, rfl⟩ := loop N 0 _ (by omega) rfl (by omega)
  have e : g_ref32_Show_3 N N ((l, ByteArray.mk (List.toArray []), 0, ()), ()) = _ := e
  unfold G_ref32_Show S_ref32_Show
  simp only [e, Option.bind_some]; rfl
end Go.Proofs.Ythmajioeldhngaa.Tr
