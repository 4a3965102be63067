/- Events: calls, what is added, what can be: the document. -/
import Derived.Test.YthmajioeldhngaaTrcTTr
namespace Go.Proofs.Ythmajioeldhngaa.Tr
open Go Go.VI
set_option linter.unusedVariables false
set_option linter.unusedSimpArgs false
set_option maxRecDepth 100000

def callB (e : Ev) : Bool := amB lCounts e.2.1 || amB [bs [99, 108, 101, 97, 110], wDelete] e.2.1
def callsF (l : List Ev) : Nat := (l.filter callB).length
theorem callsF_snoc {l : List Ev} {i : Nat} (h : i < l.length) : callsF (l.take (i + 1)) = callsF (l.take i) + (if callB l[i] then 1 else 0) := by
  unfold callsF
  rw [List.take_add_one, at_lt h, List.filter_append, List.length_append]
  simp only [Option.toList_some, List.filter_cons, List.filter_nil]
  split <;> rfl
theorem callsF_le (l : List Ev) (i : Nat) : callsF (l.take i) ≤ l.length := by
  unfold callsF
  have := List.length_filter_le callB (l.take i)
  rw [List.length_take] at this
  omega
theorem trace_Calls_is (N : Nat) (hN : Big N) {l : List Ev} (hl : l.length ≤ 1000) : G_trace_Calls N (l, ()) = some ((callsF l : Int), ()) := by
  have hN' := hN
  unfold Big at hN'
  have loop : ∀ m (i : Nat) x, i ≤ l.length → x = (((callsF (l.take i) : Int), l, (l.length : Int), (i : Int), ()), ()) → l.length - i < m → Tot (g_trace_Calls_3 N m x) fun o => ∃ y, o = .inl (((callsF l : Int), ()), y) := by
    refine Tot.range l.length fun m i x hx hi rec => ?_
    subst hx
    rw [g_trace_Calls_3_succ]
    unfold s_trace_Calls_3
    by_cases hlt : i < l.length
    · have d0 : decide ((0 : Int) ≤ (i : Int)) = true := decide_eq_true (by omega)
      have d1 : decide ((i : Int) < ((l.length : Nat) : Int)) = true := decide_eq_true (by omega)
      have hn := rec (i + 1) _ (by omega) (by omega) rfl
      have hc := callsF_le l i
      rw [callsF_snoc hlt] at hn
      have ham := trace_among_is N hN (l := [bs [99, 108, 101, 97, 110], wDelete]) (by decide) l[i].2.1
      simp only [d0, d1, br_true, Int.toNat_natCast, at_lt hlt, Option.bind_some, wi (i := i) (by omega), wi (i := callsF (l.take i)) (by omega), trace_counts_is N hN, ham]
      unfold callB at hn
      cases c1 : amB lCounts l[i].2.1
      · rw [c1] at hn
        cases c2 : amB [bs [99, 108, 101, 97, 110], wDelete] l[i].2.1
        · rw [c2] at hn; exact hn
        · rw [c2] at hn; exact hn
      · rw [c1] at hn; exact hn
    · have d1 : decide ((i : Int) < ((l.length : Nat) : Int)) = false := decide_eq_false (by omega)
      simp only [d1, br_false]
      exact Tot.some ⟨_, by rw [List.take_of_length_le (by omega)]⟩
  obtain ⟨o, e, y, rfl⟩ := loop N 0 _ (by omega) rfl (by omega)
  have e : g_trace_Calls_3 N N ((0, l, (l.length : Int), 0, ()), ()) = _ := e
  unfold G_trace_Calls S_trace_Calls
  simp only [e, Option.bind_some]; rfl
theorem ref32_Calls_is (N : Nat) (hN : Big N) {l : List Ev} (hl : l.length ≤ 1000) : G_ref32_Calls N (l, ()) = some ((callsF l : Int), ()) := by
  have hN' := hN
  unfold Big at hN'
  have loop : ∀ m (i : Nat) x, i ≤ l.length → x = ((l, (callsF (l.take i) : Int), (i : Int), ()), ()) → l.length - i < m → Tot (g_ref32_Calls_3 N m x) fun o => ∃ y, o = .inl (((callsF l : Int), ()), y) := by
    refine Tot.range l.length fun m i x hx hi rec => ?_
    subst hx
    rw [g_ref32_Calls_3_succ]
    unfold s_ref32_Calls_3
    by_cases hlt : i < l.length
    · have d0 : decide ((0 : Int) ≤ (i : Int)) = true := decide_eq_true (by omega)
      have d1 : decide ((i : Int) < ((l.length : Nat) : Int)) = true := decide_eq_true (by omega)
      have hn := rec (i + 1) _ (by omega) (by omega) rfl
      have hc := callsF_le l i
      rw [callsF_snoc hlt] at hn
      simp only [d0, d1, br_true, Int.toNat_natCast, at_lt hlt, Option.bind_some, wi (i := i) (by omega), wi (i := callsF (l.take i)) (by omega), ref32_kind_is]
      have hk : kindB l[i].2.1 = 1 ↔ amB lCounts l[i].2.1 = true := by
        unfold kindB
        cases amB lCounts l[i].2.1
        · simp only [Bool.false_eq_true, if_false, iff_false]
          split
          · decide
          · split <;> decide
        · simp
      unfold callB at hn
      cases c1 : amB lCounts l[i].2.1
      · rw [decide_eq_false (show ¬ kindB l[i].2.1 = 1 by rw [hk, c1]; decide)]
        rw [c1] at hn
        simp only [br_false]
        by_cases e1 : l[i].2.1 = bs [99, 108, 101, 97, 110]
        · rw [decide_eq_true e1]
          have : amB [bs [99, 108, 101, 97, 110], wDelete] l[i].2.1 = true := amB_iff.2 (by rw [e1]; simp)
          rw [this] at hn; exact hn
        · rw [decide_eq_false e1]
          simp only [br_false]
          by_cases e2 : l[i].2.1 = wDelete
          · rw [decide_eq_true e2]
            have : amB [bs [99, 108, 101, 97, 110], wDelete] l[i].2.1 = true := amB_iff.2 (by rw [e2]; simp)
            rw [this] at hn; exact hn
          · rw [decide_eq_false e2]
            have : amB [bs [99, 108, 101, 97, 110], wDelete] l[i].2.1 = false := by
              rw [← Bool.not_eq_true, amB_iff]; simp only [List.mem_cons, List.not_mem_nil, or_false]; rintro (h | h)
              · exact e1 h
              · exact e2 h
            rw [this] at hn; exact hn
      · rw [decide_eq_true (hk.2 c1)]
        rw [c1] at hn; exact hn
    · have d1 : decide ((i : Int) < ((l.length : Nat) : Int)) = false := decide_eq_false (by omega)
      simp only [d1, br_false]
      exact Tot.some ⟨_, by rw [List.take_of_length_le (by omega)]⟩
  obtain ⟨o, e, y, rfl⟩ := loop N 0 _ (by omega) rfl (by omega)
  have e : g_ref32_Calls_3 N N ((l, 0, 0, ()), ()) = _ := e
  unfold G_ref32_Calls S_ref32_Calls
  simp only [e, Option.bind_some]; rfl
/-- What was asked for. -/
def addB (g : ByteArray) (e : Ev) : Bool := (decide (e.2.1 = wUp) || decide (e.2.1 = wRaise)) && decide (e.2.2.1 = g)
def addF (g : ByteArray) (l : List Ev) : Int := l.foldl (fun a e => if addB g e then IntKind.i64.wrap (a + e.2.2.2) else a) 0
theorem addF_snoc {g : ByteArray} {l : List Ev} {i : Nat} (h : i < l.length) : addF g (l.take (i + 1)) = if addB g l[i] then IntKind.i64.wrap (addF g (l.take i) + l[i].2.2.2) else addF g (l.take i) := by
  unfold addF
  rw [List.take_add_one, at_lt h, List.foldl_append]
  rfl
theorem trace_Added_is (N : Nat) (hN : Big N) {l : List Ev} (hl : l.length ≤ 1000) (g : ByteArray) : G_trace_Added N (l, g, ()) = some (addF g l, ()) := by
  have hN' := hN
  unfold Big at hN'
  have loop : ∀ m (i : Nat) x, i ≤ l.length → x = ((g, addF g (l.take i), l, (l.length : Int), (i : Int), ()), ()) → l.length - i < m → Tot (g_trace_Added_3 N m x) fun o => ∃ y, o = .inl ((addF g l, ()), y) := by
    refine Tot.range l.length fun m i x hx hi rec => ?_
    subst hx
    rw [g_trace_Added_3_succ]
    unfold s_trace_Added_3
    by_cases hlt : i < l.length
    · have d0 : decide ((0 : Int) ≤ (i : Int)) = true := decide_eq_true (by omega)
      have d1 : decide ((i : Int) < ((l.length : Nat) : Int)) = true := decide_eq_true (by omega)
      have hn := rec (i + 1) _ (by omega) (by omega) rfl
      rw [addF_snoc hlt] at hn
      have ham := trace_among_is N hN (l := [wUp, wRaise]) (by decide) l[i].2.1
      simp only [d0, d1, br_true, Int.toNat_natCast, at_lt hlt, Option.bind_some, wi (i := i) (by omega), ham]
      have hor : (decide (l[i].2.1 = wUp) || decide (l[i].2.1 = wRaise)) = amB [wUp, wRaise] l[i].2.1 := by
        rw [Bool.eq_iff_iff, Bool.or_eq_true, decide_eq_true_eq, decide_eq_true_eq, amB_iff]; simp
      unfold addB at hn
      rw [hor] at hn
      by_cases e1 : l[i].2.2.1 = g
      · rw [decide_eq_true e1] at hn ⊢
        simp only [br_true]
        cases c : amB [wUp, wRaise] l[i].2.1
        · rw [c] at hn; exact hn
        · rw [c] at hn; exact hn
      · rw [decide_eq_false e1, Bool.and_false] at hn
        rw [decide_eq_false e1]
        exact hn
    · have d1 : decide ((i : Int) < ((l.length : Nat) : Int)) = false := decide_eq_false (by omega)
      simp only [d1, br_false]
      exact Tot.some ⟨_, by rw [List.take_of_length_le (by omega)]⟩
  obtain ⟨o, e, y, rfl⟩ := loop N 0 _ (by omega) rfl (by omega)
  have e : g_trace_Added_3 N N ((g, 0, l, (l.length : Int), 0, ()), ()) = _ := e
  unfold G_trace_Added S_trace_Added
  simp only [e, Option.bind_some]; rfl
theorem ref32_Added_is (N : Nat) (hN : Big N) {l : List Ev} (hl : l.length ≤ 1000) (g : ByteArray) : G_ref32_Added N (l, g, ()) = some (addF g l, ()) := by
  have hN' := hN
  unfold Big at hN'
  have loop : ∀ m (i : Nat) x, i ≤ l.length → x = ((l, g, addF g (l.take i), (i : Int), ()), ()) → l.length - i < m → Tot (g_ref32_Added_3 N m x) fun o => ∃ y, o = .inl ((addF g l, ()), y) := by
    refine Tot.range l.length fun m i x hx hi rec => ?_
    subst hx
    rw [g_ref32_Added_3_succ]
    unfold s_ref32_Added_3
    by_cases hlt : i < l.length
    · have d0 : decide ((0 : Int) ≤ (i : Int)) = true := decide_eq_true (by omega)
      have d1 : decide ((i : Int) < ((l.length : Nat) : Int)) = true := decide_eq_true (by omega)
      have hn := rec (i + 1) _ (by omega) (by omega) rfl
      rw [addF_snoc hlt] at hn
      simp only [d0, d1, br_true, Int.toNat_natCast, at_lt hlt, Option.bind_some, wi (i := i) (by omega)]
      unfold addB at hn
      by_cases e1 : l[i].2.1 = wUp
      · rw [decide_eq_true e1] at hn ⊢
        simp only [br_true]
        by_cases e2 : l[i].2.2.1 = g
        · rw [decide_eq_true e2] at hn ⊢; exact hn
        · rw [decide_eq_false e2] at hn ⊢; exact hn
      · rw [decide_eq_false e1] at hn ⊢
        simp only [br_false]
        by_cases e3 : l[i].2.1 = wRaise
        · rw [decide_eq_true e3] at hn ⊢
          simp only [br_true]
          by_cases e2 : l[i].2.2.1 = g
          · rw [decide_eq_true e2] at hn ⊢; exact hn
          · rw [decide_eq_false e2] at hn ⊢; exact hn
        · rw [decide_eq_false e3] at hn ⊢; exact hn
    · have d1 : decide ((i : Int) < ((l.length : Nat) : Int)) = false := decide_eq_false (by omega)
      simp only [d1, br_false]
      exact Tot.some ⟨_, by rw [List.take_of_length_le (by omega)]⟩
  obtain ⟨o, e, y, rfl⟩ := loop N 0 _ (by omega) rfl (by omega)
  have e : g_ref32_Added_3 N N ((l, g, 0, 0, ()), ()) = _ := e
  unfold G_ref32_Added S_ref32_Added
  simp only [e, Option.bind_some]; rfl
/-- What became of a name. -/
def turnE (k : ByteArray) (s : Int) (e : Ev) : Int := if e.2.2.1 = k then (if e.2.1 = wDown then 1 else if e.2.1 = wDelete then 2 else if e.2.1 = wKeep ∨ e.2.1 = wStop ∨ e.2.1 = wGone then 0 else s) else s
def stateF (k : ByteArray) (l : List Ev) : Int := l.foldl (turnE k) 0
theorem stateF_snoc {k : ByteArray} {l : List Ev} {i : Nat} (h : i < l.length) : stateF k (l.take (i + 1)) = turnE k (stateF k (l.take i)) l[i] := by
  unfold stateF
  rw [List.take_add_one, at_lt h, List.foldl_append]
  rfl
theorem stateF_bnd (k : ByteArray) (l : List Ev) : 0 ≤ stateF k l ∧ stateF k l ≤ 2 := by
  have : ∀ (l : List Ev) (s : Int), 0 ≤ s ∧ s ≤ 2 → 0 ≤ l.foldl (turnE k) s ∧ l.foldl (turnE k) s ≤ 2 := by
    intro l
    induction l with
    | nil => intro s h; exact h
    | cons e l ih =>
      intro s h
      refine ih _ ?_
      unfold turnE
      repeat' split
      all_goals omega
  exact this l 0 (by omega)
theorem ref32_state_is (N : Nat) (hN : Big N) {l : List Ev} (hl : l.length ≤ 1000) (at_ : Nat) (ha : at_ ≤ l.length) (k : ByteArray) : G_ref32_state N (l, (at_ : Int), k, ()) = some (stateF k (l.take at_), ()) := by
  have hN' := hN
  unfold Big at hN'
  have loop : ∀ m (i : Nat) x, i ≤ at_ → x = ((l, (at_ : Int), k, stateF k (l.take i), (i : Int), ()), ()) → at_ - i < m → Tot (g_ref32_state_3 N m x) fun o => ∃ y, o = .inl ((stateF k (l.take at_), ()), y) := by
    refine Tot.range at_ fun m i x hx hi rec => ?_
    subst hx
    rw [g_ref32_state_3_succ]
    unfold s_ref32_state_3
    by_cases hlt : i < at_
    · have hli : i < l.length := by omega
      have d0 : decide ((0 : Int) ≤ (i : Int)) = true := decide_eq_true (by omega)
      have d1 : decide ((i : Int) < ((at_ : Nat) : Int)) = true := decide_eq_true (by omega)
      have hn := rec (i + 1) _ (by omega) (by omega) rfl
      rw [stateF_snoc hli] at hn
      simp only [d0, d1, br_true, Int.toNat_natCast, at_lt hli, Option.bind_some, wi (i := i) (by omega)]
      unfold turnE at hn
      by_cases e0 : l[i].2.2.1 = k
      · rw [if_pos e0] at hn
        rw [decide_eq_true e0]
        simp only [Bool.not_true, br_false]
        by_cases e1 : l[i].2.1 = wDown
        · rw [if_pos e1] at hn; rw [decide_eq_true e1]; exact hn
        rw [if_neg e1] at hn; rw [decide_eq_false e1, br_false]
        by_cases e2 : l[i].2.1 = wDelete
        · rw [if_pos e2] at hn; rw [decide_eq_true e2]; exact hn
        rw [if_neg e2] at hn; rw [decide_eq_false e2, br_false]
        by_cases e3 : l[i].2.1 = wKeep
        · rw [if_pos (.inl e3)] at hn; rw [decide_eq_true e3]; exact hn
        rw [decide_eq_false e3, br_false]
        by_cases e4 : l[i].2.1 = wStop
        · rw [if_pos (.inr (.inl e4))] at hn; rw [decide_eq_true e4]; exact hn
        rw [decide_eq_false e4, br_false]
        by_cases e5 : l[i].2.1 = wGone
        · rw [if_pos (.inr (.inr e5))] at hn; rw [decide_eq_true e5]; exact hn
        rw [decide_eq_false e5, br_false]
        rw [if_neg (show ¬ (l[i].2.1 = wKeep ∨ l[i].2.1 = wStop ∨ l[i].2.1 = wGone) by
          rintro (h | h | h)
          · exact e3 h
          · exact e4 h
          · exact e5 h)] at hn
        exact hn
      · rw [if_neg e0] at hn
        rw [decide_eq_false e0]
        exact hn
    · have d1 : decide ((i : Int) < ((at_ : Nat) : Int)) = false := decide_eq_false (by omega)
      simp only [d1, br_false]
      have : i = at_ := by omega
      subst this
      exact Tot.some ⟨_, rfl⟩
  obtain ⟨o, e, y, rfl⟩ := loop N 0 _ (by omega) rfl (by omega)
  have e : g_ref32_state_3 N N ((l, (at_ : Int), k, 0, 0, ()), ()) = _ := e
  unfold G_ref32_state S_ref32_state
  simp only [e, Option.bind_some]; rfl
end Go.Proofs.Ythmajioeldhngaa.Tr
