/- trace.Right, trace.Check; what a law makes of events. -/
import Derived.Test.YthmajioeldhngaaTrcSTr
namespace Go.Proofs.Ythmajioeldhngaa.Tr
open Go Go.VI
set_option linter.unusedVariables false
set_option linter.unusedSimpArgs false
set_option maxRecDepth 100000

theorem trace_among_is (N : Nat) (hN : Big N) {l : List ByteArray} (hl : l.length ≤ 1000) (s : ByteArray) : G_trace_among N (s, l, ()) = some (amB l s, ()) := by
  have hN' := hN
  unfold Big at hN'
  obtain ⟨o, e, ho⟩ := Tot.allL (f := g_trace_among_2 N) (l := l) (q := fun x => !decide (x = s)) (Inv := fun i x => x = ((s, l, (l.length : Int), (i : Int), ()), ())) (Y := fun o => ∃ y, o = .inl y) (No := fun o => ∃ y, o = .inr ((true, ()), y))
    (fun m a ha => by
      subst ha
      rw [g_trace_among_2_succ]
      unfold s_trace_among_2
      exact Tot.brD (fun h => absurd h (by dsimp only; omega)) fun _ => Tot.some ⟨_, rfl⟩)
    (fun m i a Q hi ha rec no => by
      subst ha
      rw [g_trace_among_2_succ]
      unfold s_trace_among_2
      have d0 : decide ((0 : Int) ≤ (i : Int)) = true := decide_eq_true (by omega)
      have d1 : decide ((i : Int) < ((l.length : Nat) : Int)) = true := decide_eq_true (by omega)
      simp only [d0, d1, br_true, Int.toNat_natCast, at_lt hi, Option.bind_some, wi (i := i) (by omega)]
      refine Tot.brD (fun c => Tot.some (no (by rw [decide_eq_true c]; rfl) _ ⟨_, rfl⟩)) fun c => rec (by rw [decide_eq_false c]; rfl) _ rfl)
    N ((s, l, (l.length : Int), 0, ()), ()) (by omega) rfl
  unfold G_trace_among S_trace_among amB
  simp only [e, Option.bind_some]
  rcases ho with ⟨h, y, rfl⟩ | ⟨h, y, rfl⟩ <;> rw [h] <;> rfl
theorem trace_counts_is (N : Nat) (hN : Big N) (e : Ev) : G_trace_Event_counts N (e, ()) = some (amB lCounts e.2.1, ()) := by
  unfold G_trace_Event_counts S_trace_Event_counts
  have := trace_among_is N hN (l := lCounts) (by decide) e.2.1
  unfold lCounts at this
  simp only [this, Option.bind_some]; rfl
theorem trace_names_is (N : Nat) (hN : Big N) (e : Ev) : G_trace_Event_names N (e, ()) = some (amB lNames e.2.1, ()) := by
  unfold G_trace_Event_names S_trace_Event_names
  have := trace_among_is N hN (l := lNames) (by decide) e.2.1
  unfold lNames at this
  simp only [this, Option.bind_some]; rfl
theorem trace_alone_is (N : Nat) (hN : Big N) (e : Ev) : G_trace_Event_alone N (e, ()) = some (amB lAlone e.2.1, ()) := by
  unfold G_trace_Event_alone S_trace_Event_alone
  have := trace_among_is N hN (l := lAlone) (by decide) e.2.1
  unfold lAlone at this
  simp only [this, Option.bind_some]; rfl
def okEv (e : Ev) : Prop := okS e.2.1 ∧ okS e.2.2.1
theorem trace_Right_is (N : Nat) (hN : Big N) (w : ByteArray → Bool) (hw : ∀ s, okS s → G_lex_Word N (s, ()) = some (w s, ())) {e : Ev} (he : okEv e) : G_trace_Right N (e, ()) = some (rightW w e, ()) := by
  obtain ⟨now, what, name, n⟩ := e
  obtain ⟨h1, h2⟩ := he
  have h2 : okS name := h2
  unfold G_trace_Right S_trace_Right rightW
  simp only [trace_counts_is N hN, trace_names_is N hN, trace_alone_is N hN, hw _ h2, Option.bind_some]
  by_cases a1 : now < 0
  · rw [decide_eq_true a1, decide_eq_false (show ¬ (0 ≤ now ∧ now ≤ 1099511627776) by omega)]; rfl
  by_cases a2 : 1099511627776 < now
  · rw [decide_eq_false a1, decide_eq_true a2, decide_eq_false (show ¬ (0 ≤ now ∧ now ≤ 1099511627776) by omega)]; rfl
  rw [decide_eq_false a1, decide_eq_false a2, decide_eq_true (show 0 ≤ now ∧ now ≤ 1099511627776 by omega)]
  simp only [br_false, Bool.true_and]
  cases amB lCounts what
  · cases amB lNames what
    · cases amB lAlone what
      · rfl
      · by_cases e : name = bs []
        · rw [decide_eq_true e]; rfl
        · rw [decide_eq_false e]; rfl
    · cases w name <;> rfl
  · cases w name
    · rfl
    · by_cases c : 1 ≤ n
      · rw [decide_eq_true c]
        simp only [br_true, if_true, Bool.true_and]
        congr 2
        rw [decide_eq_decide]; omega
      · rw [decide_eq_false c]
        simp only [br_true, br_false, if_true, Bool.true_and]
        congr 2
        rw [decide_eq_false (show ¬ (1 ≤ n ∧ n ≤ 200) by omega)]
theorem trace_Check_is (N : Nat) (hN : Big N) (w : ByteArray → Bool) (hw : ∀ s, okS s → G_lex_Word N (s, ()) = some (w s, ())) {l : List Ev} (hl : l.length ≤ 1000) (he : ∀ e ∈ l, okEv e) : G_trace_Check N (l, ()) = some (chk w (0, []) l 0, ()) := by
  have hN' := hN
  unfold Big at hN'
  have loop : ∀ m (i : Nat) x, i ≤ l.length → (∃ s : Int × Mp, x = ((s.1, l, (l.length : Int), (i : Int), ()), s.2, ()) ∧ chk w s (l.drop i) i = chk w (0, []) l 0) → l.length - i < m →
      Tot (g_trace_Check_4 N m x) fun o => (chk w (0, []) l 0 = -1 ∧ ∃ y, o = .inl y) ∨ ∃ y, o = .inr ((chk w (0, []) l 0, ()), y) := by
    refine Tot.range l.length fun m i x hx hi rec => ?_
    obtain ⟨⟨now, es⟩, rfl, hc⟩ := hx
    rw [g_trace_Check_4_succ]
    unfold s_trace_Check_4
    by_cases hlt : i < l.length
    · have d0 : decide ((0 : Int) ≤ (i : Int)) = true := decide_eq_true (by omega)
      have d1 : decide ((i : Int) < ((l.length : Nat) : Int)) = true := decide_eq_true (by omega)
      simp only [d0, d1, br_true, Int.toNat_natCast, at_lt hlt, Option.bind_some, wi (i := i) (by omega), trace_Right_is N hN w hw (he _ (List.getElem_mem hlt))]
      rw [List.drop_eq_getElem_cons hlt] at hc
      generalize hE : l[i] = e at *
      obtain ⟨t, what, name, n⟩ := e
      have stop : stpE w (now, es) (t, what, name, n) = none → ∀ y, Tot (some (Sum.inr (((i : Int), ()), y)) : Option ((Unit × Mp × Unit) ⊕ ((Int × Unit) × Mp × Unit))) fun o => (chk w (0, []) l 0 = -1 ∧ ∃ y, o = .inl y) ∨ ∃ y, o = .inr ((chk w (0, []) l 0, ()), y) := fun h y => by
        rw [chk_none h] at hc
        exact Tot.some (.inr ⟨y, by rw [← hc]⟩)
      have go : ∀ es', stpE w (now, es) (t, what, name, n) = some (t, es') → Tot (g_trace_Check_4 N m ((t, l, (l.length : Int), ((i + 1 : Nat) : Int), ()), es', ())) fun o => (chk w (0, []) l 0 = -1 ∧ ∃ y, o = .inl y) ∨ ∃ y, o = .inr ((chk w (0, []) l 0, ()), y) := fun es' h => by
        rw [chk_some h] at hc
        exact rec (i + 1) _ (by omega) (by omega) ⟨(t, es'), rfl, hc⟩
      have st : rightW w (t, what, name, n) = true → ¬ t < now → stpE w (now, es) (t, what, name, n) = (canE es (t, what, name, n)).map fun es => (t, es) := fun h1 h2 => by
        unfold stpE; rw [if_pos h1, if_neg h2]
      cases hr : rightW w (t, what, name, n)
      · exact stop (by unfold stpE; rw [hr]; rfl) _
      simp only [Bool.not_true, br_false]
      by_cases hn : t < now
      · rw [decide_eq_true hn]
        exact stop (by unfold stpE; rw [if_pos hr, if_pos hn]) _
      have st := st hr hn
      rw [decide_eq_false hn]
      simp only [br_false]
      by_cases w1 : what = wDown
      · rw [decide_eq_true w1]
        by_cases c : (mget Ty.str es name).getD 0 = 0
        · rw [decide_eq_true c]
          exact go _ (by rw [st]; unfold canE gt0; rw [if_pos w1, if_pos c]; rfl)
        · rw [decide_eq_false c]
          exact stop (by rw [st]; unfold canE gt0; rw [if_pos w1, if_neg c]; rfl) _
      rw [decide_eq_false w1, br_false]
      by_cases w2 : what = wDelete
      · rw [decide_eq_true w2]
        by_cases c : (mget Ty.str es name).getD 0 = 1
        · rw [decide_eq_true c]
          exact go _ (by rw [st]; unfold canE gt0; rw [if_neg w1, if_pos w2, if_pos c]; rfl)
        · rw [decide_eq_false c]
          exact stop (by rw [st]; unfold canE gt0; rw [if_neg w1, if_pos w2, if_neg c]; rfl) _
      rw [decide_eq_false w2, br_false]
      have del : what = wKeep ∨ what = wStop ∨ what = wGone → Tot (VI.br (Bool.not (decide (0 < (mget Ty.str es name).getD 0))) (some (Sum.inr (((i : Int), ()), (mdel Ty.str es name), ()))) (g_trace_Check_4 N m ((t, l, (l.length : Int), ((i + 1 : Nat) : Int), ()), (mdel Ty.str es name), ()))) fun o => (chk w (0, []) l 0 = -1 ∧ ∃ y, o = .inl y) ∨ ∃ y, o = .inr ((chk w (0, []) l 0, ()), y) := fun h => by
        by_cases c : 0 < (mget Ty.str es name).getD 0
        · rw [decide_eq_true c]
          exact go _ (by rw [st]; unfold canE gt0; rw [if_neg w1, if_neg w2, if_pos h, if_pos c]; rfl)
        · rw [decide_eq_false c]
          exact stop (by rw [st]; unfold canE gt0; rw [if_neg w1, if_neg w2, if_pos h, if_neg c]; rfl) _
      by_cases w3 : what = wKeep
      · rw [decide_eq_true w3]; exact del (.inl w3)
      rw [decide_eq_false w3, br_false]
      by_cases w4 : what = wStop
      · rw [decide_eq_true w4]; exact del (.inr (.inl w4))
      rw [decide_eq_false w4, br_false]
      by_cases w5 : what = wGone
      · rw [decide_eq_true w5]; exact del (.inr (.inr w5))
      rw [decide_eq_false w5, br_false]
      have hno : ¬ (what = wKeep ∨ what = wStop ∨ what = wGone) := by
        rintro (h | h | h)
        · exact w3 h
        · exact w4 h
        · exact w5 h
      exact go _ (by rw [st]; unfold canE gt0; rw [if_neg w1, if_neg w2, if_neg hno]; rfl)
    · have d1 : decide ((i : Int) < ((l.length : Nat) : Int)) = false := decide_eq_false (by omega)
      simp only [d1, br_false]
      rw [List.drop_eq_nil_of_le (by omega)] at hc
      exact Tot.some (.inl ⟨hc.symm, _, rfl⟩)
  obtain ⟨o, e, ho⟩ := loop N 0 _ (by omega) ⟨(0, []), rfl, rfl⟩ (by omega)
  have e : g_trace_Check_4 N N ((0, l, (l.length : Int), 0, ()), [], ()) = _ := e
  unfold G_trace_Check S_trace_Check
  simp only [e, Option.bind_some]
  rcases ho with ⟨h, y, rfl⟩ | ⟨y, rfl⟩
  · rw [h]; rfl
  · rfl
theorem law32_given_is (N : Nat) (hN : Big N) {l : List Ev} (hl : l.length ≤ 1000) : G_law32_given N (l, ()) = some (l, ()) := by
  have hN' := hN
  unfold Big at hN'
  have loop : ∀ m (i : Nat) x, i ≤ l.length → x = ((l, (i : Int), ()), l.take i, ()) → l.length - i < m → Tot (g_law32_given_3 N m x) fun o => ∃ y, o = .inl (y, l, ()) := by
    refine Tot.range l.length fun m i x hx hi rec => ?_
    subst hx
    rw [g_law32_given_3_succ]
    unfold s_law32_given_3
    by_cases hlt : i < l.length
    · have d0 : decide ((0 : Int) ≤ (i : Int)) = true := decide_eq_true (by omega)
      have d1 : decide ((i : Int) < ((l.length : Nat) : Int)) = true := decide_eq_true (by omega)
      have hb : Nat.ble ((l.take i).length + 1) maxElems = true := Nat.ble_eq_true_of_le (by unfold maxElems; rw [List.length_take]; omega)
      simp only [d0, d1, br_true, Int.toNat_natCast, at_lt hlt, Option.bind_some, wi (i := i) (by omega), hb]
      refine rec (i + 1) _ (by omega) (by omega) ?_
      rw [List.take_add_one, at_lt hlt]; rfl
    · have d1 : decide ((i : Int) < ((l.length : Nat) : Int)) = false := decide_eq_false (by omega)
      simp only [d1, br_false]
      exact Tot.some ⟨_, by rw [List.take_of_length_le (by omega)]⟩
  obtain ⟨o, e, y, rfl⟩ := loop N 0 _ (by omega) rfl (by omega)
  have e : g_law32_given_3 N N ((l, 0, ()), [], ()) = _ := e
  unfold G_law32_given S_law32_given
  simp only [e, Option.bind_some]; rfl
theorem law32_light_tot (N : Nat) (hN : Big N) {l : List Ev} (hl : l.length ≤ 140737488355328) : Tot (G_law32_light N (l, ())) fun v => v.1 = true → l.length ≤ 60 ∧ ∀ e ∈ l, e.2.1.size ≤ 100 ∧ e.2.2.1.size ≤ 300 := by
  have hN' := hN
  unfold Big at hN'
  obtain ⟨o, e, ho⟩ := Tot.allL (f := g_law32_light_4 N) (l := l) (q := fun e => decide (e.2.1.size ≤ 100) && decide (e.2.2.1.size ≤ 300)) (Inv := fun i x => x = ((l, (i : Int), ()), ())) (Y := fun o => ∃ y, o = .inl y) (No := fun o => ∃ y, o = .inr ((false, ()), y))
    (fun m a ha => by
      subst ha
      rw [g_law32_light_4_succ]
      unfold s_law32_light_4
      exact Tot.brD (fun h => absurd h (by dsimp only; omega)) fun _ => Tot.some ⟨_, rfl⟩)
    (fun m i a Q hi ha rec no => by
      subst ha
      rw [g_law32_light_4_succ]
      unfold s_law32_light_4
      have d0 : decide ((0 : Int) ≤ (i : Int)) = true := decide_eq_true (by omega)
      have d1 : decide ((i : Int) < ((l.length : Nat) : Int)) = true := decide_eq_true (by omega)
      simp only [d0, d1, br_true, Int.toNat_natCast, at_lt hi, Option.bind_some, wi (i := i) (by omega)]
      refine Tot.brD (fun c => Tot.some (no (by rw [decide_eq_false (show ¬ l[i].2.1.size ≤ 100 by omega)]; rfl) _ ⟨_, rfl⟩)) fun c => ?_
      refine Tot.brD (fun c => Tot.some (no (by rw [decide_eq_false (show ¬ l[i].2.2.1.size ≤ 300 by omega), Bool.and_false]) _ ⟨_, rfl⟩)) fun c' => ?_
      exact rec (by rw [decide_eq_true (show l[i].2.1.size ≤ 100 by omega), decide_eq_true (show l[i].2.2.1.size ≤ 300 by omega)]; rfl) _ rfl)
    N ((l, 0, ()), ()) (by omega) rfl
  unfold G_law32_light S_law32_light
  simp only [e, Option.bind_some]
  refine Tot.brD (fun _ => Tot.some fun h => by cases h) fun h => ?_
  rcases ho with ⟨ha, y, rfl⟩ | ⟨_, y, rfl⟩
  · refine Tot.some fun _ => ⟨by omega, fun x hx => ?_⟩
    have := List.all_eq_true.1 ha x hx
    simpa using this
  · exact Tot.some fun h => by cases h
end Go.Proofs.Ythmajioeldhngaa.Tr
