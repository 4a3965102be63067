/- What labels say, and which terms they meet: the functions and the document. -/
import Derived.Test.YthmajioeldhngaaLtmPLaS
namespace Go.Proofs.Ythmajioeldhngaa.LaS
open Go Go.VI
set_option linter.unusedVariables false
set_option linter.unusedSimpArgs false
set_option maxRecDepth 100000

def getL (l : Labels) (k : ByteArray) : Option ByteArray := (l.find? fun x => decide (x.1 = k)).map (·.2)
def getR (l : Labels) (k : ByteArray) : ByteArray × Bool × Unit := ((getL l k).getD nameless, (getL l k).isSome, ())
theorem ref05_Get_is (N : Nat) (hN : Big N) {l : Labels} (hl : l.length ≤ 140737488355328) (k : ByteArray) : G_ref05_Get N (l, k, ()) = some (getR l k) := by
  have hN' := hN
  unfold Big at hN'
  obtain ⟨o, e, ho⟩ := Tot.find (f := g_ref05_Get_2 N) (l := l) (q := fun x => decide (x.1 = k)) (Inv := fun i x => x = ((l, k, (i : Int), ()), ())) (Y := fun o => ∃ y, o = .inl y) (No := fun x o => ∃ y, o = .inr ((x.2, true, ()), y))
    (fun m a ha => by
      subst ha
      rw [g_ref05_Get_2_succ]
      unfold s_ref05_Get_2
      exact Tot.brD (fun h => absurd h (by dsimp only; omega)) fun _ => Tot.some ⟨_, rfl⟩)
    (fun m i a Q hi ha rec no => by
      subst ha
      rw [g_ref05_Get_2_succ]
      unfold s_ref05_Get_2
      have d0 : decide ((0 : Int) ≤ (i : Int)) = true := decide_eq_true (by omega)
      have d1 : decide ((i : Int) < ((l.length : Nat) : Int)) = true := decide_eq_true (by omega)
      simp only [d0, d1, br_true, Int.toNat_natCast, at_lt hi, Option.bind_some, wi (i := i) (by omega)]
      refine Tot.brD (fun c => Tot.some (no (decide_eq_true c) _ ⟨_, rfl⟩)) fun c => rec (decide_eq_false c) _ rfl)
    N ((l, k, 0, ()), ()) (by omega) rfl
  unfold G_ref05_Get S_ref05_Get getR getL
  simp only [e, Option.bind_some]
  rcases ho with ⟨h, y, rfl⟩ | ⟨x, _, h, _, y, rfl⟩ <;> rw [h] <;> rfl
theorem labels_at_is (N : Nat) (hN : Big N) {l : Labels} (hl : l.length ≤ 140737488355328) (k : ByteArray) : Tot (G_labels_at N (l, k, ())) fun o => ∃ i : Nat, i ≤ l.length ∧ (l.take i).all (fun x => bl x.1 k) = true ∧
    ((i = l.length ∧ o = ((i : Int), false, ())) ∨ ∃ hi : i < l.length, bl l[i].1 k = false ∧ o = ((i : Int), decide (l[i].1 = k), ())) := by
  have hN' := hN
  unfold Big at hN'
  obtain ⟨o, e, ho⟩ := Tot.findI (f := g_labels_at_2 N) (l := l) (q := fun x => !bl x.1 k) (Inv := fun i x => x = ((l, k, l, (l.length : Int), (i : Int), ()), ())) (Y := fun o => ∃ y, o = .inl ((l, ()), y)) (No := fun i x o => ∃ y, o = .inr (((i : Int), decide (x.1 = k), ()), y))
    (fun m a ha => by
      subst ha
      rw [g_labels_at_2_succ]
      unfold s_labels_at_2
      exact Tot.brD (fun h => absurd h (by dsimp only; omega)) fun _ => Tot.some ⟨_, rfl⟩)
    (fun m i a Q hi ha rec no => by
      subst ha
      rw [g_labels_at_2_succ]
      unfold s_labels_at_2
      have d0 : decide ((0 : Int) ≤ (i : Int)) = true := decide_eq_true (by omega)
      have d1 : decide ((i : Int) < ((l.length : Nat) : Int)) = true := decide_eq_true (by omega)
      simp only [d0, d1, br_true, Int.toNat_natCast, at_lt hi, Option.bind_some, wi (i := i) (by omega)]
      exact Tot.br (fun c => Tot.some (no c _ ⟨_, rfl⟩)) fun c => rec c _ rfl)
    N ((l, k, l, (l.length : Int), 0, ()), ()) (by omega) rfl
  unfold G_labels_at S_labels_at
  simp only [e, Option.bind_some]
  simp only [Bool.not_not] at ho
  rcases ho with ⟨h, y, rfl⟩ | ⟨i, hi, h1, h2, y, rfl⟩
  · exact Tot.some ⟨l.length, Nat.le_refl _, by rw [List.take_length]; exact h, .inl ⟨rfl, rfl⟩⟩
  · exact Tot.some ⟨i, by omega, h2, .inr ⟨hi, by simpa using h1, rfl⟩⟩
/-- Behind the first that does not stand ahead of a key, in right labels, all stand behind it. -/
theorem sort_none {l : Labels} (hs : SortL l) {k : ByteArray} {i : Nat} (h : (l.take i).all (fun x => bl x.1 k) = true) (h' : ∀ hi : i < l.length, bl l[i].1 k = false ∧ l[i].1 ≠ k) : getL l k = none := by
  unfold getL
  rw [find_none]
  · rfl
  · rw [List.all_eq_true]
    intro x hx
    obtain ⟨j, hj, rfl⟩ := List.mem_iff_getElem.1 hx
    simp only [Bool.not_eq_true', decide_eq_false_iff_not]
    rcases Nat.lt_trichotomy j i with c | c | c
    · exact bl_ne (List.all_eq_true.1 h _ (List.mem_iff_getElem.2 ⟨j, by rw [List.length_take]; omega, by rw [List.getElem_take]⟩))
    · subst c; exact (h' hj).2
    · obtain ⟨h1, h2⟩ := h' (by omega)
      have := (List.pairwise_iff_getElem.1 hs) i j (by omega) hj c
      exact fun e => bl_ne (bl_trans (bl_tri h1 h2) this) e.symm
theorem sort_some {l : Labels} {k : ByteArray} {i : Nat} (h : (l.take i).all (fun x => bl x.1 k) = true) (hi : i < l.length) (h' : l[i].1 = k) : getL l k = some l[i].2 := by
  unfold getL
  rw [find_at hi (decide_eq_true h')]
  · rfl
  · rw [List.all_eq_true] at h ⊢
    intro x hx
    simpa using bl_ne (h x hx)
theorem labels_Get_is (N : Nat) (hN : Big N) {l : Labels} (hl : l.length ≤ 140737488355328) (hs : SortL l) (k : ByteArray) : G_labels_Get N (l, k, ()) = some (getR l k) := by
  obtain ⟨o, e, i, hle, hall, ho⟩ := labels_at_is N hN hl k
  unfold G_labels_Get S_labels_Get getR
  simp only [e, Option.bind_some]
  rcases ho with ⟨rfl, rfl⟩ | ⟨hi, h1, rfl⟩
  · rw [sort_none hs hall (fun hi => absurd hi (by omega))]; rfl
  · by_cases c : l[i].1 = k
    · have d0 : decide ((0 : Int) ≤ (i : Int)) = true := decide_eq_true (by omega)
      rw [sort_some hall hi c]
      simp only [decide_eq_true c, Bool.not_true, br_false, d0, br_true, Int.toNat_natCast, at_lt hi, Option.bind_some]; rfl
    · rw [sort_none hs hall (fun hi => ⟨h1, c⟩)]
      simp only [decide_eq_false c]; rfl
theorem labels_among_is (N : Nat) (hN : Big N) {l : List ByteArray} (hl : l.length ≤ 140737488355328) (k : ByteArray) : G_labels_among N (l, k, ()) = some (l.any (fun x => decide (x = k)), ()) := by
  have hN' := hN
  unfold Big at hN'
  obtain ⟨o, e, ho⟩ := Tot.allL (f := g_labels_among_2 N) (l := l) (q := fun x => !decide (x = k)) (Inv := fun i x => x = ((k, l, (l.length : Int), (i : Int), ()), ())) (Y := fun o => ∃ y, o = .inl y) (No := fun o => ∃ y, o = .inr ((true, ()), y))
    (fun m a ha => by
      subst ha
      rw [g_labels_among_2_succ]
      unfold s_labels_among_2
      exact Tot.brD (fun h => absurd h (by dsimp only; omega)) fun _ => Tot.some ⟨_, rfl⟩)
    (fun m i a Q hi ha rec no => by
      subst ha
      rw [g_labels_among_2_succ]
      unfold s_labels_among_2
      have d0 : decide ((0 : Int) ≤ (i : Int)) = true := decide_eq_true (by omega)
      have d1 : decide ((i : Int) < ((l.length : Nat) : Int)) = true := decide_eq_true (by omega)
      simp only [d0, d1, br_true, Int.toNat_natCast, at_lt hi, Option.bind_some, wi (i := i) (by omega)]
      refine Tot.brD (fun c => Tot.some (no (by rw [decide_eq_true c]; rfl) _ ⟨_, rfl⟩)) fun c => rec (by rw [decide_eq_false c]; rfl) _ rfl)
    N ((k, l, (l.length : Int), 0, ()), ()) (by omega) rfl
  have hany : l.any (fun x => decide (x = k)) = !l.all (fun x => !decide (x = k)) := by rw [← List.not_any_eq_all_not, Bool.not_not]
  unfold G_labels_among S_labels_among
  simp only [e, Option.bind_some, hany]
  rcases ho with ⟨h, y, rfl⟩ | ⟨h, y, rfl⟩ <;> rw [h] <;> rfl

/-- Are right terms met? -/
def inB (l : Labels) (t : Term) : Bool := (getL l t.1).isSome && t.2.2.any fun x => decide (x = (getL l t.1).getD nameless)
def meetsB (l : Labels) (t : Term) : Bool :=
  if t.2.1 = 1 then inB l t else if t.2.1 = 2 then !inB l t else if t.2.1 = 3 then (getL l t.1).isSome else if t.2.1 = 4 then !(getL l t.1).isSome else
    (getL l t.1).isSome && (decide ((numQ ((getL l t.1).getD nameless)).2 = 0) && (if t.2.1 = 5 then decide ((numQ (t.2.2.headD nameless)).1 < (numQ ((getL l t.1).getD nameless)).1) else decide ((numQ ((getL l t.1).getD nameless)).1 < (numQ (t.2.2.headD nameless)).1)))
theorem getL_ok {l : Labels} (hl : okL l) (k : ByteArray) : okS ((getL l k).getD nameless) := by
  unfold getL
  cases e : l.find? fun x => decide (x.1 = k) with
  | none => show (0 : Nat) ≤ _; omega
  | some x => exact (hl.2 x (List.mem_of_find?_eq_some e)).2
theorem right_op {N : Nat} {t : Term} (h : rightTm N t = true) : (t.2.1 = 1 ∨ t.2.1 = 2 ∨ t.2.1 = 3 ∨ t.2.1 = 4 ∨ t.2.1 = 5 ∨ t.2.1 = 6) ∧ (t.2.1 = 5 ∨ t.2.1 = 6 → ∃ v, t.2.2 = [v]) := by
  unfold rightTm at h
  rw [Bool.and_eq_true] at h
  have h := h.2
  split at h
  · exact ⟨by omega, fun h' => by omega⟩
  · split at h
    · exact ⟨by omega, fun h' => by omega⟩
    · split at h
      · refine ⟨by omega, fun _ => ?_⟩
        revert h
        generalize t.2.2 = vs
        intro h
        match vs, h with
        | [], h => cases h
        | [v], _ => exact ⟨v, rfl⟩
        | _ :: _ :: _, h => cases h
      · cases h
theorem labels_Meets_is (N : Nat) (hN : Big N) {l : Labels} (hl : okL l) (hs : SortL l) {t : Term} (ht : okTm t) (hr : rightTm N t = true) : G_labels_Meets N (l, t, ()) = some (meetsB l t, ()) := by
  obtain ⟨hop, h56⟩ := right_op hr
  have hv := getL_ok hl t.1
  obtain ⟨k, op, vs⟩ := t
  obtain ⟨h1, h2, h3⟩ := ht
  have h2 : vs.length ≤ 140737488355328 := h2
  have h3 : ∀ v ∈ vs, okS v := h3
  dsimp only at hop h56 hv
  unfold G_labels_Meets S_labels_Meets meetsB inB
  simp only [labels_Get_is N hN hl.1 hs, Option.bind_some, labels_among_is N hN h2, getR]
  generalize (getL l k).getD nameless = v at *
  generalize (getL l k).isSome = b at *
  by_cases e1 : op = 1
  · simp only [decide_eq_true e1, br_true, if_pos e1]
    cases b <;> rfl
  by_cases e2 : op = 2
  · simp only [decide_eq_false e1, decide_eq_true e2, br_true, br_false, if_neg e1, if_pos e2]
    cases b <;> rfl
  by_cases e3 : op = 3
  · simp only [decide_eq_false e1, decide_eq_false e2, decide_eq_true e3, br_true, br_false, if_neg e1, if_neg e2, if_pos e3]
  by_cases e4 : op = 4
  · simp only [decide_eq_false e1, decide_eq_false e2, decide_eq_false e3, decide_eq_true e4, br_true, br_false, if_neg e1, if_neg e2, if_neg e3, if_pos e4]
  obtain ⟨w, rfl⟩ := h56 (by omega)
  have hw := h3 w (by simp)
  simp only [decide_eq_false e1, decide_eq_false e2, decide_eq_false e3, decide_eq_false e4, br_false, if_neg e1, if_neg e2, if_neg e3, if_neg e4]
  cases b
  · rfl
  have d1 : decide ((([w].length : Nat) : Int) = 1) = true := rfl
  have g0 : [w][(Int.toNat 0)]? = some w := rfl
  simp only [Bool.not_true, br_false, d1, labels_number_is N hN hv, g0, Option.bind_some, labels_number_is N hN hw, Bool.true_and, List.headD_cons]
  by_cases e5 : op = 5
  · rw [decide_eq_false (show ¬ op = 6 by omega), br_false, if_pos e5]
    cases decide ((numQ v).2 = 0) <;> rfl
  · rw [decide_eq_true (show op = 6 by omega), br_true, if_neg e5]
    cases decide ((numQ v).2 = 0) <;> rfl
theorem ref05_Meets_is (N : Nat) (hN : Big N) {l : Labels} (hl : okL l) {t : Term} (ht : okTm t) (hr : rightTm N t = true) : G_ref05_Meets N (l, t, ()) = some (meetsB l t, ()) := by
  obtain ⟨hop, h56⟩ := right_op hr
  have hv := getL_ok hl t.1
  obtain ⟨k, op, vs⟩ := t
  obtain ⟨h1, h2, h3⟩ := ht
  have h2 : vs.length ≤ 140737488355328 := h2
  have h3 : ∀ v ∈ vs, okS v := h3
  dsimp only at hop h56 hv
  have hN' := hN
  unfold Big at hN'
  unfold G_ref05_Meets S_ref05_Meets meetsB inB
  simp only [ref05_Get_is N hN hl.1, Option.bind_some, getR]
  generalize (getL l k).getD nameless = v at *
  generalize (getL l k).isSome = b at *
  have loop : ∀ m (i : Nat) x, i ≤ vs.length → (x = ((v, b, (b && (vs.take i).any fun x => decide (x = v)), (i : Int), ()), ((k, op, vs), ()), ())) → vs.length - i < m →
      Tot (g_ref05_Meets_4 N m x) fun o => o = .inl ((v, b, (b && vs.any fun x => decide (x = v)), ()), ((k, op, vs), ()), ()) := by
    refine Tot.range vs.length fun m i x hx hi rec => ?_
    subst hx
    rw [g_ref05_Meets_4_succ]
    unfold s_ref05_Meets_4
    by_cases hlt : i < vs.length
    · have d0 : decide ((0 : Int) ≤ (i : Int)) = true := decide_eq_true (by omega)
      have d1 : decide ((i : Int) < ((vs.length : Nat) : Int)) = true := decide_eq_true (by omega)
      simp only [d0, d1, br_true, Int.toNat_natCast, at_lt hlt, Option.bind_some, wi (i := i) (by omega)]
      have hn := rec (i + 1) _ (by omega) (by omega) rfl
      rw [List.take_add_one, at_lt hlt, List.any_append] at hn
      simp only [Option.toList_some, List.any_cons, List.any_nil, Bool.or_false] at hn
      cases b
      · exact hn
      · cases c : (vs.take i).any fun x => decide (x = v)
        · rw [c] at hn
          simp only [Bool.true_and, Bool.false_or] at hn
          exact hn
        · rw [c] at hn
          simp only [Bool.true_and, Bool.true_or] at hn
          exact hn
    · have d1 : decide ((i : Int) < ((vs.length : Nat) : Int)) = false := decide_eq_false (by omega)
      simp only [d1, br_false]
      rw [List.take_of_length_le (by omega)]
      exact Tot.some rfl
  obtain ⟨o, e, rfl⟩ := loop N 0 _ (by omega) rfl (by omega)
  rw [List.take_zero, List.any_nil, Bool.and_false] at e
  have e : g_ref05_Meets_4 N N ((v, b, false, 0, ()), ((k, op, vs), ()), ()) = _ := e
  simp only [e, Option.bind_some, Sum.elim_inl]
  by_cases e1 : op = 1
  · simp only [decide_eq_true e1, br_true, if_pos e1]
  by_cases e2 : op = 2
  · simp only [decide_eq_false e1, decide_eq_true e2, br_true, br_false, if_neg e1, if_pos e2]
  by_cases e3 : op = 3
  · simp only [decide_eq_false e1, decide_eq_false e2, decide_eq_true e3, br_true, br_false, if_neg e1, if_neg e2, if_pos e3]
  by_cases e4 : op = 4
  · simp only [decide_eq_false e1, decide_eq_false e2, decide_eq_false e3, decide_eq_true e4, br_true, br_false, if_neg e1, if_neg e2, if_neg e3, if_pos e4]
  obtain ⟨w, rfl⟩ := h56 (by omega)
  have hw := h3 w (by simp)
  have g0 : [w][(Int.toNat 0)]? = some w := rfl
  simp only [decide_eq_false e1, decide_eq_false e2, decide_eq_false e3, decide_eq_false e4, br_false, if_neg e1, if_neg e2, if_neg e3, if_neg e4, ref03_Number_is N hN hv, g0, Option.bind_some, ref03_Number_is N hN hw, List.headD_cons]
  cases b
  · rfl
  simp only [Bool.not_true, br_false, Bool.true_and]
  cases c : decide ((numQ v).2 = 0)
  · rfl
  simp only [Bool.not_true, br_false, Bool.true_and]
  by_cases e5 : op = 5
  · rw [decide_eq_true e5, br_true, if_pos e5]; rfl
  · rw [decide_eq_false e5, br_false, if_neg e5]; rfl

def hasB (l some : Labels) : Bool := some.all fun x => (getL l x.1).isSome && decide ((getL l x.1).getD nameless = x.2)
theorem labels_Has_is (N : Nat) (hN : Big N) {l xs : Labels} (hl : okL l) (hs : SortL l) (hx : okL xs) : G_labels_Has N (l, xs, ()) = some (hasB l xs, ()) := by
  have hN' := hN
  unfold Big at hN'; have h1 := hx.1
  obtain ⟨o, e, ho⟩ := Tot.allL (f := g_labels_Has_2 N) (l := xs) (q := fun x => (getL l x.1).isSome && decide ((getL l x.1).getD nameless = x.2)) (Inv := fun i x => x = ((l, xs, (xs.length : Int), (i : Int), ()), ())) (Y := fun o => ∃ y, o = .inl y) (No := fun o => ∃ y, o = .inr ((false, ()), y))
    (fun m a ha => by
      subst ha
      rw [g_labels_Has_2_succ]
      unfold s_labels_Has_2
      exact Tot.brD (fun h => absurd h (by dsimp only; omega)) fun _ => Tot.some ⟨_, rfl⟩)
    (fun m i a Q hi ha rec no => by
      subst ha
      rw [g_labels_Has_2_succ]
      unfold s_labels_Has_2
      have d0 : decide ((0 : Int) ≤ (i : Int)) = true := decide_eq_true (by omega)
      have d1 : decide ((i : Int) < ((xs.length : Nat) : Int)) = true := decide_eq_true (by omega)
      simp only [d0, d1, br_true, Int.toNat_natCast, at_lt hi, Option.bind_some, wi (i := i) (by omega), labels_Get_is N hN hl.1 hs, getR]
      cases c1 : (getL l xs[i].1).isSome
      · exact Tot.some (no (by rw [c1]; rfl) _ ⟨_, rfl⟩)
      cases c2 : decide ((getL l xs[i].1).getD nameless = xs[i].2)
      · exact Tot.some (no (by rw [c2, Bool.and_false]) _ ⟨_, rfl⟩)
      · exact rec (by rw [c1, c2]; rfl) _ rfl)
    N ((l, xs, (xs.length : Int), 0, ()), ()) (by omega) rfl
  unfold G_labels_Has S_labels_Has hasB
  simp only [e, Option.bind_some]
  rcases ho with ⟨h, y, rfl⟩ | ⟨h, y, rfl⟩ <;> rw [h] <;> rfl
theorem ref05_Has_is (N : Nat) (hN : Big N) {l xs : Labels} (hl : okL l) (hx : okL xs) : G_ref05_Has N (l, xs, ()) = some (hasB l xs, ()) := by
  have hN' := hN
  unfold Big at hN'; have h1 := hx.1
  obtain ⟨o, e, ho⟩ := Tot.allL (f := g_ref05_Has_2 N) (l := xs) (q := fun x => (getL l x.1).isSome && decide ((getL l x.1).getD nameless = x.2)) (Inv := fun i x => x = ((l, xs, (i : Int), ()), ())) (Y := fun o => ∃ y, o = .inl y) (No := fun o => ∃ y, o = .inr ((false, ()), y))
    (fun m a ha => by
      subst ha
      rw [g_ref05_Has_2_succ]
      unfold s_ref05_Has_2
      exact Tot.brD (fun h => absurd h (by dsimp only; omega)) fun _ => Tot.some ⟨_, rfl⟩)
    (fun m i a Q hi ha rec no => by
      subst ha
      rw [g_ref05_Has_2_succ]
      unfold s_ref05_Has_2
      have d0 : decide ((0 : Int) ≤ (i : Int)) = true := decide_eq_true (by omega)
      have d1 : decide ((i : Int) < ((xs.length : Nat) : Int)) = true := decide_eq_true (by omega)
      simp only [d0, d1, br_true, Int.toNat_natCast, at_lt hi, Option.bind_some, wi (i := i) (by omega), ref05_Get_is N hN hl.1, getR]
      cases c1 : (getL l xs[i].1).isSome
      · exact Tot.some (no (by rw [c1]; rfl) _ ⟨_, rfl⟩)
      cases c2 : decide ((getL l xs[i].1).getD nameless = xs[i].2)
      · exact Tot.some (no (by rw [c2, Bool.and_false]) _ ⟨_, rfl⟩)
      · exact rec (by rw [c1, c2]; rfl) _ rfl)
    N ((l, xs, 0, ()), ()) (by omega) rfl
  unfold G_ref05_Has S_ref05_Has hasB
  simp only [e, Option.bind_some]
  rcases ho with ⟨h, y, rfl⟩ | ⟨h, y, rfl⟩ <;> rw [h] <;> rfl
theorem labels_All_is (N : Nat) (hN : Big N) {l : Labels} (hl : okL l) (hs : SortL l) {ts : List Term} (ht : ts.length ≤ 140737488355328) (hx : ∀ t ∈ ts, okTm t ∧ rightTm N t = true) : G_labels_All N (l, ts, ()) = some (ts.all (meetsB l), ()) := by
  have hN' := hN
  unfold Big at hN'
  obtain ⟨o, e, ho⟩ := Tot.allL (f := g_labels_All_2 N) (l := ts) (q := meetsB l) (Inv := fun i x => x = ((l, ts, (ts.length : Int), (i : Int), ()), ())) (Y := fun o => ∃ y, o = .inl y) (No := fun o => ∃ y, o = .inr ((false, ()), y))
    (fun m a ha => by
      subst ha
      rw [g_labels_All_2_succ]
      unfold s_labels_All_2
      exact Tot.brD (fun h => absurd h (by dsimp only; omega)) fun _ => Tot.some ⟨_, rfl⟩)
    (fun m i a Q hi ha rec no => by
      subst ha
      rw [g_labels_All_2_succ]
      unfold s_labels_All_2
      obtain ⟨q1, q2⟩ := hx ts[i] (List.getElem_mem hi)
      have hm : G_labels_Meets N (l, (ts[i].1, ts[i].2.1, ts[i].2.2), ()) = _ := labels_Meets_is N hN hl hs q1 q2
      have d0 : decide ((0 : Int) ≤ (i : Int)) = true := decide_eq_true (by omega)
      have d1 : decide ((i : Int) < ((ts.length : Nat) : Int)) = true := decide_eq_true (by omega)
      simp only [d0, d1, br_true, Int.toNat_natCast, at_lt hi, Option.bind_some, wi (i := i) (by omega), hm]
      cases c1 : meetsB l ts[i]
      · exact Tot.some (no c1 _ ⟨_, rfl⟩)
      · exact rec c1 _ rfl)
    N ((l, ts, (ts.length : Int), 0, ()), ()) (by omega) rfl
  unfold G_labels_All S_labels_All
  simp only [e, Option.bind_some]
  rcases ho with ⟨h, y, rfl⟩ | ⟨h, y, rfl⟩ <;> rw [h] <;> rfl
theorem ref05_All_is (N : Nat) (hN : Big N) {l : Labels} (hl : okL l) {ts : List Term} (ht : ts.length ≤ 140737488355328) (hx : ∀ t ∈ ts, okTm t ∧ rightTm N t = true) : G_ref05_All N (l, ts, ()) = some (ts.all (meetsB l), ()) := by
  have hN' := hN
  unfold Big at hN'
  obtain ⟨o, e, ho⟩ := Tot.allL (f := g_ref05_All_2 N) (l := ts) (q := meetsB l) (Inv := fun i x => x = ((l, ts, (i : Int), ()), ())) (Y := fun o => ∃ y, o = .inl y) (No := fun o => ∃ y, o = .inr ((false, ()), y))
    (fun m a ha => by
      subst ha
      rw [g_ref05_All_2_succ]
      unfold s_ref05_All_2
      exact Tot.brD (fun h => absurd h (by dsimp only; omega)) fun _ => Tot.some ⟨_, rfl⟩)
    (fun m i a Q hi ha rec no => by
      subst ha
      rw [g_ref05_All_2_succ]
      unfold s_ref05_All_2
      obtain ⟨q1, q2⟩ := hx ts[i] (List.getElem_mem hi)
      have hm : G_ref05_Meets N (l, (ts[i].1, ts[i].2.1, ts[i].2.2), ()) = _ := ref05_Meets_is N hN hl q1 q2
      have d0 : decide ((0 : Int) ≤ (i : Int)) = true := decide_eq_true (by omega)
      have d1 : decide ((i : Int) < ((ts.length : Nat) : Int)) = true := decide_eq_true (by omega)
      simp only [d0, d1, br_true, Int.toNat_natCast, at_lt hi, Option.bind_some, wi (i := i) (by omega), hm]
      cases c1 : meetsB l ts[i]
      · exact Tot.some (no c1 _ ⟨_, rfl⟩)
      · exact rec c1 _ rfl)
    N ((l, ts, 0, ()), ()) (by omega) rfl
  unfold G_ref05_All S_ref05_All
  simp only [e, Option.bind_some]
  rcases ho with ⟨h, y, rfl⟩ | ⟨h, y, rfl⟩ <;> rw [h] <;> rfl
end Go.Proofs.Ythmajioeldhngaa.LaS
