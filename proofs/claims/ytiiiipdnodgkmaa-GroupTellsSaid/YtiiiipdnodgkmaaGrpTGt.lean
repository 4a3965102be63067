/- Groups: the document's names, and machines of a group; yards that are light. -/
import Derived.Test.YtiiiipdnodgkmaaGrpAGt
import Derived.Test.YtiiiipdnodgkmaaGrpPGt
import Derived.Test.YtiiiipdnodgkmaaGrpFGt
namespace Go.Proofs.Ytiiiipdnodgkmaa.Gt
open Go Go.VI
set_option linter.unusedVariables false
set_option linter.unusedSimpArgs false
set_option maxRecDepth 100000

theorem ref16_Names_is (N : Nat) (hN : Big N) {l : List Grp} (hl : l.length ≤ 1000) : G_ref16_Names N (l, ()) = some (l.map (·.1), ()) := by
  unfold Big at hN
  have loop : ∀ m (i : Nat) x, i ≤ l.length → x = ((l, (i : Int), ()), (l.take i).map (·.1), ()) → l.length - i < m → Tot (g_ref16_Names_3 N m x) fun o => o = .inl ((), l.map (·.1), ()) := by
    refine Tot.range l.length fun m i x ha hi rec => ?_
    subst ha
    rw [g_ref16_Names_3_succ]
    unfold s_ref16_Names_3
    by_cases hlt : i < l.length
    · have d0 : decide ((0 : Int) ≤ (i : Int)) = true := decide_eq_true (by omega)
      have d1 : decide ((i : Int) < ((l.length : Nat) : Int)) = true := decide_eq_true (by omega)
      have d2 : Nat.ble (((l.take i).map (·.1)).length + 1) maxElems = true := Nat.ble_eq_true_of_le (by rw [List.length_map, List.length_take]; unfold maxElems; omega)
      simp only [d0, d1, d2, br_true, Int.toNat_natCast, at_lt hlt, Option.bind_some, wi (i := i) (by omega)]
      refine rec (i + 1) _ (by omega) (by omega) ?_
      rw [List.take_add_one, at_lt hlt, List.map_append]; rfl
    · have d1 : decide ((i : Int) < ((l.length : Nat) : Int)) = false := decide_eq_false (by omega)
      simp only [d1, br_false]
      rw [List.take_of_length_le (by omega)]
      exact Tot.some rfl
  obtain ⟨o, e, rfl⟩ := loop N 0 ((l, 0, ()), [], ()) (by omega) rfl (by omega)
  unfold G_ref16_Names S_ref16_Names
  simp only [e, Option.bind_some]
  rfl
theorem ref16_Of_is (N : Nat) (hN : Big N) {l : List Mach} (hl : l.length ≤ 1000) (name : ByteArray) : G_ref16_Of N (l, name, ()) = some ((l.filter (ofB name)).map (·.1), ()) := by
  unfold Big at hN
  have loop : ∀ m (i : Nat) x, i ≤ l.length → x = ((l, name, (i : Int), ()), ((l.take i).filter (ofB name)).map (·.1), ()) → l.length - i < m → Tot (g_ref16_Of_3 N m x) fun o => o = .inl ((), (l.filter (ofB name)).map (·.1), ()) := by
    refine Tot.range l.length fun m i x ha hi rec => ?_
    subst ha
    rw [g_ref16_Of_3_succ]
    unfold s_ref16_Of_3
    by_cases hlt : i < l.length
    · have d0 : decide ((0 : Int) ≤ (i : Int)) = true := decide_eq_true (by omega)
      have d1 : decide ((i : Int) < ((l.length : Nat) : Int)) = true := decide_eq_true (by omega)
      have := fm_len (p := ofB name) (f := fun m : Mach => m.1) (l := l) (i := i)
      have d2 : Nat.ble ((((l.take i).filter (ofB name)).map (·.1)).length + 1) maxElems = true := Nat.ble_eq_true_of_le (by unfold maxElems; omega)
      simp only [d0, d1, d2, br_true, Int.toNat_natCast, at_lt hlt, Option.bind_some, wi (i := i) (by omega)]
      have hs := fm_succ (p := ofB name) (f := fun m : Mach => m.1) hlt
      by_cases e : l[i].2.1 = name
      · rw [decide_eq_true e, br_true]
        exact rec (i + 1) _ (by omega) (by omega) (by rw [hs, if_pos (show ofB name l[i] = true from decide_eq_true e)])
      · rw [decide_eq_false e, br_false]
        exact rec (i + 1) _ (by omega) (by omega) (by rw [hs, if_neg (show ¬ ofB name l[i] = true by unfold ofB; simpa using e), List.append_nil])
    · have d1 : decide ((i : Int) < ((l.length : Nat) : Int)) = false := decide_eq_false (by omega)
      simp only [d1, br_false]
      rw [List.take_of_length_le (by omega)]
      exact Tot.some rfl
  obtain ⟨o, e, rfl⟩ := loop N 0 ((l, name, 0, ()), [], ()) (by omega) rfl (by omega)
  unfold G_ref16_Of S_ref16_Of
  simp only [e, Option.bind_some]
  rfl
theorem Texts_same (N : Nat) (hN : Big N) {l : List ByteArray} (hl : l.length ≤ 1000) : G_ref09_Texts N (l, l, ()) = some (true, ()) := by
  unfold Big at hN
  have loop : ∀ m (i : Nat) x, i ≤ l.length → x = ((l, l, (i : Int), ()), ()) → l.length - i < m → Tot (g_ref09_Texts_4 N m x) fun o => ∃ y, o = .inl y := by
    refine Tot.range l.length fun m i x ha hi rec => ?_
    subst ha
    rw [g_ref09_Texts_4_succ]
    unfold s_ref09_Texts_4
    by_cases hlt : i < l.length
    · have d0 : decide ((0 : Int) ≤ (i : Int)) = true := decide_eq_true (by omega)
      have d1 : decide ((i : Int) < ((l.length : Nat) : Int)) = true := decide_eq_true (by omega)
      simp only [d0, d1, br_true, Int.toNat_natCast, at_lt hlt, Option.bind_some, wi (i := i) (by omega), decide_true, Bool.not_true, br_false]
      exact rec (i + 1) _ (by omega) (by omega) rfl
    · have d1 : decide ((i : Int) < ((l.length : Nat) : Int)) = false := decide_eq_false (by omega)
      simp only [d1, br_false]
      exact Tot.some ⟨_, rfl⟩
  obtain ⟨o, e, y, rfl⟩ := loop N 0 ((l, l, 0, ()), ()) (by omega) rfl (by omega)
  unfold G_ref09_Texts S_ref09_Texts
  simp only [decide_true, Bool.not_true, br_false, e, Option.bind_some, Sum.elim_inl]
/-- Yards without pods. -/
theorem Light09_tot (N : Nat) (hN : Big N) (ms : List Mach) (hm : ms.length ≤ 140737488355328 ∧ ∀ m ∈ ms, okM m) : Tot (G_ref09_Light N (ms, [], ())) fun v => v.1 = true → ms.length ≤ 20 := by
  have hN' := hN
  unfold Big at hN'
  have loop4 := Tot.all (f := g_ref09_Light_4 N) (Inv := fun i x => x = ((ms, [], (i : Int), ()), ())) (Y := fun o => o = .inl (([], ()), ())) (No := fun o => ∃ y, o = .inr ((false, ()), y)) ms.length
    (atP (fun m => match G_ref07_LightMachine N (m, ()) with
      | some v => v.1
      | none => false) ms)
    (fun m a ha => by
      subst ha
      rw [g_ref09_Light_4_succ]
      unfold s_ref09_Light_4
      exact Tot.brD (fun h => absurd h (by dsimp only; omega)) fun _ => Tot.some rfl)
    (fun m i a Q ha hi rec no => by
      subst ha
      rw [g_ref09_Light_4_succ]
      unfold s_ref09_Light_4
      have d0 : decide ((0 : Int) ≤ (i : Int)) = true := decide_eq_true (by omega)
      have d1 : decide ((i : Int) < ((ms.length : Nat) : Int)) = true := decide_eq_true (by omega)
      obtain ⟨⟨b, ⟨⟩⟩, e, _⟩ := LightMachine_tot N hN ms[i] (hm.2 _ (List.getElem_mem hi))
      have e' : G_ref07_LightMachine N ((ms[i].1, ms[i].2.1, ms[i].2.2.1, ms[i].2.2.2.1, ms[i].2.2.2.2.1, ms[i].2.2.2.2.2), ()) = _ := e
      simp only [d0, d1, br_true, Int.toNat_natCast, at_lt hi, Option.bind_some, e', wi (i := i) (by omega)]
      rw [atP_lt hi] at rec no
      simp only [e] at rec no
      cases b
      · exact Tot.some (no rfl _ ⟨_, rfl⟩)
      · exact rec rfl _ rfl)
    N 0 ((ms, [], 0, ()), ()) (by omega) rfl (by omega)
  obtain ⟨o, e, ho⟩ := loop4
  obtain ⟨k, hk⟩ : ∃ k, N = k + 1 := ⟨N - 1, by omega⟩
  have e9 : ∃ y, g_ref09_Light_9 N N (([], 0, ()), ()) = some (.inl y) := by
    have : g_ref09_Light_9 N (k + 1) (([], 0, ()), ()) = some (.inl ((), ())) := by
      rw [g_ref09_Light_9_succ]; rfl
    rw [← hk] at this
    exact ⟨_, this⟩
  obtain ⟨y9, e9⟩ := e9
  unfold G_ref09_Light S_ref09_Light
  simp only [e, Option.bind_some]
  refine Tot.brD (fun _ => Tot.some fun h => by cases h) fun h => ?_
  have h : ¬ ((20 : Int) < ((ms.length : Nat) : Int)) := h
  refine Tot.brD (fun _ => Tot.some fun h => by cases h) fun _ => ?_
  split at ho
  · subst ho
    simp only [Sum.elim_inl, e9, Option.bind_some]
    exact Tot.some fun _ => by omega
  · obtain ⟨y, rfl⟩ := ho; exact Tot.some fun h => by cases h
end Go.Proofs.Ytiiiipdnodgkmaa.Gt
