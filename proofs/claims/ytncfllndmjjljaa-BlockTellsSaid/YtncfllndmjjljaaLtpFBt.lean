/- The document: what is known of light pods. -/
import Derived.Test.YtncfllndmjjljaaYrdFBt
namespace Go.Proofs.Ytncfllndmjjljaa.Bt
open Go Go.VI
set_option linter.unusedVariables false
set_option linter.unusedSimpArgs false
set_option maxRecDepth 100000

def ltL (l : Labels) : Prop := l.length ≤ 40 ∧ ∀ x ∈ l, x.1.size ≤ 300 ∧ x.2.size ≤ 300
def ltTm (t : Term) : Prop := t.1.size ≤ 300 ∧ t.2.2.length ≤ 40 ∧ ∀ s ∈ t.2.2, s.size ≤ 300
structure ltP (p : Pod) : Prop where
  name : p.1.size ≤ 300
  owner : p.2.2.2.2.2.2.2.2.2.2.2.2.1.size ≤ 300
  labels : ltL p.2.2.1
  select : ltL p.2.2.2.1
  apart : ltL p.2.2.2.2.2.2.2.1
  spread : ltL p.2.2.2.2.2.2.2.2.2.1
  bears : p.2.2.2.2.2.1.length ≤ 40 ∧ ∀ t ∈ p.2.2.2.2.2.1, t.1.size ≤ 300 ∧ t.2.1.size ≤ 300
  terms : p.2.2.2.2.1.length ≤ 30 ∧ ∀ t ∈ p.2.2.2.2.1, ltTm t
  ports : p.2.2.2.2.2.2.1.length ≤ 30
theorem ref05_Light_all (N : Nat) (hN : Big N) (l : Labels) (hl : l.length ≤ 140737488355328) : ∃ b, G_ref05_Light N (l, ()) = some (b, ()) ∧ (b = true → ltL l) := by
  have hN' := hN
  unfold Big at hN'
  obtain ⟨o, e, ho⟩ := Tot.allL (f := g_ref05_Light_4 N) (l := l) (q := fun x => decide (x.1.size ≤ 300) && decide (x.2.size ≤ 300)) (Inv := fun i x => x = ((l, (i : Int), ()), ())) (Y := fun o => ∃ y, o = .inl y) (No := fun o => ∃ y, o = .inr ((false, ()), y))
    (fun m a ha => by
      subst ha
      rw [g_ref05_Light_4_succ]
      unfold s_ref05_Light_4
      exact Tot.brD (fun h => absurd h (by dsimp only; omega)) fun _ => Tot.some ⟨_, rfl⟩)
    (fun m i a Q hi ha rec no => by
      subst ha
      rw [g_ref05_Light_4_succ]
      unfold s_ref05_Light_4
      have d0 : decide ((0 : Int) ≤ (i : Int)) = true := decide_eq_true (by omega)
      have d1 : decide ((i : Int) < ((l.length : Nat) : Int)) = true := decide_eq_true (by omega)
      simp only [d0, d1, br_true, Int.toNat_natCast, at_lt hi, Option.bind_some, wi (i := i) (by omega)]
      by_cases c1 : l[i].1.size ≤ 300
      · rw [decide_eq_false (show ¬ (300 : Int) < ((l[i].1.size : Nat) : Int) by omega), br_false]
        by_cases c2 : l[i].2.size ≤ 300
        · rw [decide_eq_false (show ¬ (300 : Int) < ((l[i].2.size : Nat) : Int) by omega), br_false]
          exact rec (by rw [decide_eq_true c1, decide_eq_true c2]; rfl) _ rfl
        · rw [decide_eq_true (show (300 : Int) < ((l[i].2.size : Nat) : Int) by omega), br_true]
          exact Tot.some (no (by rw [decide_eq_false c2, Bool.and_false]) _ ⟨_, rfl⟩)
      · rw [decide_eq_true (show (300 : Int) < ((l[i].1.size : Nat) : Int) by omega), br_true]
        exact Tot.some (no (by rw [decide_eq_false c1, Bool.false_and]) _ ⟨_, rfl⟩))
    N ((l, 0, ()), ()) (by omega) rfl
  unfold G_ref05_Light S_ref05_Light
  dsimp only
  by_cases c : l.length ≤ 40
  · rw [decide_eq_false (show ¬ (40 : Int) < ((l.length : Nat) : Int) by omega), br_false, e, Option.bind_some]
    rcases ho with ⟨h, y, rfl⟩ | ⟨h, y, rfl⟩
    · refine ⟨true, rfl, fun _ => ⟨c, fun x hx => ?_⟩⟩
      have := List.all_eq_true.1 h x hx
      simp only [Bool.and_eq_true, decide_eq_true_eq] at this
      exact this
    · exact ⟨false, rfl, fun h => by cases h⟩
  · rw [decide_eq_true (show (40 : Int) < ((l.length : Nat) : Int) by omega), br_true]
    exact ⟨false, rfl, fun h => by cases h⟩
theorem ref06_Light_all (N : Nat) (hN : Big N) (l : List Tol) (hl : l.length ≤ 140737488355328) : ∃ b, G_ref06_Light N (l, [], ()) = some (b, ()) ∧ (b = true → l.length ≤ 40 ∧ ∀ t ∈ l, t.1.size ≤ 300 ∧ t.2.1.size ≤ 300) := by
  have hN' := hN
  unfold Big at hN'
  obtain ⟨o, e, ho⟩ := Tot.allL (f := g_ref06_Light_4 N) (l := l) (q := fun x => decide (x.1.size ≤ 300) && decide (x.2.1.size ≤ 300)) (Inv := fun i x => x = ((l, [], (i : Int), ()), ())) (Y := fun o => ∃ y, o = .inl (([], ()), y)) (No := fun o => ∃ y, o = .inr ((false, ()), y))
    (fun m a ha => by
      subst ha
      rw [g_ref06_Light_4_succ]
      unfold s_ref06_Light_4
      exact Tot.brD (fun h => absurd h (by dsimp only; omega)) fun _ => Tot.some ⟨_, rfl⟩)
    (fun m i a Q hi ha rec no => by
      subst ha
      rw [g_ref06_Light_4_succ]
      unfold s_ref06_Light_4
      have d0 : decide ((0 : Int) ≤ (i : Int)) = true := decide_eq_true (by omega)
      have d1 : decide ((i : Int) < ((l.length : Nat) : Int)) = true := decide_eq_true (by omega)
      simp only [d0, d1, br_true, Int.toNat_natCast, at_lt hi, Option.bind_some, wi (i := i) (by omega)]
      by_cases c1 : l[i].1.size ≤ 300
      · rw [decide_eq_false (show ¬ (300 : Int) < ((l[i].1.size : Nat) : Int) by omega), br_false]
        by_cases c2 : l[i].2.1.size ≤ 300
        · rw [decide_eq_false (show ¬ (300 : Int) < ((l[i].2.1.size : Nat) : Int) by omega), br_false]
          exact rec (by rw [decide_eq_true c1, decide_eq_true c2]; rfl) _ rfl
        · rw [decide_eq_true (show (300 : Int) < ((l[i].2.1.size : Nat) : Int) by omega), br_true]
          exact Tot.some (no (by rw [decide_eq_false c2, Bool.and_false]) _ ⟨_, rfl⟩)
      · rw [decide_eq_true (show (300 : Int) < ((l[i].1.size : Nat) : Int) by omega), br_true]
        exact Tot.some (no (by rw [decide_eq_false c1, Bool.false_and]) _ ⟨_, rfl⟩))
    N ((l, [], 0, ()), ()) (by omega) rfl
  obtain ⟨M, rfl⟩ : ∃ M, N = M + 1 := ⟨N - 1, by omega⟩
  have e9 : g_ref06_Light_9 (M + 1) (M + 1) (([], 0, ()), ()) = some (.inl ((), ())) := by
    rw [g_ref06_Light_9_succ]; rfl
  unfold G_ref06_Light S_ref06_Light
  dsimp only
  by_cases c : l.length ≤ 40
  · rw [decide_eq_false (show ¬ (40 : Int) < ((l.length : Nat) : Int) by omega), br_false, decide_eq_false (show ¬ (40 : Int) < ((([] : Taints).length : Nat) : Int) by decide), br_false, e, Option.bind_some]
    rcases ho with ⟨h, y, rfl⟩ | ⟨h, y, rfl⟩
    · refine ⟨true, ?_, fun _ => ⟨c, fun x hx => ?_⟩⟩
      · simp only [Sum.elim_inl, e9, Option.bind_some]
      · have := List.all_eq_true.1 h x hx
        simp only [Bool.and_eq_true, decide_eq_true_eq] at this
        exact this
    · exact ⟨false, rfl, fun h => by cases h⟩
  · rw [decide_eq_true (show (40 : Int) < ((l.length : Nat) : Int) by omega), br_true]
    exact ⟨false, rfl, fun h => by cases h⟩
theorem ref05_LightTerm_all (N : Nat) (hN : Big N) (t : Term) (hl : t.2.2.length ≤ 140737488355328) : ∃ b, G_ref05_LightTerm N (t, ()) = some (b, ()) ∧ (b = true → ltTm t) := by
  have hN' := hN
  unfold Big at hN'
  obtain ⟨o, e, ho⟩ := Tot.allL (f := g_ref05_LightTerm_4 N) (l := t.2.2) (q := fun x => decide (x.size ≤ 300)) (Inv := fun i x => x = (((i : Int), ()), (t, ()), ())) (Y := fun o => ∃ y, o = .inl y) (No := fun o => ∃ y, o = .inr ((false, ()), y))
    (fun m a ha => by
      subst ha
      rw [g_ref05_LightTerm_4_succ]
      unfold s_ref05_LightTerm_4
      exact Tot.brD (fun h => absurd h (by dsimp only; omega)) fun _ => Tot.some ⟨_, rfl⟩)
    (fun m i a Q hi ha rec no => by
      subst ha
      rw [g_ref05_LightTerm_4_succ]
      unfold s_ref05_LightTerm_4
      have d0 : decide ((0 : Int) ≤ (i : Int)) = true := decide_eq_true (by omega)
      have d1 : decide ((i : Int) < ((t.2.2.length : Nat) : Int)) = true := decide_eq_true (by omega)
      simp only [d0, d1, br_true, Int.toNat_natCast, at_lt hi, Option.bind_some, wi (i := i) (by omega)]
      by_cases c1 : t.2.2[i].size ≤ 300
      · rw [decide_eq_false (show ¬ (300 : Int) < ((t.2.2[i].size : Nat) : Int) by omega), br_false]
        exact rec (decide_eq_true c1) _ rfl
      · rw [decide_eq_true (show (300 : Int) < ((t.2.2[i].size : Nat) : Int) by omega), br_true]
        exact Tot.some (no (decide_eq_false c1) _ ⟨_, rfl⟩))
    N ((0, ()), (t, ()), ()) (by omega) rfl
  unfold G_ref05_LightTerm S_ref05_LightTerm
  dsimp only
  by_cases c : t.2.2.length ≤ 40
  · rw [decide_eq_false (show ¬ (40 : Int) < ((t.2.2.length : Nat) : Int) by omega), br_false]
    by_cases c2 : t.1.size ≤ 300
    · rw [decide_eq_false (show ¬ (300 : Int) < ((t.1.size : Nat) : Int) by omega), br_false, e, Option.bind_some]
      rcases ho with ⟨h, y, rfl⟩ | ⟨h, y, rfl⟩
      · exact ⟨true, rfl, fun _ => ⟨c2, c, fun x hx => of_decide_eq_true (List.all_eq_true.1 h x hx)⟩⟩
      · exact ⟨false, rfl, fun h => by cases h⟩
    · rw [decide_eq_true (show (300 : Int) < ((t.1.size : Nat) : Int) by omega), br_true]
      exact ⟨false, rfl, fun h => by cases h⟩
  · rw [decide_eq_true (show (40 : Int) < ((t.2.2.length : Nat) : Int) by omega), br_true]
    exact ⟨false, rfl, fun h => by cases h⟩
theorem ref07_LightPod_all (N : Nat) (hN : Big N) {p : Pod} (hp : okP p) : ∃ b, G_ref07_LightPod N (p, ()) = some (b, ()) ∧ (b = true → ltP p) := by
  have hN' := hN
  unfold Big at hN'
  obtain ⟨q1, e1, k1⟩ := ref05_Light_all N hN _ hp.labels.1
  obtain ⟨q2, e2, k2⟩ := ref05_Light_all N hN _ hp.select.1
  obtain ⟨q3, e3, k3⟩ := ref05_Light_all N hN _ hp.apart.1
  obtain ⟨q4, e4, k4⟩ := ref05_Light_all N hN _ hp.spread.1
  obtain ⟨q5, e5, k5⟩ := ref06_Light_all N hN p.2.2.2.2.2.1 hp.bears.1
  have hts := hp.terms
  have hterm : ∀ t ∈ p.2.2.2.2.1, ∃ b, G_ref05_LightTerm N (t, ()) = some (b, ()) ∧ (b = true → ltTm t) := fun t ht => ref05_LightTerm_all N hN t (hts.2 t ht).2.1
  obtain ⟨o, e, ho⟩ := Tot.allL (f := g_ref07_LightPod_4 N) (l := p.2.2.2.2.1) (q := fun t => match G_ref05_LightTerm N (t, ()) with
      | some v => v.1
      | none => false) (Inv := fun i x => x = (((i : Int), ()), (p, ()), ())) (Y := fun o => ∃ y, o = .inl y) (No := fun o => ∃ y, o = .inr ((false, ()), y))
    (fun m a ha => by
      subst ha
      rw [g_ref07_LightPod_4_succ]
      unfold s_ref07_LightPod_4
      exact Tot.brD (fun h => absurd h (by dsimp only; omega)) fun _ => Tot.some ⟨_, rfl⟩)
    (fun m i a Q hi ha rec no => by
      subst ha
      rw [g_ref07_LightPod_4_succ]
      unfold s_ref07_LightPod_4
      have d0 : decide ((0 : Int) ≤ (i : Int)) = true := decide_eq_true (by omega)
      have d1 : decide ((i : Int) < ((p.2.2.2.2.1.length : Nat) : Int)) = true := decide_eq_true (by omega)
      obtain ⟨b, e, _⟩ := hterm _ (List.getElem_mem hi)
      have e' : G_ref05_LightTerm N (((p.2.2.2.2.1[i]).1, (p.2.2.2.2.1[i]).2.1, (p.2.2.2.2.1[i]).2.2), ()) = _ := e
      simp only [e] at rec no
      simp only [d0, d1, br_true, Int.toNat_natCast, at_lt hi, Option.bind_some, e', wi (i := i) (by omega)]
      cases b
      · exact Tot.some (no rfl _ ⟨_, rfl⟩)
      · exact rec rfl _ rfl)
    N ((0, ()), (p, ()), ()) (by omega) rfl
  unfold G_ref07_LightPod S_ref07_LightPod
  simp only [e1, e2, e3, e4, e5, e, Option.bind_some]
  have no : ∃ b, (some (false, ()) : Option (Bool × Unit)) = some (b, ()) ∧ (b = true → ltP p) := ⟨false, rfl, fun h => by cases h⟩
  by_cases c1 : p.1.size ≤ 300
  case neg => rw [decide_eq_true (show (300 : Int) < ((p.1.size : Nat) : Int) by omega), br_true]; exact no
  rw [decide_eq_false (show ¬ (300 : Int) < ((p.1.size : Nat) : Int) by omega), br_false]
  by_cases c2 : p.2.2.2.2.2.2.2.2.2.2.2.2.1.size ≤ 300
  case neg => rw [decide_eq_true (show (300 : Int) < ((p.2.2.2.2.2.2.2.2.2.2.2.2.1.size : Nat) : Int) by omega), br_true]; exact no
  rw [decide_eq_false (show ¬ (300 : Int) < ((p.2.2.2.2.2.2.2.2.2.2.2.2.1.size : Nat) : Int) by omega), br_false]
  by_cases c3 : p.2.2.2.2.1.length ≤ 30
  case neg => rw [decide_eq_true (show (30 : Int) < ((p.2.2.2.2.1.length : Nat) : Int) by omega), br_true]; exact no
  rw [decide_eq_false (show ¬ (30 : Int) < ((p.2.2.2.2.1.length : Nat) : Int) by omega), br_false]
  by_cases c4 : p.2.2.2.2.2.2.1.length ≤ 30
  case neg => rw [decide_eq_true (show (30 : Int) < ((p.2.2.2.2.2.2.1.length : Nat) : Int) by omega), br_true]; exact no
  rw [decide_eq_false (show ¬ (30 : Int) < ((p.2.2.2.2.2.2.1.length : Nat) : Int) by omega), br_false]
  cases q1
  · exact no
  cases q2
  · exact no
  cases q3
  · exact no
  cases q4
  · exact no
  cases q5
  · exact no
  simp only [Bool.not_true, br_false]
  rcases ho with ⟨h, y, rfl⟩ | ⟨h, y, rfl⟩
  · refine ⟨true, rfl, fun _ => ⟨c1, c2, k1 rfl, k2 rfl, k3 rfl, k4 rfl, k5 rfl, ⟨c3, fun t ht => ?_⟩, c4⟩⟩
    have h' := List.all_eq_true.1 h t ht
    obtain ⟨b, e, k⟩ := hterm t ht
    simp only [e] at h'
    exact k h'
  · exact no
theorem ref09_Light_all (N : Nat) (hN : Big N) {ms : List Mach} {bs : List Bound} (h : okY ms bs) (he : G_ref09_Light N (ms, bs, ()) = some (true, ())) : ∀ b ∈ bs, ltP b.1 := by
  have hN' := hN
  unfold Big at hN'
  have hml := h.ml
  have hbl := h.bl
  have hpod : ∀ b ∈ bs, ∃ v, G_ref07_LightPod N (b.1, ()) = some (v, ()) ∧ (v = true → ltP b.1) := fun b hb => ref07_LightPod_all N hN (h.bb b hb).1
  obtain ⟨o, e, ho⟩ := Tot.allL (f := g_ref09_Light_9 N) (l := bs) (q := fun b => (match G_ref07_LightPod N (b.1, ()) with
      | some v => v.1
      | none => false) && decide (b.2.size ≤ 300)) (Inv := fun i x => x = ((bs, (i : Int), ()), ())) (Y := fun o => ∃ y, o = .inl y) (No := fun o => ∃ y, o = .inr ((false, ()), y))
    (fun m a ha => by
      subst ha
      rw [g_ref09_Light_9_succ]
      unfold s_ref09_Light_9
      exact Tot.brD (fun h => absurd h (by dsimp only; omega)) fun _ => Tot.some ⟨_, rfl⟩)
    (fun m i a Q hi ha rec no => by
      subst ha
      rw [g_ref09_Light_9_succ]
      unfold s_ref09_Light_9
      have d0 : decide ((0 : Int) ≤ (i : Int)) = true := decide_eq_true (by omega)
      have d1 : decide ((i : Int) < ((bs.length : Nat) : Int)) = true := decide_eq_true (by omega)
      obtain ⟨b, e, _⟩ := hpod _ (List.getElem_mem hi)
      simp only [e] at rec no
      generalize hb : bs[i] = z at e rec no
      obtain ⟨⟨p1, p2, p3, p4, p5, p6, p7, p8, p9, p10, p11⟩, on⟩ := z
      simp only [d0, d1, br_true, Int.toNat_natCast, at_lt hi, hb, Option.bind_some, e, wi (i := i) (by omega)]
      cases b
      · exact Tot.some (no rfl _ ⟨_, rfl⟩)
      · simp only [Bool.not_true, br_false]
        by_cases c1 : on.size ≤ 300
        · rw [decide_eq_false (show ¬ (300 : Int) < ((on.size : Nat) : Int) by omega), br_false]
          exact rec (decide_eq_true c1) _ rfl
        · rw [decide_eq_true (show (300 : Int) < ((on.size : Nat) : Int) by omega), br_true]
          exact Tot.some (no (decide_eq_false c1) _ ⟨_, rfl⟩))
    N ((bs, 0, ()), ()) (by omega) rfl
  have loop4 : ∀ m (i : Nat) x, i ≤ ms.length → x = ((ms, bs, (i : Int), ()), ()) → ms.length - i < m → Tot (g_ref09_Light_4 N m x) fun o => (∃ y, o = .inl ((bs, ()), y)) ∨ ∃ y, o = .inr ((false, ()), y) := by
    refine Tot.range ms.length fun m i x ha hi rec => ?_
    subst ha
    rw [g_ref09_Light_4_succ]
    unfold s_ref09_Light_4
    by_cases hlt : i < ms.length
    · have d0 : decide ((0 : Int) ≤ (i : Int)) = true := decide_eq_true (by omega)
      have d1 : decide ((i : Int) < ((ms.length : Nat) : Int)) = true := decide_eq_true (by omega)
      obtain ⟨v, e, _⟩ := LightMachine_tot N hN _ (h.mm _ (List.getElem_mem hlt))
      have e : G_ref07_LightMachine N (((ms[i]).1, (ms[i]).2.1, (ms[i]).2.2.1, (ms[i]).2.2.2.1, (ms[i]).2.2.2.2.1, (ms[i]).2.2.2.2.2), ()) = _ := e
      simp only [d0, d1, br_true, Int.toNat_natCast, at_lt hlt, Option.bind_some, e, wi (i := i) (by omega)]
      exact Tot.br (fun _ => Tot.some (.inr ⟨_, rfl⟩)) fun _ => rec (i + 1) _ (by omega) (by omega) rfl
    · have d1 : decide ((i : Int) < ((ms.length : Nat) : Int)) = false := decide_eq_false (by omega)
      simp only [d1, br_false]
      exact Tot.some (.inl ⟨_, rfl⟩)
  obtain ⟨o4, g4, k4⟩ := loop4 N 0 _ (by omega) rfl (by omega)
  have g4 : g_ref09_Light_4 N N ((ms, bs, 0, ()), ()) = _ := g4
  unfold G_ref09_Light S_ref09_Light at he
  simp only [g4, Option.bind_some] at he
  rw [br_dec, br_dec] at he
  split at he
  · cases he
  split at he
  · cases he
  rcases k4 with ⟨y, rfl⟩ | ⟨y, rfl⟩
  · simp only [Sum.elim_inl, e, Option.bind_some] at he
    rcases ho with ⟨h', z, rfl⟩ | ⟨h', z, rfl⟩
    · intro b hb
      have h2 := List.all_eq_true.1 h' b hb
      obtain ⟨v, ev, k⟩ := hpod b hb
      simp only [ev, Bool.and_eq_true] at h2
      exact k h2.1
    · cases he
  · cases he
end Go.Proofs.Ytncfllndmjjljaa.Bt
