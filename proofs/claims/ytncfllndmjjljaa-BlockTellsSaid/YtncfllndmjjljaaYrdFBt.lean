/- The document: yards, and budgets, that are light and right. -/
import Derived.Test.YtncfllndmjjljaaPodFBt
namespace Go.Proofs.Ytncfllndmjjljaa.Bt
open Go Go.VI
set_option linter.unusedVariables false
set_option linter.unusedSimpArgs false
set_option maxRecDepth 100000

abbrev Bound := Pod × ByteArray
abbrev Budget := ByteArray × Labels × Int
def okBd (b : Bound) : Prop := okP b.1 ∧ okS b.2
def okBg (b : Budget) : Prop := okS b.1 ∧ okL b.2.1
structure okY (ms : List Mach) (bs : List Bound) : Prop where
  ml : ms.length ≤ 140737488355328
  mm : ∀ m ∈ ms, okM m
  bl : bs.length ≤ 140737488355328
  bb : ∀ b ∈ bs, okBd b
/-- The place of a pod; of a machine. -/
def plB (bs : List Bound) (name : ByteArray) : Option Nat := bs.findIdx? fun b => decide (b.1.1 = name)
def plM (ms : List Mach) (name : ByteArray) : Option Nat := ms.findIdx? fun m => decide (m.1 = name)
def plI (o : Option Nat) : Int := match o with
  | some i => (i : Int)
  | none => -1
theorem ref09_Place_is (N : Nat) (hN : Big N) {bs : List Bound} (hl : bs.length ≤ 140737488355328) (name : ByteArray) : G_ref09_Place N (bs, name, ()) = some (plI (plB bs name), ()) := by
  have hN' := hN
  unfold Big at hN'
  obtain ⟨o, e, ho⟩ := Tot.findI (f := g_ref09_Place_2 N) (l := bs) (q := fun b => decide (b.1.1 = name)) (Inv := fun i x => x = ((bs, name, (i : Int), ()), ())) (Y := fun o => ∃ y, o = .inl y) (No := fun i x o => ∃ y, o = .inr (((i : Int), ()), y))
    (fun m a ha => by
      subst ha
      rw [g_ref09_Place_2_succ]
      unfold s_ref09_Place_2
      exact Tot.brD (fun h => absurd h (by dsimp only; omega)) fun _ => Tot.some ⟨_, rfl⟩)
    (fun m i a Q hi ha rec no => by
      subst ha
      rw [g_ref09_Place_2_succ]
      unfold s_ref09_Place_2
      have d0 : decide ((0 : Int) ≤ (i : Int)) = true := decide_eq_true (by omega)
      have d1 : decide ((i : Int) < ((bs.length : Nat) : Int)) = true := decide_eq_true (by omega)
      simp only [d0, d1, br_true, Int.toNat_natCast, at_lt hi, Option.bind_some, wi (i := i) (by omega)]
      refine Tot.brD (fun c => Tot.some (no (decide_eq_true c) _ ⟨_, rfl⟩)) fun c => rec (decide_eq_false c) _ rfl)
    N ((bs, name, 0, ()), ()) (by omega) rfl
  unfold G_ref09_Place S_ref09_Place plB plI
  simp only [e, Option.bind_some]
  rcases ho with ⟨h, y, rfl⟩ | ⟨i, hi, h1, h2, y, rfl⟩
  · rw [findIdx_none h]; rfl
  · rw [findIdx_at hi h1 h2]; rfl
theorem ref09_Find_is (N : Nat) (hN : Big N) {ms : List Mach} (hl : ms.length ≤ 140737488355328) (name : ByteArray) : G_ref09_Find N (ms, name, ()) = some (plI (plM ms name), ()) := by
  have hN' := hN
  unfold Big at hN'
  obtain ⟨o, e, ho⟩ := Tot.findI (f := g_ref09_Find_2 N) (l := ms) (q := fun b => decide (b.1 = name)) (Inv := fun i x => x = ((ms, name, (i : Int), ()), ())) (Y := fun o => ∃ y, o = .inl y) (No := fun i x o => ∃ y, o = .inr (((i : Int), ()), y))
    (fun m a ha => by
      subst ha
      rw [g_ref09_Find_2_succ]
      unfold s_ref09_Find_2
      exact Tot.brD (fun h => absurd h (by dsimp only; omega)) fun _ => Tot.some ⟨_, rfl⟩)
    (fun m i a Q hi ha rec no => by
      subst ha
      rw [g_ref09_Find_2_succ]
      unfold s_ref09_Find_2
      have d0 : decide ((0 : Int) ≤ (i : Int)) = true := decide_eq_true (by omega)
      have d1 : decide ((i : Int) < ((ms.length : Nat) : Int)) = true := decide_eq_true (by omega)
      simp only [d0, d1, br_true, Int.toNat_natCast, at_lt hi, Option.bind_some, wi (i := i) (by omega)]
      refine Tot.brD (fun c => Tot.some (no (decide_eq_true c) _ ⟨_, rfl⟩)) fun c => rec (decide_eq_false c) _ rfl)
    N ((ms, name, 0, ()), ()) (by omega) rfl
  unfold G_ref09_Find S_ref09_Find plM plI
  simp only [e, Option.bind_some]
  rcases ho with ⟨h, y, rfl⟩ | ⟨i, hi, h1, h2, y, rfl⟩
  · rw [findIdx_none h]; rfl
  · rw [findIdx_at hi h1 h2]; rfl
theorem ref09_Light_tot (N : Nat) (hN : Big N) {ms : List Mach} {bs : List Bound} (h : okY ms bs) : Tot (G_ref09_Light N (ms, bs, ())) fun v => v.1 = true → ms.length ≤ 20 ∧ bs.length ≤ 40 := by
  have hN' := hN
  unfold Big at hN'
  have hml := h.ml
  have hbl := h.bl
  have loop4 : ∀ m (i : Nat) x, i ≤ ms.length → x = ((ms, bs, (i : Int), ()), ()) → ms.length - i < m → Tot (g_ref09_Light_4 N m x) fun o => (∃ y, o = .inl ((bs, ()), y)) ∨ ∃ y, o = .inr ((false, ()), y) := by
    refine Tot.range ms.length fun m i x ha hi rec => ?_
    subst ha
    rw [g_ref09_Light_4_succ]
    unfold s_ref09_Light_4
    by_cases hlt : i < ms.length
    · have d0 : decide ((0 : Int) ≤ (i : Int)) = true := decide_eq_true (by omega)
      have d1 : decide ((i : Int) < ((ms.length : Nat) : Int)) = true := decide_eq_true (by omega)
      obtain ⟨v, e, _⟩ := LightMachine_tot N hN _ (h.mm _ (List.getElem_mem hlt))
      have e : G_ref07_LightMachine N (((ms[i]).1, (ms[i]).2.1, (ms[i]).2.2.1, (ms[i]).2.2.2.1, (ms[i]).2.2.2.2.1, (ms[i]).2.2.2.2.2), ()) = _ := e
      simp only [d0, d1, br_true, Int.toNat_natCast, at_lt hlt, Option.bind_some, e, wi (i := i) (by omega)]
      exact Tot.br (fun _ => Tot.some (.inr ⟨_, rfl⟩)) fun _ => rec (i + 1) _ (by omega) (by omega) rfl
    · have d1 : decide ((i : Int) < ((ms.length : Nat) : Int)) = false := decide_eq_false (by omega)
      simp only [d1, br_false]
      exact Tot.some (.inl ⟨_, rfl⟩)
  have loop9 : ∀ m (i : Nat) x, i ≤ bs.length → x = ((bs, (i : Int), ()), ()) → bs.length - i < m → Tot (g_ref09_Light_9 N m x) fun o => (∃ y, o = .inl y) ∨ ∃ y, o = .inr ((false, ()), y) := by
    refine Tot.range bs.length fun m i x ha hi rec => ?_
    subst ha
    rw [g_ref09_Light_9_succ]
    unfold s_ref09_Light_9
    by_cases hlt : i < bs.length
    · have d0 : decide ((0 : Int) ≤ (i : Int)) = true := decide_eq_true (by omega)
      have d1 : decide ((i : Int) < ((bs.length : Nat) : Int)) = true := decide_eq_true (by omega)
      obtain ⟨v, e, _⟩ := ref07_LightPod_tot N hN (h.bb _ (List.getElem_mem hlt)).1
      generalize hb : bs[i] = b at e
      obtain ⟨⟨p1, p2, p3, p4, p5, p6, p7, p8, p9, p10, p11⟩, on⟩ := b
      simp only [d0, d1, br_true, Int.toNat_natCast, at_lt hlt, hb, Option.bind_some, e, wi (i := i) (by omega)]
      exact Tot.br (fun _ => Tot.some (.inr ⟨_, rfl⟩)) fun _ => Tot.br (fun _ => Tot.some (.inr ⟨_, rfl⟩)) fun _ => rec (i + 1) _ (by omega) (by omega) rfl
    · have d1 : decide ((i : Int) < ((bs.length : Nat) : Int)) = false := decide_eq_false (by omega)
      simp only [d1, br_false]
      exact Tot.some (.inl ⟨_, rfl⟩)
  obtain ⟨o4, g4, k4⟩ := loop4 N 0 _ (by omega) rfl (by omega)
  have g4 : g_ref09_Light_4 N N ((ms, bs, 0, ()), ()) = _ := g4
  obtain ⟨o9, g9, k9⟩ := loop9 N 0 _ (by omega) rfl (by omega)
  have g9 : g_ref09_Light_9 N N ((bs, 0, ()), ()) = _ := g9
  unfold G_ref09_Light S_ref09_Light
  simp only [g4, Option.bind_some]
  refine Tot.brD (fun _ => Tot.some fun h => by cases h) fun h1 => ?_
  refine Tot.brD (fun _ => Tot.some fun h => by cases h) fun h2 => ?_
  have h1 : ¬ (20 : Int) < ((ms.length : Nat) : Int) := h1
  have h2 : ¬ (40 : Int) < ((bs.length : Nat) : Int) := h2
  rcases k4 with ⟨y, rfl⟩ | ⟨y, rfl⟩
  · simp only [Sum.elim_inl, g9, Option.bind_some]
    rcases k9 with ⟨z, rfl⟩ | ⟨z, rfl⟩
    · exact Tot.some fun _ => ⟨by omega, by omega⟩
    · exact Tot.some fun h => by cases h
  · exact Tot.some fun h => by cases h
/-- What is known of a right yard. -/
structure facY (N : Nat) (ms : List Mach) (bs : List Bound) : Prop where
  mn : ∀ m ∈ ms, m.1 ≠ nameless ∧ rightM N m = true
  pods : ∀ b ∈ bs, facP N b.1
  mu : ∀ (i : Nat) (h : i < ms.length), plM ms ms[i].1 = some i
  bu : ∀ (i : Nat) (h : i < bs.length), plB bs bs[i].1.1 = some i
theorem plI_inj {o : Option Nat} {i : Nat} (h : plI o = (i : Int)) : o = some i := by
  unfold plI at h
  cases o with
  | none => simp only at h; omega
  | some j => simp only at h; congr 1; omega
theorem ref09_Check_tot (N : Nat) (hN : Big N) {ms : List Mach} {bs : List Bound} (h : okY ms bs) : Tot (G_ref09_Check N (ms, bs, ())) fun v => v.1 = 0 → facY N ms bs := by
  have hN' := hN
  unfold Big at hN'
  have hml := h.ml
  have hbl := h.bl
  obtain ⟨o4, g4, k4⟩ := Tot.allL (f := g_ref09_Check_4 N) (l := ms) (q := fun m => !decide (m.1 = nameless) && rightM N m) (Inv := fun i x => x = ((ms, bs, (i : Int), ()), ())) (Y := fun o => ∃ y, o = .inl ((ms, bs, ()), y)) (No := fun o => ∃ y, o = .inr ((12, ()), y))
    (fun m a ha => by
      subst ha
      rw [g_ref09_Check_4_succ]
      unfold s_ref09_Check_4
      exact Tot.brD (fun h => absurd h (by dsimp only; omega)) fun _ => Tot.some ⟨_, rfl⟩)
    (fun m i a Q hi ha rec no => by
      subst ha
      rw [g_ref09_Check_4_succ]
      unfold s_ref09_Check_4
      have d0 : decide ((0 : Int) ≤ (i : Int)) = true := decide_eq_true (by omega)
      have d1 : decide ((i : Int) < ((ms.length : Nat) : Int)) = true := decide_eq_true (by omega)
      have e := ref07_RightMachine_is N hN (h.mm _ (List.getElem_mem hi))
      have e : G_ref07_RightMachine N (((ms[i]).1, (ms[i]).2.1, (ms[i]).2.2.1, (ms[i]).2.2.2.1, (ms[i]).2.2.2.2.1, (ms[i]).2.2.2.2.2), ()) = _ := e
      simp only [d0, d1, br_true, Int.toNat_natCast, at_lt hi, Option.bind_some, e, wi (i := i) (by omega)]
      refine Tot.brD (fun c => Tot.some (no (by rw [decide_eq_true c]; rfl) _ ⟨_, rfl⟩)) fun c => ?_
      cases hr : rightM N ms[i]
      · exact Tot.some (no (by rw [hr, Bool.and_false]) _ ⟨_, rfl⟩)
      · exact rec (by rw [decide_eq_false c, hr]; rfl) _ rfl)
    N ((ms, bs, 0, ()), ()) (by omega) rfl
  have loop9 : ∀ m (i : Nat) x, i ≤ bs.length → (x = ((ms, bs, (i : Int), ()), ()) ∧ ∀ j (hj : j < bs.length), j < i → facP N bs[j].1) → bs.length - i < m → Tot (g_ref09_Check_9 N m x) fun o => ((∃ y, o = .inl ((ms, bs, ()), y)) ∧ ∀ b ∈ bs, facP N b.1) ∨ ∃ y, o = .inr ((12, ()), y) := by
    refine Tot.range bs.length fun m i x ha hi rec => ?_
    obtain ⟨rfl, ha⟩ := ha
    rw [g_ref09_Check_9_succ]
    unfold s_ref09_Check_9
    by_cases hlt : i < bs.length
    · have d0 : decide ((0 : Int) ≤ (i : Int)) = true := decide_eq_true (by omega)
      have d1 : decide ((i : Int) < ((bs.length : Nat) : Int)) = true := decide_eq_true (by omega)
      obtain ⟨v, e, hv⟩ := ref07_RightPod_tot N hN (h.bb _ (List.getElem_mem hlt)).1
      have hv' := hv
      generalize hb : bs[i] = b at e hv'
      obtain ⟨⟨p1, p2, p3, p4, p5, p6, p7, p8, p9, p10, p11⟩, on⟩ := b
      simp only [d0, d1, br_true, Int.toNat_natCast, at_lt hlt, hb, Option.bind_some, e, wi (i := i) (by omega)]
      refine Tot.br (fun _ => Tot.some (.inr ⟨_, rfl⟩)) fun c => rec (i + 1) _ (by omega) (by omega) ⟨rfl, fun j hj hji => ?_⟩
      by_cases e2 : j = i
      · subst e2; exact hv (by simpa using c)
      · exact ha j hj (by omega)
    · have d1 : decide ((i : Int) < ((bs.length : Nat) : Int)) = false := decide_eq_false (by omega)
      simp only [d1, br_false]
      refine Tot.some (.inl ⟨⟨_, rfl⟩, fun b hb => ?_⟩)
      obtain ⟨j, hj, rfl⟩ := List.mem_iff_getElem.1 hb
      exact ha j hj (by omega)
  have loop14 : ∀ m (i : Nat) x, i ≤ ms.length → (x = ((ms, bs, (i : Int), ()), ()) ∧ ∀ j (hj : j < ms.length), j < i → plM ms ms[j].1 = some j) → ms.length - i < m → Tot (g_ref09_Check_14 N m x) fun o => ((∃ y, o = .inl ((ms, bs, ()), y)) ∧ ∀ j (hj : j < ms.length), plM ms ms[j].1 = some j) ∨ ∃ y, o = .inr ((15, ()), y) := by
    refine Tot.range ms.length fun m i x ha hi rec => ?_
    obtain ⟨rfl, ha⟩ := ha
    rw [g_ref09_Check_14_succ]
    unfold s_ref09_Check_14
    by_cases hlt : i < ms.length
    · have d0 : decide ((0 : Int) ≤ (i : Int)) = true := decide_eq_true (by omega)
      have d1 : decide ((i : Int) < ((ms.length : Nat) : Int)) = true := decide_eq_true (by omega)
      simp only [d0, d1, br_true, Int.toNat_natCast, at_lt hlt, Option.bind_some, ref09_Find_is N hN hml, wi (i := i) (by omega)]
      refine Tot.br (fun _ => Tot.some (.inr ⟨_, rfl⟩)) fun c => rec (i + 1) _ (by omega) (by omega) ⟨rfl, fun j hj hji => ?_⟩
      by_cases e2 : j = i
      · subst e2; exact plI_inj (by simpa using c)
      · exact ha j hj (by omega)
    · have d1 : decide ((i : Int) < ((ms.length : Nat) : Int)) = false := decide_eq_false (by omega)
      simp only [d1, br_false]
      exact Tot.some (.inl ⟨⟨_, rfl⟩, fun j hj => ha j hj (by omega)⟩)
  have loop19 : ∀ m (i : Nat) x, i ≤ bs.length → (x = ((ms, bs, (i : Int), ()), ()) ∧ ∀ j (hj : j < bs.length), j < i → plB bs bs[j].1.1 = some j) → bs.length - i < m → Tot (g_ref09_Check_19 N m x) fun o => ((∃ y, o = .inl ((ms, bs, ()), y)) ∧ ∀ j (hj : j < bs.length), plB bs bs[j].1.1 = some j) ∨ ∃ y, o = .inr ((15, ()), y) := by
    refine Tot.range bs.length fun m i x ha hi rec => ?_
    obtain ⟨rfl, ha⟩ := ha
    rw [g_ref09_Check_19_succ]
    unfold s_ref09_Check_19
    by_cases hlt : i < bs.length
    · have d0 : decide ((0 : Int) ≤ (i : Int)) = true := decide_eq_true (by omega)
      have d1 : decide ((i : Int) < ((bs.length : Nat) : Int)) = true := decide_eq_true (by omega)
      simp only [d0, d1, br_true, Int.toNat_natCast, at_lt hlt, Option.bind_some, ref09_Place_is N hN hbl, wi (i := i) (by omega)]
      refine Tot.br (fun _ => Tot.some (.inr ⟨_, rfl⟩)) fun c => rec (i + 1) _ (by omega) (by omega) ⟨rfl, fun j hj hji => ?_⟩
      by_cases e2 : j = i
      · subst e2; exact plI_inj (by simpa using c)
      · exact ha j hj (by omega)
    · have d1 : decide ((i : Int) < ((bs.length : Nat) : Int)) = false := decide_eq_false (by omega)
      simp only [d1, br_false]
      exact Tot.some (.inl ⟨⟨_, rfl⟩, fun j hj => ha j hj (by omega)⟩)
  have loop24 : ∀ m (i : Nat) x, i ≤ bs.length → x = ((ms, bs, (i : Int), ()), ()) → bs.length - i < m → Tot (g_ref09_Check_24 N m x) fun o => (∃ y, o = .inl y) ∨ ∃ y, o = .inr ((16, ()), y) := by
    refine Tot.range bs.length fun m i x ha hi rec => ?_
    subst ha
    rw [g_ref09_Check_24_succ]
    unfold s_ref09_Check_24
    by_cases hlt : i < bs.length
    · have d0 : decide ((0 : Int) ≤ (i : Int)) = true := decide_eq_true (by omega)
      have d1 : decide ((i : Int) < ((bs.length : Nat) : Int)) = true := decide_eq_true (by omega)
      simp only [d0, d1, br_true, Int.toNat_natCast, at_lt hlt, Option.bind_some, ref09_Find_is N hN hml, wi (i := i) (by omega)]
      refine Tot.br (fun _ => ?_) fun _ => rec (i + 1) _ (by omega) (by omega) rfl
      exact Tot.br (fun _ => Tot.some (.inr ⟨_, rfl⟩)) fun _ => rec (i + 1) _ (by omega) (by omega) rfl
    · have d1 : decide ((i : Int) < ((bs.length : Nat) : Int)) = false := decide_eq_false (by omega)
      simp only [d1, br_false]
      exact Tot.some (.inl ⟨_, rfl⟩)
  obtain ⟨o9, g9, k9⟩ := loop9 N 0 _ (by omega) ⟨rfl, fun j _ h => by omega⟩ (by omega)
  have g9 : g_ref09_Check_9 N N ((ms, bs, 0, ()), ()) = _ := g9
  obtain ⟨o14, g14, k14⟩ := loop14 N 0 _ (by omega) ⟨rfl, fun j _ h => by omega⟩ (by omega)
  have g14 : g_ref09_Check_14 N N ((ms, bs, 0, ()), ()) = _ := g14
  obtain ⟨o19, g19, k19⟩ := loop19 N 0 _ (by omega) ⟨rfl, fun j _ h => by omega⟩ (by omega)
  have g19 : g_ref09_Check_19 N N ((ms, bs, 0, ()), ()) = _ := g19
  obtain ⟨o24, g24, k24⟩ := loop24 N 0 _ (by omega) rfl (by omega)
  have g24 : g_ref09_Check_24 N N ((ms, bs, 0, ()), ()) = _ := g24
  unfold G_ref09_Check S_ref09_Check
  simp only [g4, Option.bind_some]
  refine Tot.br (fun _ => Tot.some fun h => by cases h) fun _ => ?_
  refine Tot.br (fun _ => Tot.some fun h => by cases h) fun _ => ?_
  rcases k4 with ⟨hm, y, rfl⟩ | ⟨_, y, rfl⟩
  case inr => exact Tot.some fun h => by cases h
  simp only [Sum.elim_inl, g9, Option.bind_some]
  rcases k9 with ⟨⟨y, rfl⟩, hp⟩ | ⟨y, rfl⟩
  case inr => exact Tot.some fun h => by cases h
  simp only [Sum.elim_inl, g14, Option.bind_some]
  rcases k14 with ⟨⟨y, rfl⟩, hmu⟩ | ⟨y, rfl⟩
  case inr => exact Tot.some fun h => by cases h
  simp only [Sum.elim_inl, g19, Option.bind_some]
  rcases k19 with ⟨⟨y, rfl⟩, hbu⟩ | ⟨y, rfl⟩
  case inr => exact Tot.some fun h => by cases h
  simp only [Sum.elim_inl, g24, Option.bind_some]
  rcases k24 with ⟨y, rfl⟩ | ⟨y, rfl⟩
  case inr => exact Tot.some fun h => by cases h
  refine Tot.some fun _ => ⟨fun m hm' => ?_, hp, hmu, hbu⟩
  have := List.all_eq_true.1 hm m hm'
  simpa using this
theorem ref15_Light_tot (N : Nat) (hN : Big N) {l : List Budget} (hl : l.length ≤ 140737488355328 ∧ ∀ b ∈ l, okBg b) : Tot (G_ref15_Light N (l, ())) fun _ => True := by
  have hN' := hN
  unfold Big at hN'
  obtain ⟨h1, h2⟩ := hl
  have loop : ∀ m (i : Nat) x, i ≤ l.length → x = ((l, (i : Int), ()), ()) → l.length - i < m → Tot (g_ref15_Light_4 N m x) fun _ => True := by
    refine Tot.range l.length fun m i x ha hi rec => ?_
    subst ha
    rw [g_ref15_Light_4_succ]
    unfold s_ref15_Light_4
    by_cases hlt : i < l.length
    · have d0 : decide ((0 : Int) ≤ (i : Int)) = true := decide_eq_true (by omega)
      have d1 : decide ((i : Int) < ((l.length : Nat) : Int)) = true := decide_eq_true (by omega)
      obtain ⟨v, e, _⟩ := ref05_Light_tot N hN _ (h2 _ (List.getElem_mem hlt)).2
      simp only [d0, d1, br_true, Int.toNat_natCast, at_lt hlt, Option.bind_some, e, wi (i := i) (by omega)]
      repeat' first
        | exact Tot.some trivial
        | exact rec (i + 1) _ (by omega) (by omega) rfl
        | refine Tot.br (fun _ => ?_) fun _ => ?_
    · have d1 : decide ((i : Int) < ((l.length : Nat) : Int)) = false := decide_eq_false (by omega)
      simp only [d1, br_false]
      exact Tot.some trivial
  obtain ⟨o, e, _⟩ := loop N 0 _ (by omega) rfl (by omega)
  have e : g_ref15_Light_4 N N ((l, 0, ()), ()) = _ := e
  unfold G_ref15_Light S_ref15_Light
  simp only [e, Option.bind_some]
  repeat' first
    | exact Tot.some trivial
    | refine Tot.br (fun _ => ?_) fun _ => ?_
    | refine Tot.elim (fun _ _ => ?_) fun _ _ => ?_
/-- What is known of right budgets. -/
structure facB (N : Nat) (l : List Budget) : Prop where
  len : l.length ≤ 16
  num : ∀ b ∈ l, 0 ≤ b.2.2 ∧ b.2.2 ≤ 400 ∧ rightL N b.2.1 = true
theorem ref15_Right_tot (N : Nat) (hN : Big N) {l : List Budget} (hl : l.length ≤ 140737488355328 ∧ ∀ b ∈ l, okBg b) : Tot (G_ref15_Right N (l, ())) fun v => v.1 = true → facB N l := by
  have hN' := hN
  unfold Big at hN'
  obtain ⟨h1, h2⟩ := hl
  have inner : ∀ (i : Nat), i < l.length → Tot (g_ref15_Right_9 N N ((l, (i : Int), 0, ()), ())) fun o => (∃ y, o = .inl ((l, (i : Int), ()), y)) ∨ ∃ y, o = .inr ((false, ()), y) := by
    intro i hi
    have loop : ∀ m (k : Nat) x, k ≤ i → x = ((l, (i : Int), (k : Int), ()), ()) → i - k < m → Tot (g_ref15_Right_9 N m x) fun o => (∃ y, o = .inl ((l, (i : Int), ()), y)) ∨ ∃ y, o = .inr ((false, ()), y) := by
      refine Tot.range i fun m k x ha hk rec => ?_
      subst ha
      rw [g_ref15_Right_9_succ]
      unfold s_ref15_Right_9
      by_cases hlt : k < i
      · have hkl : k < l.length := by omega
        have d0 : decide ((0 : Int) ≤ (k : Int)) = true := decide_eq_true (by omega)
        have d2 : decide ((0 : Int) ≤ (i : Int)) = true := decide_eq_true (by omega)
        have d1 : decide ((k : Int) < (i : Int)) = true := decide_eq_true (by omega)
        simp only [d0, d1, d2, br_true, Int.toNat_natCast, at_lt hkl, at_lt hi, Option.bind_some, wi (i := k) (by omega)]
        exact Tot.br (fun _ => Tot.some (.inr ⟨_, rfl⟩)) fun _ => rec (k + 1) _ (by omega) (by omega) rfl
      · have d1 : decide ((k : Int) < (i : Int)) = false := decide_eq_false (by omega)
        simp only [d1, br_false]
        exact Tot.some (.inl ⟨_, rfl⟩)
    exact loop N 0 _ (by omega) rfl (by omega)
  have loop : ∀ m (i : Nat) x, i ≤ l.length → (x = ((l, (i : Int), ()), ()) ∧ ∀ j (hj : j < l.length), j < i → 0 ≤ l[j].2.2 ∧ l[j].2.2 ≤ 400 ∧ rightL N l[j].2.1 = true) → l.length - i < m → Tot (g_ref15_Right_4 N m x) fun o => ((∃ y, o = .inl y) ∧ ∀ b ∈ l, 0 ≤ b.2.2 ∧ b.2.2 ≤ 400 ∧ rightL N b.2.1 = true) ∨ ∃ y, o = .inr ((false, ()), y) := by
    refine Tot.range l.length fun m i x ha hi rec => ?_
    obtain ⟨rfl, ha⟩ := ha
    rw [g_ref15_Right_4_succ]
    unfold s_ref15_Right_4
    by_cases hlt : i < l.length
    · have d0 : decide ((0 : Int) ≤ (i : Int)) = true := decide_eq_true (by omega)
      have d1 : decide ((i : Int) < ((l.length : Nat) : Int)) = true := decide_eq_true (by omega)
      have hm := h2 _ (List.getElem_mem hlt)
      obtain ⟨o, e, ho⟩ := inner i hlt
      simp only [d0, d1, br_true, Int.toNat_natCast, at_lt hlt, Option.bind_some, ref01_Word_is hN hm.1, ref05_Right_is N hN hm.2, e]
      refine Tot.br (fun _ => Tot.some (.inr ⟨_, rfl⟩)) fun _ => ?_
      refine Tot.br (fun _ => Tot.some (.inr ⟨_, rfl⟩)) fun _ => ?_
      refine Tot.br (fun _ => Tot.some (.inr ⟨_, rfl⟩)) fun hr => ?_
      refine Tot.brD (fun _ => Tot.some (.inr ⟨_, rfl⟩)) fun c1 => ?_
      refine Tot.brD (fun _ => Tot.some (.inr ⟨_, rfl⟩)) fun c2 => ?_
      rcases ho with ⟨y, rfl⟩ | ⟨y, rfl⟩
      · simp only [Sum.elim_inl, wi (i := i) (show i < 4611686018427387904 by omega)]
        refine rec (i + 1) _ (by omega) (by omega) ⟨rfl, fun j hj hji => ?_⟩
        by_cases e2 : j = i
        · subst e2; exact ⟨by omega, by omega, by simpa using hr⟩
        · exact ha j hj (by omega)
      · exact Tot.some (.inr ⟨_, rfl⟩)
    · have d1 : decide ((i : Int) < ((l.length : Nat) : Int)) = false := decide_eq_false (by omega)
      simp only [d1, br_false]
      refine Tot.some (.inl ⟨⟨_, rfl⟩, fun b hb => ?_⟩)
      obtain ⟨j, hj, rfl⟩ := List.mem_iff_getElem.1 hb
      exact ha j hj (by omega)
  obtain ⟨o, e, ho⟩ := loop N 0 _ (by omega) ⟨rfl, fun j _ h => by omega⟩ (by omega)
  have e : g_ref15_Right_4 N N ((l, 0, ()), ()) = _ := e
  unfold G_ref15_Right S_ref15_Right
  simp only [e, Option.bind_some]
  refine Tot.brD (fun _ => Tot.some fun h => by cases h) fun hlen => ?_
  rcases ho with ⟨⟨y, rfl⟩, hb⟩ | ⟨y, rfl⟩
  · exact Tot.some fun _ => ⟨by have hlen : ¬ (16 : Int) < ((l.length : Nat) : Int) := hlen; omega, hb⟩
  · exact Tot.some fun h => by cases h
theorem law25_right_tot (N : Nat) (hN : Big N) {ms : List Mach} {bs : List Bound} {l : List Budget} (h : okY ms bs) (hl : l.length ≤ 140737488355328 ∧ ∀ b ∈ l, okBg b) : Tot (G_law25_right N (ms, bs, l, ())) fun v => v.1 = true → (ms.length ≤ 20 ∧ bs.length ≤ 40) ∧ facY N ms bs ∧ facB N l := by
  obtain ⟨⟨b1, ⟨⟩⟩, e1, k1⟩ := ref09_Light_tot N hN h
  obtain ⟨⟨b2, ⟨⟩⟩, e2, _⟩ := ref15_Light_tot N hN hl
  obtain ⟨⟨b3, ⟨⟩⟩, e3, k3⟩ := ref09_Check_tot N hN h
  obtain ⟨⟨b4, ⟨⟩⟩, e4, k4⟩ := ref15_Right_tot N hN hl
  unfold G_law25_right S_law25_right
  simp only [e1, e2, e3, e4, Option.bind_some]
  cases b1
  · exact Tot.some fun h => by cases h
  cases b2
  · exact Tot.some fun h => by cases h
  simp only [br_true]
  refine Tot.brD (fun c => ?_) fun _ => Tot.some fun h => by cases h
  exact Tot.some fun h => ⟨k1 rfl, k3 c, k4 h⟩
end Go.Proofs.Ytncfllndmjjljaa.Bt
