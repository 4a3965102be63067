/- What is right: taints, resources, machines, groups: the functions and the document's words tell the same. -/
import Derived.Test.YtiiiipdnodgkmaaRgtGf
namespace Go.Proofs.Ytiiiipdnodgkmaa.Gf
open Go Go.VI
set_option linter.unusedVariables false
set_option linter.unusedSimpArgs false
set_option maxRecDepth 100000

/-! Taints -/
def twin (v y : ByteArray × ByteArray × Int) : Bool := decide (y.1 = v.1) && decide (y.2.2 = v.2.2)
def okTai (N : Nat) (l : Taints) (i : Nat) : Bool := match l[i]? with
  | some v => ((wordB N v.1 && maybeB N v.2.1) && decide (1 ≤ v.2.2 ∧ v.2.2 ≤ 3)) && (l.take i).all (fun y => !twin v y)
  | none => false
def rightT (N : Nat) (l : Taints) : Bool := decide (l.length ≤ 16) && allN (okTai N l) 0 l.length
theorem taints_known_is (N : Nat) (n : Int) : G_taints_known N (n, ()) = some (decide (1 ≤ n ∧ n ≤ 3), ()) := by
  unfold G_taints_known S_taints_known
  by_cases h1 : n = 1
  · subst h1; rfl
  · by_cases h2 : n = 2
    · subst h2; rfl
    · simp only [decide_eq_false h1, decide_eq_false h2, br_false]
      congr 2; rw [decide_eq_decide]; omega
theorem ref06_effect_is (N : Nat) (n : Int) : G_ref06_effect N (n, ()) = some (decide (1 ≤ n ∧ n ≤ 3), ()) := by
  unfold G_ref06_effect S_ref06_effect
  by_cases h1 : 1 ≤ n
  · simp only [decide_eq_true h1, br_true]
    congr 2; rw [decide_eq_decide]; omega
  · simp only [decide_eq_false h1, br_false]
    congr 2; symm; rw [decide_eq_false_iff_not]; omega
theorem ref06_Right_is (N : Nat) (hN : Big N) {l : Taints} (hl : okT l) : G_ref06_Right N (l, ()) = some (rightT N l, ()) := by
  have hN' := hN
  unfold Big at hN'; obtain ⟨h1, h2⟩ := hl
  have inner : ∀ k (hk : k < l.length), Tot (g_ref06_Right_9 N N ((l, (k : Int), 0, ()), ())) fun o => if (l.take k).all (fun y => !twin l[k] y) = true then o = .inl ((l, (k : Int), ()), ()) else ∃ y, o = .inr ((false, ()), y) := by
    intro k hk
    have := Tot.all (f := g_ref06_Right_9 N) (Inv := fun i x => x = ((l, (k : Int), (i : Int), ()), ())) (Y := fun o => o = .inl ((l, (k : Int), ()), ())) (No := fun o => ∃ y, o = .inr ((false, ()), y)) k (atP (fun y => !twin l[k] y) l)
      (fun m a ha => by
        subst ha
        rw [g_ref06_Right_9_succ]
        unfold s_ref06_Right_9
        exact Tot.brD (fun h => absurd h (by dsimp only; omega)) fun _ => Tot.some rfl)
      (fun m i a Q ha hi rec no => by
        subst ha
        rw [g_ref06_Right_9_succ]
        unfold s_ref06_Right_9
        have d0 : decide ((0 : Int) ≤ (i : Int)) = true := decide_eq_true (by omega)
        have d0' : decide ((0 : Int) ≤ (k : Int)) = true := decide_eq_true (by omega)
        have d1 : decide ((i : Int) < (k : Int)) = true := decide_eq_true (by omega)
        have hi' : i < l.length := by omega
        simp only [d0, d0', d1, br_true, Int.toNat_natCast, at_lt hi', at_lt hk, Option.bind_some, wi (i := i) (by omega)]
        simp only [atP_lt hi', twin] at rec no
        by_cases e1 : l[i].1 = l[k].1
        · by_cases e2 : l[i].2.2 = l[k].2.2
          · simp only [decide_eq_true e1, decide_eq_true e2, br_true]
            exact Tot.some (no (by simp [e1, e2]) _ ⟨_, rfl⟩)
          · simp only [decide_eq_true e1, decide_eq_false e2, br_true, br_false]
            exact rec (by simp [e1, e2]) _ rfl
        · simp only [decide_eq_false e1, br_false]
          exact rec (by simp [e1]) _ rfl)
      N 0 ((l, (k : Int), 0, ()), ()) (by omega) rfl (by omega)
    rw [Nat.sub_zero, all_take (by omega)] at this
    exact this
  have loop := Tot.all (f := g_ref06_Right_4 N) (Inv := fun i x => x = ((l, (i : Int), ()), ())) (Y := fun o => ∃ y, o = .inl y) (No := fun o => ∃ y, o = .inr ((false, ()), y)) l.length (okTai N l)
    (fun m a ha => by
      subst ha
      rw [g_ref06_Right_4_succ]
      unfold s_ref06_Right_4
      exact Tot.brD (fun h => absurd h (by dsimp only; omega)) fun _ => Tot.some ⟨_, rfl⟩)
    (fun m i a Q ha hi rec no => by
      subst ha
      rw [g_ref06_Right_4_succ]
      unfold s_ref06_Right_4
      have hm : l[i] ∈ l := List.getElem_mem hi
      have d0 : decide ((0 : Int) ≤ (i : Int)) = true := decide_eq_true (by omega)
      have d1 : decide ((i : Int) < ((l.length : Nat) : Int)) = true := decide_eq_true (by omega)
      simp only [d0, d1, br_true, Int.toNat_natCast, at_lt hi, Option.bind_some, ref01_Word_is hN (h2 _ hm).1, ref06_maybe_is hN (h2 _ hm).2, ref06_effect_is]
      have hok : okTai N l i = (((wordB N l[i].1 && maybeB N l[i].2.1) && decide (1 ≤ l[i].2.2 ∧ l[i].2.2 ≤ 3)) && (l.take i).all (fun y => !twin l[i] y)) := by unfold okTai; rw [at_lt hi]
      cases hw : wordB N l[i].1
      · rw [hw] at hok
        exact Tot.some (no (by rw [hok]; rfl) _ ⟨_, rfl⟩)
      cases hv : maybeB N l[i].2.1
      · rw [hw, hv] at hok
        exact Tot.some (no (by rw [hok]; rfl) _ ⟨_, rfl⟩)
      cases he : decide (1 ≤ l[i].2.2 ∧ l[i].2.2 ≤ 3)
      · rw [hw, hv, he] at hok
        exact Tot.some (no (by rw [hok]; rfl) _ ⟨_, rfl⟩)
      rw [hw, hv, he] at hok
      simp only [Bool.not_true, br_false]
      refine Tot.bind (inner i hi) fun v hv => ?_
      cases ha : (l.take i).all (fun y => !twin l[i] y)
      · rw [ha] at hok hv
        rw [if_neg (by decide)] at hv
        obtain ⟨y, rfl⟩ := hv
        exact Tot.some (no (by rw [hok]; rfl) _ ⟨_, rfl⟩)
      · rw [ha] at hok hv
        rw [if_pos rfl] at hv
        subst hv
        simp only [Sum.elim_inl, wi (i := i) (by omega)]
        exact rec (by rw [hok]; rfl) _ rfl)
    N 0 ((l, 0, ()), ()) (by omega) rfl (by omega)
  obtain ⟨o, e, ho⟩ := loop
  unfold G_ref06_Right S_ref06_Right rightT
  simp only [e, Option.bind_some]
  by_cases h : l.length ≤ 16
  · have d1 : decide ((16 : Int) < ((l.length : Nat) : Int)) = false := decide_eq_false (by omega)
    simp only [d1, br_false, decide_eq_true h, Bool.true_and]
    rw [Nat.sub_zero] at ho
    split at ho
    · rename_i hy; obtain ⟨y, rfl⟩ := ho; rw [hy]; rfl
    · rename_i hy; obtain ⟨y, rfl⟩ := ho; rw [Bool.not_eq_true] at hy; rw [hy]; rfl
  · have d1 : decide ((16 : Int) < ((l.length : Nat) : Int)) = true := decide_eq_true (by omega)
    simp only [d1, br_true, decide_eq_false h, Bool.false_and]

theorem taints_Right_is (N : Nat) (hN : Big N) {l : Taints} (hl : okT l) : G_taints_Right N (l, ()) = some (rightT N l, ()) := by
  have hN' := hN
  unfold Big at hN'; obtain ⟨h1, h2⟩ := hl
  have inner : ∀ k (hk : k < l.length), Tot (g_taints_Right_7 N N ((l, l, (l.length : Int), (k : Int), l.take k, (((l.take k).length : Nat) : Int), 0, ()), (l[k], ()), ())) fun o => if (l.take k).all (fun y => !twin l[k] y) = true then ∃ y, o = .inl ((l, l, (l.length : Int), (k : Int), ()), y) else ∃ y, o = .inr ((false, ()), y) := by
    intro k hk
    have hlen : (l.take k).length = k := by rw [List.length_take]; omega
    have := Tot.all (f := g_taints_Right_7 N) (Inv := fun i x => x = ((l, l, (l.length : Int), (k : Int), l.take k, (k : Int), (i : Int), ()), (l[k], ()), ())) (Y := fun o => ∃ y, o = .inl ((l, l, (l.length : Int), (k : Int), ()), y)) (No := fun o => ∃ y, o = .inr ((false, ()), y)) k (atP (fun y => !twin l[k] y) l)
      (fun m a ha => by
        subst ha
        rw [g_taints_Right_7_succ]
        unfold s_taints_Right_7
        exact Tot.brD (fun h => absurd h (by dsimp only; omega)) fun _ => Tot.some ⟨_, rfl⟩)
      (fun m i a Q ha hi rec no => by
        subst ha
        rw [g_taints_Right_7_succ]
        unfold s_taints_Right_7
        have d0 : decide ((0 : Int) ≤ (i : Int)) = true := decide_eq_true (by omega)
        have d1 : decide ((i : Int) < (k : Int)) = true := decide_eq_true (by omega)
        have hi' : i < l.length := by omega
        have hg : (l.take k)[i]? = some l[i] := by rw [List.getElem?_take_of_lt hi]; exact at_lt hi'
        simp only [d0, d1, br_true, Int.toNat_natCast, hg, Option.bind_some, wi (i := i) (by omega), G_taints_like, S_taints_like, decide_true, Bool.true_and, Bool.and_true]
        simp only [atP_lt hi', twin] at rec no
        by_cases e1 : l[i].1 = l[k].1
        · by_cases e2 : l[i].2.2 = l[k].2.2
          · simp only [decide_eq_true e1.symm, decide_eq_true e2.symm, Bool.and_true, br_true]
            exact Tot.some (no (by simp [e1, e2]) _ ⟨_, rfl⟩)
          · simp only [decide_eq_true e1.symm, decide_eq_false (Ne.symm e2), Bool.and_false, br_false]
            exact rec (by simp [e1, e2]) _ rfl
        · simp only [decide_eq_false (Ne.symm e1), Bool.false_and, br_false]
          exact rec (by simp [e1]) _ rfl)
      N 0 ((l, l, (l.length : Int), (k : Int), l.take k, (k : Int), 0, ()), (l[k], ()), ()) (by omega) rfl (by omega)
    rw [Nat.sub_zero, all_take (by omega)] at this
    rw [hlen]
    exact this
  have loop := Tot.all (f := g_taints_Right_2 N) (Inv := fun i x => x = ((l, l, (l.length : Int), (i : Int), ()), ())) (Y := fun o => ∃ y, o = .inl ((l, ()), y)) (No := fun o => ∃ y, o = .inr ((false, ()), y)) l.length (okTai N l)
    (fun m a ha => by
      subst ha
      rw [g_taints_Right_2_succ]
      unfold s_taints_Right_2
      exact Tot.brD (fun h => absurd h (by dsimp only; omega)) fun _ => Tot.some ⟨_, rfl⟩)
    (fun m i a Q ha hi rec no => by
      subst ha
      rw [g_taints_Right_2_succ]
      unfold s_taints_Right_2
      have hm : l[i] ∈ l := List.getElem_mem hi
      have d0 : decide ((0 : Int) ≤ (i : Int)) = true := decide_eq_true (by omega)
      have d1 : decide ((i : Int) < ((l.length : Nat) : Int)) = true := decide_eq_true (by omega)
      have d2 : decide ((i : Int) ≤ ((l.length : Nat) : Int)) = true := decide_eq_true (by omega)
      simp only [d0, d1, d2, br_true, Bool.and_true, Int.toNat_natCast, at_lt hi, Option.bind_some, lex_Word_is hN (h2 _ hm).1, taints_maybe_is hN (h2 _ hm).2, taints_known_is]
      have hok : okTai N l i = (((wordB N l[i].1 && maybeB N l[i].2.1) && decide (1 ≤ l[i].2.2 ∧ l[i].2.2 ≤ 3)) && (l.take i).all (fun y => !twin l[i] y)) := by unfold okTai; rw [at_lt hi]
      cases hw : wordB N l[i].1
      · rw [hw] at hok
        exact Tot.some (no (by rw [hok]; rfl) _ ⟨_, rfl⟩)
      cases hv : maybeB N l[i].2.1
      · rw [hw, hv] at hok
        exact Tot.some (no (by rw [hok]; rfl) _ ⟨_, rfl⟩)
      cases he : decide (1 ≤ l[i].2.2 ∧ l[i].2.2 ≤ 3)
      · rw [hw, hv, he] at hok
        exact Tot.some (no (by rw [hok]; rfl) _ ⟨_, rfl⟩)
      rw [hw, hv, he] at hok
      simp only [Bool.not_true, br_false]
      refine Tot.bind (inner i hi) fun v hv => ?_
      cases ha : (l.take i).all (fun y => !twin l[i] y)
      · rw [ha] at hok hv
        rw [if_neg (by decide)] at hv
        obtain ⟨y, rfl⟩ := hv
        exact Tot.some (no (by rw [hok]; rfl) _ ⟨_, rfl⟩)
      · rw [ha] at hok hv
        rw [if_pos rfl] at hv
        obtain ⟨y, rfl⟩ := hv
        simp only [Sum.elim_inl, wi (i := i) (by omega)]
        exact rec (by rw [hok]; rfl) _ rfl)
    N 0 ((l, l, (l.length : Int), 0, ()), ()) (by omega) rfl (by omega)
  obtain ⟨o, e, ho⟩ := loop
  unfold G_taints_Right S_taints_Right rightT
  simp only [e, Option.bind_some]
  rw [Nat.sub_zero] at ho
  split at ho
  · rename_i hy; obtain ⟨y, rfl⟩ := ho; rw [hy, Bool.and_true]
    show some (decide (((l.length : Nat) : Int) ≤ 16), ()) = _
    congr 2; rw [decide_eq_decide]; omega
  · rename_i hy; obtain ⟨y, rfl⟩ := ho; rw [Bool.not_eq_true] at hy; rw [hy, Bool.and_false]; rfl

/-! Resources, machines -/
def okB (n : Int) : Bool := decide (0 ≤ n ∧ n ≤ 1125899906842624)
def resB (r : Res) : Bool := okB r.1 && (okB r.2.1 && (okB r.2.2.1 && (okB r.2.2.2.1 && okB r.2.2.2.2)))
theorem ref04_one_is (N : Nat) (n : Int) : G_ref04_one N (n, ()) = some (okB n, ()) := by
  unfold G_ref04_one S_ref04_one okB
  by_cases h : 0 ≤ n <;> simp [h, br]
theorem ref04_Right_is (N : Nat) (r : Res) : G_ref04_Right N (r, ()) = some (resB r, ()) := by
  unfold G_ref04_Right S_ref04_Right resB
  simp only [ref04_one_is, Option.bind_some]
  cases okB r.1 <;> cases okB r.2.1 <;> cases okB r.2.2.1 <;> cases okB r.2.2.2.1 <;> rfl
theorem two_br {a : Int} {x : Option (Bool × Unit)} : VI.br (decide (a < 0)) (some (false, ())) (VI.br (decide (1125899906842624 < a)) (some (false, ())) x) = VI.br (okB a) x (some (false, ())) := by
  unfold okB
  by_cases h : a < 0
  · have h' : ¬ (0 ≤ a ∧ a ≤ 1125899906842624) := by omega
    rw [decide_eq_true h, decide_eq_false h']; rfl
  · rw [decide_eq_false h, br_false]
    by_cases h' : 1125899906842624 < a
    · have h'' : ¬ (0 ≤ a ∧ a ≤ 1125899906842624) := by omega
      rw [decide_eq_true h', decide_eq_false h'']; rfl
    · have h'' : 0 ≤ a ∧ a ≤ 1125899906842624 := by omega
      rw [decide_eq_false h', decide_eq_true h'']; rfl
theorem res_Right_is (N : Nat) (r : Res) : G_res_Right N (r, ()) = some (resB r, ()) := by
  unfold G_res_Right S_res_Right resB
  simp only [G_res_row, S_res_row, Option.bind_some, two_br]
  cases okB r.1 <;> cases okB r.2.1 <;> cases okB r.2.2.1 <;> cases okB r.2.2.2.1 <;> cases okB r.2.2.2.2 <;> rfl

def rightM (N : Nat) (m : Mach) : Bool := maybeB N m.1 && (maybeB N m.2.1 && (resB m.2.2.1 && (rightL N m.2.2.2.1 && rightT N m.2.2.2.2.1)))
theorem and5 {a b c d e : Bool} : VI.br a (VI.br b (VI.br c (VI.br d (some (e, ())) (some (false, ()))) (some (false, ()))) (some (false, ()))) (some (false, ())) = some (a && (b && (c && (d && e))), ()) := by
  cases a <;> cases b <;> cases c <;> cases d <;> rfl
theorem spec_RightMachine_is (N : Nat) (hN : Big N) {m : Mach} (hm : okM m) : G_spec_RightMachine N (m, ()) = some (rightM N m, ()) := by
  obtain ⟨h1, h2, h3, h4⟩ := hm
  unfold G_spec_RightMachine S_spec_RightMachine rightM
  simp only [spec_maybe_is hN h1, spec_maybe_is hN h2, res_Right_is, labels_Right_is N hN h3, taints_Right_is N hN h4, Option.bind_some]
  exact and5
theorem ref07_RightMachine_is (N : Nat) (hN : Big N) {m : Mach} (hm : okM m) : G_ref07_RightMachine N (m, ()) = some (rightM N m, ()) := by
  obtain ⟨h1, h2, h3, h4⟩ := hm
  unfold G_ref07_RightMachine S_ref07_RightMachine rightM
  simp only [ref07_maybe_is hN h1, ref07_maybe_is hN h2, ref04_Right_is, ref05_Right_is N hN h3, ref06_Right_is N hN h4, Option.bind_some]
  exact and5

/-! Groups -/
abbrev Grp := ByteArray × Int × Int × Mach × Int × Int
def okG (g : Grp) : Prop := okS g.1 ∧ okM g.2.2.2.1
def inB (n lo hi : Int) : Bool := decide (lo ≤ n ∧ n ≤ hi)
theorem spec_between_is (N : Nat) (n lo hi : Int) : G_spec_between N (n, lo, hi, ()) = some (inB n lo hi, ()) := by
  unfold G_spec_between S_spec_between inB
  by_cases h : lo ≤ n <;> simp [h, br]
theorem ref07_in_is (N : Nat) (n lo hi : Int) : G_ref07_in N (n, lo, hi, ()) = some (inB n lo hi, ()) := by
  unfold G_ref07_in S_ref07_in inB
  by_cases h : lo ≤ n <;> simp [h, br]
def rightG (N : Nat) (g : Grp) : Bool := wordB N g.1 && (inB g.2.2.1 1 200 && (inB g.2.1 0 g.2.2.1 && (inB g.2.2.2.2.1 0 1125899906842624 && (inB g.2.2.2.2.2 0 1000 && (rightM N g.2.2.2.1 &&
  (decide (g.2.2.2.1.1 = nameless) && (decide (g.2.2.2.1.2.1 = g.1) && g.2.2.2.1.2.2.2.2.2)))))))
theorem spec_RightGroup_is (N : Nat) (hN : Big N) {g : Grp} (hg : okG g) : G_spec_RightGroup N (g, ()) = some (rightG N g, ()) := by
  obtain ⟨h1, h2⟩ := hg
  unfold G_spec_RightGroup S_spec_RightGroup rightG
  simp only [lex_Word_is hN h1, spec_between_is, spec_RightMachine_is N hN h2, Option.bind_some]
  cases wordB N g.1 <;> cases inB g.2.2.1 1 200 <;> cases inB g.2.1 0 g.2.2.1 <;> cases inB g.2.2.2.2.1 0 1125899906842624 <;> cases inB g.2.2.2.2.2 0 1000 <;> cases rightM N g.2.2.2.1 <;> cases decide (g.2.2.2.1.1 = nameless) <;> cases decide (g.2.2.2.1.2.1 = g.1) <;> cases g.2.2.2.1.2.2.2.2.2 <;> rfl
theorem ref07_RightGroup_is (N : Nat) (hN : Big N) {g : Grp} (hg : okG g) : G_ref07_RightGroup N (g, ()) = some (rightG N g, ()) := by
  obtain ⟨h1, h2⟩ := hg
  unfold G_ref07_RightGroup S_ref07_RightGroup rightG
  simp only [ref01_Word_is hN h1, ref07_in_is, ref07_RightMachine_is N hN h2, Option.bind_some]
  cases wordB N g.1 <;> cases inB g.2.2.1 1 200 <;> cases inB g.2.1 0 g.2.2.1 <;> cases inB g.2.2.2.2.1 0 1125899906842624 <;> cases inB g.2.2.2.2.2 0 1000 <;> cases rightM N g.2.2.2.1 <;> cases decide (g.2.2.2.1.1 = nameless) <;> cases decide (g.2.2.2.1.2.1 = g.1) <;> rfl

/-- A group's place. -/
def fndF (name : ByteArray) : List Grp → Nat → Int
  | [], _ => -1
  | g :: l, i => if g.1 = name then (i : Int) else fndF name l (i + 1)
def fnd (l : List Grp) (name : ByteArray) : Int := fndF name l 0
def okGs (l : List Grp) : Prop := l.length ≤ 140737488355328 ∧ ∀ g ∈ l, okG g
theorem group_Find_is (N : Nat) (hN : Big N) {l : List Grp} (hl : l.length ≤ 140737488355328) (name : ByteArray) : G_group_Find N (l, name, ()) = some (fnd l name, ()) := by
  unfold Big at hN
  have loop : ∀ m (i : Nat) x, i ≤ l.length → x = ((name, l, (l.length : Int), (i : Int), ()), ()) → l.length - i < m → Tot (g_group_Find_2 N m x) fun o => fndF name (l.drop i) i = Sum.elim (fun _ => -1) (fun v => v.1.1) o := by
    refine Tot.rangeI (Q := fun i (o : (Unit × Unit) ⊕ ((Int × Unit) × Unit)) => fndF name (l.drop i) i = Sum.elim (fun _ => -1) (fun v => v.1.1) o) l.length fun m i x ha hi rec => ?_
    subst ha
    rw [g_group_Find_2_succ]
    unfold s_group_Find_2
    by_cases hlt : i < l.length
    · have d0 : decide ((0 : Int) ≤ (i : Int)) = true := decide_eq_true (by omega)
      have d1 : decide ((i : Int) < ((l.length : Nat) : Int)) = true := decide_eq_true (by omega)
      simp only [d0, d1, br_true, Int.toNat_natCast, at_lt hlt, Option.bind_some, wi (i := i) (by omega)]
      rw [List.drop_eq_getElem_cons hlt]
      simp only [fndF]
      by_cases e : l[i].1 = name
      · rw [decide_eq_true e, if_pos e]; exact Tot.some rfl
      · rw [decide_eq_false e, if_neg e]; exact rec (i + 1) _ (by omega) (by omega) rfl
    · have d1 : decide ((i : Int) < ((l.length : Nat) : Int)) = false := decide_eq_false (by omega)
      simp only [d1, br_false]
      rw [List.drop_eq_nil_of_le (by omega)]
      exact Tot.some rfl
  obtain ⟨o, e, ho⟩ := loop N 0 ((name, l, (l.length : Int), 0, ()), ()) (by omega) rfl (by omega)
  unfold G_group_Find S_group_Find fnd
  simp only [e, Option.bind_some]
  rw [List.drop_zero] at ho
  rw [ho]; cases o <;> rfl
theorem ref16_Find_is (N : Nat) (hN : Big N) {l : List Grp} (hl : l.length ≤ 140737488355328) (name : ByteArray) : G_ref16_Find N (l, name, ()) = some (fnd l name, ()) := by
  unfold Big at hN
  have loop : ∀ m (i : Nat) x, i ≤ l.length → x = ((l, name, (i : Int), ()), ()) → l.length - i < m → Tot (g_ref16_Find_2 N m x) fun o => fndF name (l.drop i) i = Sum.elim (fun _ => -1) (fun v => v.1.1) o := by
    refine Tot.rangeI (Q := fun i (o : (Unit × Unit) ⊕ ((Int × Unit) × Unit)) => fndF name (l.drop i) i = Sum.elim (fun _ => -1) (fun v => v.1.1) o) l.length fun m i x ha hi rec => ?_
    subst ha
    rw [g_ref16_Find_2_succ]
    unfold s_ref16_Find_2
    by_cases hlt : i < l.length
    · have d0 : decide ((0 : Int) ≤ (i : Int)) = true := decide_eq_true (by omega)
      have d1 : decide ((i : Int) < ((l.length : Nat) : Int)) = true := decide_eq_true (by omega)
      simp only [d0, d1, br_true, Int.toNat_natCast, at_lt hlt, Option.bind_some, wi (i := i) (by omega)]
      rw [List.drop_eq_getElem_cons hlt]
      simp only [fndF]
      by_cases e : l[i].1 = name
      · rw [decide_eq_true e, if_pos e]; exact Tot.some rfl
      · rw [decide_eq_false e, if_neg e]; exact rec (i + 1) _ (by omega) (by omega) rfl
    · have d1 : decide ((i : Int) < ((l.length : Nat) : Int)) = false := decide_eq_false (by omega)
      simp only [d1, br_false]
      rw [List.drop_eq_nil_of_le (by omega)]
      exact Tot.some rfl
  obtain ⟨o, e, ho⟩ := loop N 0 ((l, name, 0, ()), ()) (by omega) rfl (by omega)
  unfold G_ref16_Find S_ref16_Find fnd
  simp only [e, Option.bind_some]
  rw [List.drop_zero] at ho
  rw [ho]; cases o <;> rfl

def okGr (N : Nat) (l : List Grp) (i : Nat) : Bool := match l[i]? with
  | some g => rightG N g && (decide (g.1.size ≤ 48) && decide (fnd l g.1 = (i : Int)))
  | none => false
def rightGs (N : Nat) (l : List Grp) : Bool := decide (l.length ≤ 16) && allN (okGr N l) 0 l.length
theorem group_Right_is (N : Nat) (hN : Big N) {l : List Grp} (hl : okGs l) : G_group_Right N (l, ()) = some (rightGs N l, ()) := by
  have hN' := hN
  unfold Big at hN'; obtain ⟨h1, h2⟩ := hl
  have loop := Tot.all (f := g_group_Right_2 N) (Inv := fun i x => x = ((l, l, (l.length : Int), (i : Int), ()), ())) (Y := fun o => ∃ y, o = .inl ((l, ()), y)) (No := fun o => ∃ y, o = .inr ((false, ()), y)) l.length (okGr N l)
    (fun m a ha => by
      subst ha
      rw [g_group_Right_2_succ]
      unfold s_group_Right_2
      exact Tot.brD (fun h => absurd h (by dsimp only; omega)) fun _ => Tot.some ⟨_, rfl⟩)
    (fun m i a Q ha hi rec no => by
      subst ha
      rw [g_group_Right_2_succ]
      unfold s_group_Right_2
      have hm : l[i] ∈ l := List.getElem_mem hi
      have d0 : decide ((0 : Int) ≤ (i : Int)) = true := decide_eq_true (by omega)
      have d1 : decide ((i : Int) < ((l.length : Nat) : Int)) = true := decide_eq_true (by omega)
      have hG := spec_RightGroup_is N hN (h2 _ hm)
      have hF := group_Find_is N hN h1 l[i].1
      simp only [d0, d1, br_true, Int.toNat_natCast, at_lt hi, Option.bind_some, hG, hF, wi (i := i) (by omega)]
      have hok : okGr N l i = (rightG N l[i] && (decide (l[i].1.size ≤ 48) && decide (fnd l l[i].1 = (i : Int)))) := by unfold okGr; rw [at_lt hi]
      cases hw : rightG N l[i]
      · rw [hw] at hok
        exact Tot.some (no (by rw [hok]; rfl) _ ⟨_, rfl⟩)
      rw [hw] at hok
      by_cases hz : l[i].1.size ≤ 48
      · have d2 : decide ((48 : Int) < ((l[i].1.size : Nat) : Int)) = false := decide_eq_false (by omega)
        rw [decide_eq_true hz] at hok
        simp only [d2, Bool.not_true, br_false]
        by_cases hf : fnd l l[i].1 = (i : Int)
        · rw [decide_eq_true hf] at hok
          simp only [decide_eq_true hf, Bool.not_true, br_false]
          exact rec (by rw [hok]; rfl) _ rfl
        · rw [decide_eq_false hf] at hok
          simp only [decide_eq_false hf, Bool.not_false, br_true]
          exact Tot.some (no (by rw [hok]; rfl) _ ⟨_, rfl⟩)
      · have d2 : decide ((48 : Int) < ((l[i].1.size : Nat) : Int)) = true := decide_eq_true (by omega)
        rw [decide_eq_false hz] at hok
        simp only [d2, Bool.not_true, br_false, br_true]
        exact Tot.some (no (by rw [hok]; rfl) _ ⟨_, rfl⟩))
    N 0 ((l, l, (l.length : Int), 0, ()), ()) (by omega) rfl (by omega)
  obtain ⟨o, e, ho⟩ := loop
  unfold G_group_Right S_group_Right rightGs
  simp only [e, Option.bind_some]
  rw [Nat.sub_zero] at ho
  split at ho
  · rename_i hy; obtain ⟨y, rfl⟩ := ho; rw [hy, Bool.and_true]
    show some (decide (((l.length : Nat) : Int) ≤ 16), ()) = _
    congr 2; rw [decide_eq_decide]; omega
  · rename_i hy; obtain ⟨y, rfl⟩ := ho; rw [Bool.not_eq_true] at hy; rw [hy, Bool.and_false]; rfl
theorem ref16_Right_is (N : Nat) (hN : Big N) {l : List Grp} (hl : okGs l) : G_ref16_Right N (l, ()) = some (rightGs N l, ()) := by
  have hN' := hN
  unfold Big at hN'; obtain ⟨h1, h2⟩ := hl
  have loop := Tot.all (f := g_ref16_Right_4 N) (Inv := fun i x => x = ((l, (i : Int), ()), ())) (Y := fun o => ∃ y, o = .inl y) (No := fun o => ∃ y, o = .inr ((false, ()), y)) l.length (okGr N l)
    (fun m a ha => by
      subst ha
      rw [g_ref16_Right_4_succ]
      unfold s_ref16_Right_4
      exact Tot.brD (fun h => absurd h (by dsimp only; omega)) fun _ => Tot.some ⟨_, rfl⟩)
    (fun m i a Q ha hi rec no => by
      subst ha
      rw [g_ref16_Right_4_succ]
      unfold s_ref16_Right_4
      have hm : l[i] ∈ l := List.getElem_mem hi
      have d0 : decide ((0 : Int) ≤ (i : Int)) = true := decide_eq_true (by omega)
      have d1 : decide ((i : Int) < ((l.length : Nat) : Int)) = true := decide_eq_true (by omega)
      have hG := ref07_RightGroup_is N hN (h2 _ hm)
      have hF := ref16_Find_is N hN h1 l[i].1
      simp only [d0, d1, br_true, Int.toNat_natCast, at_lt hi, Option.bind_some, hG, hF, wi (i := i) (by omega)]
      have hok : okGr N l i = (rightG N l[i] && (decide (l[i].1.size ≤ 48) && decide (fnd l l[i].1 = (i : Int)))) := by unfold okGr; rw [at_lt hi]
      cases hw : rightG N l[i]
      · rw [hw] at hok
        exact Tot.some (no (by rw [hok]; rfl) _ ⟨_, rfl⟩)
      rw [hw] at hok
      by_cases hz : l[i].1.size ≤ 48
      · have d2 : decide ((48 : Int) < ((l[i].1.size : Nat) : Int)) = false := decide_eq_false (by omega)
        rw [decide_eq_true hz] at hok
        simp only [d2, Bool.not_true, br_false]
        by_cases hf : fnd l l[i].1 = (i : Int)
        · rw [decide_eq_true hf] at hok
          simp only [decide_eq_true hf, Bool.not_true, br_false]
          exact rec (by rw [hok]; rfl) _ rfl
        · rw [decide_eq_false hf] at hok
          simp only [decide_eq_false hf, Bool.not_false, br_true]
          exact Tot.some (no (by rw [hok]; rfl) _ ⟨_, rfl⟩)
      · have d2 : decide ((48 : Int) < ((l[i].1.size : Nat) : Int)) = true := decide_eq_true (by omega)
        rw [decide_eq_false hz] at hok
        simp only [d2, Bool.not_true, br_false, br_true]
        exact Tot.some (no (by rw [hok]; rfl) _ ⟨_, rfl⟩))
    N 0 ((l, 0, ()), ()) (by omega) rfl (by omega)
  obtain ⟨o, e, ho⟩ := loop
  unfold G_ref16_Right S_ref16_Right rightGs
  simp only [e, Option.bind_some]
  by_cases h : l.length ≤ 16
  · have d1 : decide ((16 : Int) < ((l.length : Nat) : Int)) = false := decide_eq_false (by omega)
    simp only [d1, br_false, decide_eq_true h, Bool.true_and]
    rw [Nat.sub_zero] at ho
    split at ho
    · rename_i hy; obtain ⟨y, rfl⟩ := ho; rw [hy]; rfl
    · rename_i hy; obtain ⟨y, rfl⟩ := ho; rw [Bool.not_eq_true] at hy; rw [hy]; rfl
  · have d1 : decide ((16 : Int) < ((l.length : Nat) : Int)) = true := decide_eq_true (by omega)
    simp only [d1, br_true, decide_eq_false h, Bool.false_and]
end Go.Proofs.Ytiiiipdnodgkmaa.Gf
