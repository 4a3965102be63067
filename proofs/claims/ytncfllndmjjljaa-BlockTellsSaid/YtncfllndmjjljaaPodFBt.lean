/- The document: pods that are light, and right. -/
import Derived.Test.YtncfllndmjjljaaLgtCBt
import Derived.Test.YtncfllndmjjljaaLtmFBt
import Derived.Test.YtncfllndmjjljaaMacFBt
namespace Go.Proofs.Ytncfllndmjjljaa.Bt
open Go Go.VI
set_option linter.unusedVariables false
set_option linter.unusedSimpArgs false
set_option maxRecDepth 100000

abbrev Tol := ByteArray × ByteArray × Bool × Int
abbrev Pod := ByteArray × Res × Labels × Labels × List Term × List Tol × List Int × Labels × Bool × Labels × Int × Int × ByteArray × Bool × Bool × Bool
structure okP (p : Pod) : Prop where
  name : okS p.1
  labels : okL p.2.2.1
  select : okL p.2.2.2.1
  terms : p.2.2.2.2.1.length ≤ 140737488355328 ∧ ∀ t ∈ p.2.2.2.2.1, okTm t
  bears : p.2.2.2.2.2.1.length ≤ 140737488355328 ∧ ∀ t ∈ p.2.2.2.2.2.1, okS t.1 ∧ okS t.2.1
  ports : p.2.2.2.2.2.2.1.length ≤ 140737488355328
  apart : okL p.2.2.2.2.2.2.2.1
  spread : okL p.2.2.2.2.2.2.2.2.2.1
  owner : okS p.2.2.2.2.2.2.2.2.2.2.2.2.1
@[reducible] def tyLab0 : Ty := .agg (.pair .str .str)
@[reducible] def tyTerm0 : Ty := .agg (.pair .str (.pair (.int .i64) (.slice .str)))
@[reducible] def tyTol0 : Ty := .agg (.pair .str (.pair .str (.pair .bool (.int .i64))))
@[reducible] def tyRes0 : Ty := .agg (.pair (.int .i64) (.pair (.int .i64) (.pair (.int .i64) (.pair (.int .i64) (.int .i64)))))
@[reducible] def tyPod : Ty := .agg (.pair .str (.pair tyRes0 (.pair (.slice tyLab0) (.pair (.slice tyLab0) (.pair (.slice tyTerm0) (.pair (.slice tyTol0) (.pair (.slice (.int .i64)) (.pair (.slice tyLab0) (.pair .bool (.pair (.slice tyLab0) (.pair (.int .i64) (.pair (.int .i64) (.pair .str (.pair .bool (.pair .bool .bool)))))))))))))))
theorem okL_of0 {l : Labels} (h : Ty.wf (.slice tyLab0) l) : okL l := ⟨Nat.le_trans h.1 reach_le, fun x hx => ⟨Nat.le_trans (h.2 x hx).1 reach_le, Nat.le_trans (h.2 x hx).2 reach_le⟩⟩
theorem okP_of {p : Pod} (h : Ty.wf tyPod p) : okP p := by
  have h : Ty.wf .str p.1 ∧ Ty.wf tyRes0 p.2.1 ∧ Ty.wf (.slice tyLab0) p.2.2.1 ∧ Ty.wf (.slice tyLab0) p.2.2.2.1 ∧ Ty.wf (.slice tyTerm0) p.2.2.2.2.1 ∧ Ty.wf (.slice tyTol0) p.2.2.2.2.2.1 ∧ Ty.wf (.slice (.int .i64)) p.2.2.2.2.2.2.1 ∧ Ty.wf (.slice tyLab0) p.2.2.2.2.2.2.2.1 ∧ _ ∧ Ty.wf (.slice tyLab0) p.2.2.2.2.2.2.2.2.2.1 ∧ _ ∧ _ ∧ Ty.wf .str p.2.2.2.2.2.2.2.2.2.2.2.2.1 ∧ _ := h
  obtain ⟨h1, _, h3, h4, h5, h6, h7, h8, _, h9, _, _, h10, _⟩ := h
  exact ⟨Nat.le_trans h1 reach_le, okL_of0 h3, okL_of0 h4, ⟨Nat.le_trans h5.1 reach_le, fun t ht => ⟨Nat.le_trans (h5.2 t ht).1 reach_le, Nat.le_trans (h5.2 t ht).2.2.1 reach_le, fun v hv => Nat.le_trans ((h5.2 t ht).2.2.2 v hv) reach_le⟩⟩,
    ⟨Nat.le_trans h6.1 reach_le, fun t ht => ⟨Nat.le_trans (h6.2 t ht).1 reach_le, Nat.le_trans (h6.2 t ht).2.1 reach_le⟩⟩, Nat.le_trans h7.1 reach_le, okL_of0 h8, okL_of0 h9, Nat.le_trans h10 reach_le⟩
theorem ref07_LightPod_tot (N : Nat) (hN : Big N) {p : Pod} (hp : okP p) : Tot (G_ref07_LightPod N (p, ())) fun v => v.1 = true → p.1.size ≤ 300 := by
  have hN' := hN
  unfold Big at hN'
  obtain ⟨⟨q1, ⟨⟩⟩, e1, _⟩ := ref05_Light_tot N hN _ hp.labels
  obtain ⟨⟨q2, ⟨⟩⟩, e2, _⟩ := ref05_Light_tot N hN _ hp.select
  obtain ⟨⟨q3, ⟨⟩⟩, e3, _⟩ := ref05_Light_tot N hN _ hp.apart
  obtain ⟨⟨q4, ⟨⟩⟩, e4, _⟩ := ref05_Light_tot N hN _ hp.spread
  obtain ⟨⟨q5, ⟨⟩⟩, e5, _⟩ := ref06_Light_tot N hN p.2.2.2.2.2.1 [] hp.bears.1 (by simp)
  have hts := hp.terms
  have loop : ∀ m (i : Nat) x, i ≤ p.2.2.2.2.1.length → x = (((i : Int), ()), (p, ()), ()) → p.2.2.2.2.1.length - i < m → Tot (g_ref07_LightPod_4 N m x) fun _ => True := by
    refine Tot.range p.2.2.2.2.1.length fun m i x ha hi rec => ?_
    subst ha
    rw [g_ref07_LightPod_4_succ]
    unfold s_ref07_LightPod_4
    by_cases hlt : i < p.2.2.2.2.1.length
    · have d0 : decide ((0 : Int) ≤ (i : Int)) = true := decide_eq_true (by omega)
      have d1 : decide ((i : Int) < ((p.2.2.2.2.1.length : Nat) : Int)) = true := decide_eq_true (by omega)
      obtain ⟨v, e, _⟩ := ref05_LightTerm_tot N hN (hts.2 _ (List.getElem_mem hlt))
      have e : G_ref05_LightTerm N (((p.2.2.2.2.1[i]).1, (p.2.2.2.2.1[i]).2.1, (p.2.2.2.2.1[i]).2.2), ()) = _ := e
      simp only [d0, d1, br_true, Int.toNat_natCast, at_lt hlt, Option.bind_some, e, wi (i := i) (by omega)]
      exact Tot.br (fun _ => Tot.some trivial) fun _ => rec (i + 1) _ (by omega) (by omega) rfl
    · have d1 : decide ((i : Int) < ((p.2.2.2.2.1.length : Nat) : Int)) = false := decide_eq_false (by omega)
      simp only [d1, br_false]
      exact Tot.some trivial
  obtain ⟨o, e, _⟩ := loop N 0 _ (by omega) rfl (by omega)
  have e : g_ref07_LightPod_4 N N ((0, ()), (p, ()), ()) = _ := e
  unfold G_ref07_LightPod S_ref07_LightPod
  simp only [e1, e2, e3, e4, e5, e, Option.bind_some]
  refine Tot.brD (fun _ => Tot.some fun h => by cases h) fun hz => ?_
  have fin : p.1.size ≤ 300 := by have hz : ¬ (300 : Int) < ((p.1.size : Nat) : Int) := hz; omega
  repeat' first
    | exact Tot.some fun _ => fin
    | refine Tot.br (fun _ => ?_) fun _ => ?_
    | refine Tot.elim (fun _ _ => ?_) fun _ _ => ?_
theorem ref06_RightBears_tot (N : Nat) (hN : Big N) {l : List Tol} (hl : l.length ≤ 140737488355328 ∧ ∀ t ∈ l, okS t.1 ∧ okS t.2.1) : Tot (G_ref06_RightBears N (l, ())) fun _ => True := by
  have hN' := hN
  unfold Big at hN'; obtain ⟨h1, h2⟩ := hl
  have loop : ∀ m (i : Nat) x, i ≤ l.length → x = ((l, (i : Int), ()), ()) → l.length - i < m → Tot (g_ref06_RightBears_4 N m x) fun _ => True := by
    refine Tot.range l.length fun m i x ha hi rec => ?_
    subst ha
    rw [g_ref06_RightBears_4_succ]
    unfold s_ref06_RightBears_4
    by_cases hlt : i < l.length
    · have d0 : decide ((0 : Int) ≤ (i : Int)) = true := decide_eq_true (by omega)
      have d1 : decide ((i : Int) < ((l.length : Nat) : Int)) = true := decide_eq_true (by omega)
      have hm := h2 _ (List.getElem_mem hlt)
      simp only [d0, d1, br_true, Int.toNat_natCast, at_lt hlt, Option.bind_some, ref06_maybe_is hN hm.1, ref06_maybe_is hN hm.2, ref06_effect_is, wi (i := i) (by omega)]
      repeat' first
        | exact Tot.some trivial
        | exact rec (i + 1) _ (by omega) (by omega) rfl
        | refine Tot.br (fun _ => ?_) fun _ => ?_
    · have d1 : decide ((i : Int) < ((l.length : Nat) : Int)) = false := decide_eq_false (by omega)
      simp only [d1, br_false]
      exact Tot.some trivial
  obtain ⟨o, e, _⟩ := loop N 0 _ (by omega) rfl (by omega)
  have e : g_ref06_RightBears_4 N N ((l, 0, ()), ()) = _ := e
  unfold G_ref06_RightBears S_ref06_RightBears
  simp only [e, Option.bind_some]
  repeat' first
    | exact Tot.some trivial
    | refine Tot.br (fun _ => ?_) fun _ => ?_
    | refine Tot.elim (fun _ _ => ?_) fun _ _ => ?_
theorem ref07_in_is (N : Nat) (n lo hi : Int) : G_ref07_in N (n, lo, hi, ()) = some (decide (lo ≤ n ∧ n ≤ hi), ()) := by
  unfold G_ref07_in S_ref07_in
  by_cases h : lo ≤ n
  · rw [decide_eq_true h]; simp [h, br]
  · rw [decide_eq_false h]; simp [h, br]
/-- What is known of a right pod. -/
structure facP (N : Nat) (p : Pod) : Prop where
  name : wordB N p.1 = true
  need : resB p.2.1 = true
  labels : rightL N p.2.2.1 = true
theorem ref07_RightPod_tot (N : Nat) (hN : Big N) {p : Pod} (hp : okP p) : Tot (G_ref07_RightPod N (p, ())) fun v => v.1 = true → facP N p := by
  have hN' := hN
  unfold Big at hN'
  obtain ⟨⟨q5, ⟨⟩⟩, e5, _⟩ := ref06_RightBears_tot N hN hp.bears
  have hts := hp.terms
  have hps := hp.ports
  have loop4 : ∀ m (i : Nat) x, i ≤ p.2.2.2.2.1.length → x = (((i : Int), ()), (p, ()), ()) → p.2.2.2.2.1.length - i < m → Tot (g_ref07_RightPod_4 N m x) fun o => (∃ y, o = .inl (y, (p, ()), ())) ∨ ∃ y, o = .inr ((false, ()), y) := by
    refine Tot.range p.2.2.2.2.1.length fun m i x ha hi rec => ?_
    subst ha
    rw [g_ref07_RightPod_4_succ]
    unfold s_ref07_RightPod_4
    by_cases hlt : i < p.2.2.2.2.1.length
    · have d0 : decide ((0 : Int) ≤ (i : Int)) = true := decide_eq_true (by omega)
      have d1 : decide ((i : Int) < ((p.2.2.2.2.1.length : Nat) : Int)) = true := decide_eq_true (by omega)
      have e := ref05_RightTerm_is N hN (hts.2 _ (List.getElem_mem hlt))
      have e : G_ref05_RightTerm N (((p.2.2.2.2.1[i]).1, (p.2.2.2.2.1[i]).2.1, (p.2.2.2.2.1[i]).2.2), ()) = _ := e
      simp only [d0, d1, br_true, Int.toNat_natCast, at_lt hlt, Option.bind_some, e, wi (i := i) (by omega)]
      exact Tot.br (fun _ => Tot.some (.inr ⟨_, rfl⟩)) fun _ => rec (i + 1) _ (by omega) (by omega) rfl
    · have d1 : decide ((i : Int) < ((p.2.2.2.2.1.length : Nat) : Int)) = false := decide_eq_false (by omega)
      simp only [d1, br_false]
      exact Tot.some (.inl ⟨_, rfl⟩)
  have loop9 : ∀ m (i : Nat) x, i ≤ p.2.2.2.2.2.2.1.length → x = (((i : Int), ()), (p, ()), ()) → p.2.2.2.2.2.2.1.length - i < m → Tot (g_ref07_RightPod_9 N m x) fun o => (∃ y, o = .inl (y, (p, ()), ())) ∨ ∃ y, o = .inr ((false, ()), y) := by
    refine Tot.range p.2.2.2.2.2.2.1.length fun m i x ha hi rec => ?_
    subst ha
    rw [g_ref07_RightPod_9_succ]
    unfold s_ref07_RightPod_9
    by_cases hlt : i < p.2.2.2.2.2.2.1.length
    · have d0 : decide ((0 : Int) ≤ (i : Int)) = true := decide_eq_true (by omega)
      have d1 : decide ((i : Int) < ((p.2.2.2.2.2.2.1.length : Nat) : Int)) = true := decide_eq_true (by omega)
      simp only [d0, d1, br_true, Int.toNat_natCast, at_lt hlt, Option.bind_some, ref07_in_is, wi (i := i) (by omega)]
      refine Tot.br (fun _ => Tot.some (.inr ⟨_, rfl⟩)) fun _ => ?_
      refine Tot.brD (fun h0 => ?_) fun _ => rec (i + 1) _ (by omega) (by omega) rfl
      have h0 : (0 : Int) < (i : Int) := h0
      have w1 : IntKind.i64.wrap ((i : Int) - 1) = ((i - 1 : Nat) : Int) := by rw [w64 (by omega) (by omega)]; omega
      have d3 : decide ((0 : Int) ≤ ((i - 1 : Nat) : Int)) = true := decide_eq_true (by omega)
      have hpl : i - 1 < p.2.2.2.2.2.2.1.length := by omega
      simp only [w1, d3, br_true, Int.toNat_natCast, at_lt hpl, Option.bind_some]
      exact Tot.br (fun _ => Tot.some (.inr ⟨_, rfl⟩)) fun _ => rec (i + 1) _ (by omega) (by omega) rfl
    · have d1 : decide ((i : Int) < ((p.2.2.2.2.2.2.1.length : Nat) : Int)) = false := decide_eq_false (by omega)
      simp only [d1, br_false]
      exact Tot.some (.inl ⟨_, rfl⟩)
  obtain ⟨o4, g4, k4⟩ := loop4 N 0 _ (by omega) rfl (by omega)
  have g4 : g_ref07_RightPod_4 N N ((0, ()), (p, ()), ()) = _ := g4
  obtain ⟨o9, g9, k9⟩ := loop9 N 0 _ (by omega) rfl (by omega)
  have g9 : g_ref07_RightPod_9 N N ((0, ()), (p, ()), ()) = _ := g9
  unfold G_ref07_RightPod S_ref07_RightPod
  simp only [ref01_Word_is hN hp.name, ref04_Right_is, ref07_maybe_is hN hp.owner, ref07_in_is, Option.bind_some, g4]
  cases h1 : wordB N p.1
  · exact Tot.some fun h => by cases h
  cases h2 : resB p.2.1
  · exact Tot.some fun h => by cases h
  simp only [Bool.not_true, br_false]
  have no : Tot (some (false, ()) : Option (Bool × Unit)) fun v => v.1 = true → facP N p := Tot.some fun h => by cases h
  rcases k4 with ⟨y, rfl⟩ | ⟨y, rfl⟩
  · rcases k9 with ⟨z, rfl⟩ | ⟨z, rfl⟩
    · simp only [Sum.elim_inl, g9, Option.bind_some, ref05_Right_is N hN hp.labels, ref05_Right_is N hN hp.select, ref05_Right_is N hN hp.apart, ref05_Right_is N hN hp.spread, e5]
      cases h3 : rightL N p.2.2.1
      · simp only [br_false]
        repeat' first
          | exact no
          | refine Tot.br (fun _ => ?_) fun _ => ?_
      · have fin : facP N p := ⟨h1, h2, h3⟩
        repeat' first
          | exact Tot.some fun _ => fin
          | refine Tot.br (fun _ => ?_) fun _ => ?_
    · simp only [Sum.elim_inl, g9, Option.bind_some, Sum.elim_inr]
      repeat' first
        | exact no
        | refine Tot.br (fun _ => ?_) fun _ => ?_
  · simp only [Sum.elim_inr]
    repeat' first
      | exact no
      | refine Tot.br (fun _ => ?_) fun _ => ?_
end Go.Proofs.Ytncfllndmjjljaa.Bt
