/- The document: what is known of right pods. -/
import Derived.Test.YtncfllndmjjljaaLtpFBt
namespace Go.Proofs.Ytncfllndmjjljaa.Bt
open Go Go.VI
set_option linter.unusedVariables false
set_option linter.unusedSimpArgs false
set_option maxRecDepth 100000

theorem ref06_RightBears_all (N : Nat) (hN : Big N) {l : List Tol} (hl : l.length ≤ 140737488355328 ∧ ∀ t ∈ l, okS t.1 ∧ okS t.2.1) : Tot (G_ref06_RightBears N (l, ())) fun v => v.1 = true → ∀ t ∈ l, 0 ≤ t.2.2.2 ∧ t.2.2.2 ≤ 3 := by
  have hN' := hN
  unfold Big at hN'; obtain ⟨h1, h2⟩ := hl
  have loop : ∀ m (i : Nat) x, i ≤ l.length → (x = ((l, (i : Int), ()), ()) ∧ ∀ j (hj : j < l.length), j < i → 0 ≤ l[j].2.2.2 ∧ l[j].2.2.2 ≤ 3) → l.length - i < m → Tot (g_ref06_RightBears_4 N m x) fun o => (∃ y, o = .inl y ∧ ∀ t ∈ l, 0 ≤ t.2.2.2 ∧ t.2.2.2 ≤ 3) ∨ ∃ y, o = .inr ((false, ()), y) := by
    refine Tot.range l.length fun m i x ha hi rec => ?_
    obtain ⟨rfl, hal⟩ := ha
    rw [g_ref06_RightBears_4_succ]
    unfold s_ref06_RightBears_4
    by_cases hlt : i < l.length
    · have d0 : decide ((0 : Int) ≤ (i : Int)) = true := decide_eq_true (by omega)
      have d1 : decide ((i : Int) < ((l.length : Nat) : Int)) = true := decide_eq_true (by omega)
      have hm := h2 _ (List.getElem_mem hlt)
      simp only [d0, d1, br_true, Int.toNat_natCast, at_lt hlt, Option.bind_some, ref06_maybe_is hN hm.1, ref06_maybe_is hN hm.2, ref06_effect_is, wi (i := i) (by omega)]
      by_cases hk : 0 ≤ l[i].2.2.2 ∧ l[i].2.2.2 ≤ 3
      · have nx : ∀ j (hj : j < l.length), j < i + 1 → 0 ≤ l[j].2.2.2 ∧ l[j].2.2.2 ≤ 3 := fun j hj hji => by
          by_cases e : j = i
          · subst e; exact hk
          · exact hal j hj (by omega)
        repeat' first
          | exact Tot.some (.inr ⟨_, rfl⟩)
          | exact rec (i + 1) _ (by omega) (by omega) ⟨rfl, nx⟩
          | refine Tot.br (fun _ => ?_) fun _ => ?_
      · have n0 : decide (l[i].2.2.2 = 0) = false := decide_eq_false (by omega)
        have n1 : decide (1 ≤ l[i].2.2.2 ∧ l[i].2.2.2 ≤ 3) = false := decide_eq_false (by omega)
        simp only [n0, n1, Bool.not_false, br_true]
        repeat' first
          | exact Tot.some (.inr ⟨_, rfl⟩)
          | refine Tot.br (fun _ => ?_) fun _ => ?_
    · have d1 : decide ((i : Int) < ((l.length : Nat) : Int)) = false := decide_eq_false (by omega)
      simp only [d1, br_false]
      refine Tot.some (.inl ⟨_, rfl, fun t ht => ?_⟩)
      obtain ⟨j, hj, rfl⟩ := List.mem_iff_getElem.1 ht
      exact hal j hj (by omega)
  obtain ⟨o, e, ho⟩ := loop N 0 _ (by omega) ⟨rfl, fun j _ h => by omega⟩ (by omega)
  have e : g_ref06_RightBears_4 N N ((l, 0, ()), ()) = _ := e
  unfold G_ref06_RightBears S_ref06_RightBears
  simp only [e, Option.bind_some]
  refine Tot.br (fun _ => Tot.some fun h => by cases h) fun _ => ?_
  rcases ho with ⟨y, rfl, h⟩ | ⟨y, rfl⟩
  · exact Tot.some fun _ => h
  · exact Tot.some fun h => by cases h
structure rtP (p : Pod) : Prop where
  need : resB p.2.1 = true
  ops : ∀ t ∈ p.2.2.2.2.1, 0 ≤ t.2.1 ∧ t.2.1 ≤ 6
  effs : ∀ t ∈ p.2.2.2.2.2.1, 0 ≤ t.2.2.2 ∧ t.2.2.2 ≤ 3
  ports : ∀ n ∈ p.2.2.2.2.2.2.1, 0 ≤ n ∧ n ≤ 65535
  skew : 0 ≤ p.2.2.2.2.2.2.2.2.2.2.1 ∧ p.2.2.2.2.2.2.2.2.2.2.1 ≤ 100
  rank : 0 ≤ p.2.2.2.2.2.2.2.2.2.2.2.1 ∧ p.2.2.2.2.2.2.2.2.2.2.2.1 ≤ 1000
theorem rightTm_op {N : Nat} {t : Term} (h : rightTm N t = true) : 0 ≤ t.2.1 ∧ t.2.1 ≤ 6 := by
  unfold rightTm at h
  rw [Bool.and_eq_true] at h
  have h := h.2
  split at h
  · omega
  split at h
  · omega
  split at h
  · omega
  · cases h
theorem ref07_RightPod_all (N : Nat) (hN : Big N) {p : Pod} (hp : okP p) : Tot (G_ref07_RightPod N (p, ())) fun v => v.1 = true → rtP p := by
  have hN' := hN
  unfold Big at hN'
  obtain ⟨⟨q5, ⟨⟩⟩, e5, k5⟩ := ref06_RightBears_all N hN hp.bears
  have hts := hp.terms
  have hps := hp.ports
  have loop4 : ∀ m (i : Nat) x, i ≤ p.2.2.2.2.1.length → (x = (((i : Int), ()), (p, ()), ()) ∧ ∀ j (hj : j < p.2.2.2.2.1.length), j < i → 0 ≤ p.2.2.2.2.1[j].2.1 ∧ p.2.2.2.2.1[j].2.1 ≤ 6) → p.2.2.2.2.1.length - i < m →
      Tot (g_ref07_RightPod_4 N m x) fun o => (∃ y, o = .inl (y, (p, ()), ()) ∧ ∀ t ∈ p.2.2.2.2.1, 0 ≤ t.2.1 ∧ t.2.1 ≤ 6) ∨ ∃ y, o = .inr ((false, ()), y) := by
    refine Tot.range p.2.2.2.2.1.length fun m i x ha hi rec => ?_
    obtain ⟨rfl, hal⟩ := ha
    rw [g_ref07_RightPod_4_succ]
    unfold s_ref07_RightPod_4
    by_cases hlt : i < p.2.2.2.2.1.length
    · have d0 : decide ((0 : Int) ≤ (i : Int)) = true := decide_eq_true (by omega)
      have d1 : decide ((i : Int) < ((p.2.2.2.2.1.length : Nat) : Int)) = true := decide_eq_true (by omega)
      have e := ref05_RightTerm_is N hN (hts.2 _ (List.getElem_mem hlt))
      have e : G_ref05_RightTerm N (((p.2.2.2.2.1[i]).1, (p.2.2.2.2.1[i]).2.1, (p.2.2.2.2.1[i]).2.2), ()) = _ := e
      simp only [d0, d1, br_true, Int.toNat_natCast, at_lt hlt, Option.bind_some, e, wi (i := i) (by omega)]
      cases c : rightTm N p.2.2.2.2.1[i]
      · exact Tot.some (.inr ⟨_, rfl⟩)
      · refine rec (i + 1) _ (by omega) (by omega) ⟨rfl, fun j hj hji => ?_⟩
        by_cases e : j = i
        · subst e; exact rightTm_op c
        · exact hal j hj (by omega)
    · have d1 : decide ((i : Int) < ((p.2.2.2.2.1.length : Nat) : Int)) = false := decide_eq_false (by omega)
      simp only [d1, br_false]
      refine Tot.some (.inl ⟨_, rfl, fun t ht => ?_⟩)
      obtain ⟨j, hj, rfl⟩ := List.mem_iff_getElem.1 ht
      exact hal j hj (by omega)
  have loop9 : ∀ m (i : Nat) x, i ≤ p.2.2.2.2.2.2.1.length → (x = (((i : Int), ()), (p, ()), ()) ∧ ∀ j (hj : j < p.2.2.2.2.2.2.1.length), j < i → 0 ≤ p.2.2.2.2.2.2.1[j] ∧ p.2.2.2.2.2.2.1[j] ≤ 65535) → p.2.2.2.2.2.2.1.length - i < m →
      Tot (g_ref07_RightPod_9 N m x) fun o => (∃ y, o = .inl (y, (p, ()), ()) ∧ ∀ n ∈ p.2.2.2.2.2.2.1, 0 ≤ n ∧ n ≤ 65535) ∨ ∃ y, o = .inr ((false, ()), y) := by
    refine Tot.range p.2.2.2.2.2.2.1.length fun m i x ha hi rec => ?_
    obtain ⟨rfl, hal⟩ := ha
    rw [g_ref07_RightPod_9_succ]
    unfold s_ref07_RightPod_9
    by_cases hlt : i < p.2.2.2.2.2.2.1.length
    · have d0 : decide ((0 : Int) ≤ (i : Int)) = true := decide_eq_true (by omega)
      have d1 : decide ((i : Int) < ((p.2.2.2.2.2.2.1.length : Nat) : Int)) = true := decide_eq_true (by omega)
      simp only [d0, d1, br_true, Int.toNat_natCast, at_lt hlt, Option.bind_some, ref07_in_is, wi (i := i) (by omega)]
      by_cases hr : 1 ≤ p.2.2.2.2.2.2.1[i] ∧ p.2.2.2.2.2.2.1[i] ≤ 65535
      case neg =>
        rw [decide_eq_false hr, Bool.not_false, br_true]
        exact Tot.some (.inr ⟨_, rfl⟩)
      rw [decide_eq_true hr, Bool.not_true, br_false]
      have nx : ∀ j (hj : j < p.2.2.2.2.2.2.1.length), j < i + 1 → 0 ≤ p.2.2.2.2.2.2.1[j] ∧ p.2.2.2.2.2.2.1[j] ≤ 65535 := fun j hj hji => by
        by_cases e : j = i
        · subst e; exact ⟨by omega, hr.2⟩
        · exact hal j hj (by omega)
      refine Tot.brD (fun h0 => ?_) fun _ => rec (i + 1) _ (by omega) (by omega) ⟨rfl, nx⟩
      have h0 : (0 : Int) < (i : Int) := h0
      have w1 : IntKind.i64.wrap ((i : Int) - 1) = ((i - 1 : Nat) : Int) := by rw [w64 (by omega) (by omega)]; omega
      have d3 : decide ((0 : Int) ≤ ((i - 1 : Nat) : Int)) = true := decide_eq_true (by omega)
      have hpl : i - 1 < p.2.2.2.2.2.2.1.length := by omega
      simp only [w1, d3, br_true, Int.toNat_natCast, at_lt hpl, Option.bind_some]
      exact Tot.br (fun _ => Tot.some (.inr ⟨_, rfl⟩)) fun _ => rec (i + 1) _ (by omega) (by omega) ⟨rfl, nx⟩
    · have d1 : decide ((i : Int) < ((p.2.2.2.2.2.2.1.length : Nat) : Int)) = false := decide_eq_false (by omega)
      simp only [d1, br_false]
      refine Tot.some (.inl ⟨_, rfl, fun t ht => ?_⟩)
      obtain ⟨j, hj, rfl⟩ := List.mem_iff_getElem.1 ht
      exact hal j hj (by omega)
  obtain ⟨o4, g4, k4⟩ := loop4 N 0 _ (by omega) ⟨rfl, fun j _ h => by omega⟩ (by omega)
  have g4 : g_ref07_RightPod_4 N N ((0, ()), (p, ()), ()) = _ := g4
  obtain ⟨o9, g9, k9⟩ := loop9 N 0 _ (by omega) ⟨rfl, fun j _ h => by omega⟩ (by omega)
  have g9 : g_ref07_RightPod_9 N N ((0, ()), (p, ()), ()) = _ := g9
  unfold G_ref07_RightPod S_ref07_RightPod
  simp only [ref01_Word_is hN hp.name, ref04_Right_is, ref07_maybe_is hN hp.owner, ref07_in_is, Option.bind_some, g4]
  cases h1 : wordB N p.1
  · exact Tot.some fun h => by cases h
  cases h2 : resB p.2.1
  · exact Tot.some fun h => by cases h
  simp only [Bool.not_true, br_false]
  have no : Tot (some (false, ()) : Option (Bool × Unit)) fun v => v.1 = true → rtP p := Tot.some fun h => by cases h
  refine Tot.br (fun _ => no) fun _ => ?_
  refine Tot.br (fun _ => no) fun _ => ?_
  by_cases hrk : 0 ≤ p.2.2.2.2.2.2.2.2.2.2.2.1 ∧ p.2.2.2.2.2.2.2.2.2.2.2.1 ≤ 1000
  case neg => rw [decide_eq_false hrk, Bool.not_false, br_true]; exact no
  rw [decide_eq_true hrk, Bool.not_true, br_false]
  refine Tot.br (fun _ => no) fun _ => ?_
  refine Tot.br (fun _ => no) fun _ => ?_
  rcases k4 with ⟨y, rfl, k4⟩ | ⟨y, rfl⟩
  case inr => exact no
  rcases k9 with ⟨z, rfl, k9⟩ | ⟨z, rfl⟩
  case inr => simp only [Sum.elim_inl, g9, Option.bind_some, Sum.elim_inr]; exact no
  simp only [Sum.elim_inl, g9, Option.bind_some, ref05_Right_is N hN hp.labels, ref05_Right_is N hN hp.select, ref05_Right_is N hN hp.apart, ref05_Right_is N hN hp.spread, e5]
  by_cases hsk : 0 ≤ p.2.2.2.2.2.2.2.2.2.2.1 ∧ p.2.2.2.2.2.2.2.2.2.2.1 ≤ 100
  · have fin : q5 = true → rtP p := fun h => ⟨h2, k4, k5 h, k9, hsk, hrk⟩
    repeat' first
      | exact no
      | exact Tot.some fin
      | refine Tot.br (fun _ => ?_) fun _ => ?_
  · have s0 : decide (p.2.2.2.2.2.2.2.2.2.2.1 = 0) = false := decide_eq_false (by omega)
    have s1 : decide (1 ≤ p.2.2.2.2.2.2.2.2.2.2.1 ∧ p.2.2.2.2.2.2.2.2.2.2.1 ≤ 100) = false := decide_eq_false (by omega)
    simp only [s0, s1, Bool.not_false, br_true]
    rcases Nat.eq_zero_or_pos p.2.2.2.2.2.2.2.2.2.1.length with hz | hz
    · have z0 : decide (((p.2.2.2.2.2.2.2.2.2.1.length : Nat) : Int) = 0) = true := decide_eq_true (by omega)
      simp only [z0, br_true]
      repeat' first
        | exact no
        | refine Tot.br (fun _ => ?_) fun _ => ?_
    · have z0 : decide (((p.2.2.2.2.2.2.2.2.2.1.length : Nat) : Int) = 0) = false := decide_eq_false (by omega)
      have z1 : decide ((0 : Int) < ((p.2.2.2.2.2.2.2.2.2.1.length : Nat) : Int)) = true := decide_eq_true (by omega)
      simp only [z0, z1, br_true, br_false]
      repeat' first
        | exact no
        | refine Tot.br (fun _ => ?_) fun _ => ?_
end Go.Proofs.Ytncfllndmjjljaa.Bt
