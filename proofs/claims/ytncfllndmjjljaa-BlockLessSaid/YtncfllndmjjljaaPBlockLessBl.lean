/- BlockLess: what the law computes is true. -/
import Derived.Test.YtncfllndmjjljaaBlkCBl
namespace Go.Proofs.Ytncfllndmjjljaa.Bl
open Go Go.VI
set_option linter.unusedVariables false
set_option linter.unusedSimpArgs false
set_option maxRecDepth 100000

theorem goodG_take {l : List Budget} (h : GoodG l) (k : Nat) : GoodG (l.take k) :=
  ⟨by have := h.len; rw [List.length_take]; omega, fun g hg => h.num g (List.mem_of_mem_take hg)⟩
/-- Fewer budgets forbid less. -/
theorem mayB_less {l l' : List Budget} (hs : ∀ g ∈ l', g ∈ l) {bs : List Bound} {name : ByteArray} (h : mayB l bs name = 0) : mayB l' bs name = 0 := by
  obtain ⟨i, hi, hp, hn, hb⟩ := mayB_some h
  have hb' : barB l' bs bs[i].1 = false := by
    unfold barB at hb ⊢
    rw [List.any_eq_false] at hb ⊢
    exact fun g hg => hb g (hs g hg)
  unfold mayB
  simp only [hp, at_lt hi, if_neg hn, hb', Bool.false_eq_true, if_false]
theorem goB_less {l l' : List Budget} (hs : ∀ g ∈ l', g ∈ l) : ∀ (ps : List Pod) (bs : List Bound), (goB l ps bs).2 = 0 → (goB l' ps bs).2 = 0
  | [], _, _ => rfl
  | p :: ps, bs, h => by
    unfold goB at h ⊢
    by_cases c : mayB l bs p.1 = 0
    · rw [if_pos c] at h
      rw [if_pos (mayB_less hs c)]
      exact goB_less hs ps _ h
    · rw [if_neg c] at h
      exact absurd h c
theorem whyB_less {l l' : List Budget} (hs : ∀ g ∈ l', g ∈ l) {bs : List Bound} {on : ByteArray} (h : (whyB bs l on).2 = 0) : (whyB bs l' on).2 = 0 := by
  unfold whyB at h ⊢
  cases hf : (movB bs on).find? keepsB with
  | some p => rw [hf] at h; exact absurd h (by show ¬ ((22 : Int) = 0); decide)
  | none =>
    rw [hf] at h
    exact goB_less hs _ _ h
theorem loop8 (N : Nat) (hN : Big N) {ms : List Mach} {bs : List Bound} {l : List Budget} (hb : GoodB bs) (hg : GoodG l) {i : Nat} (hi : i < ms.length) :
    ∃ y, g_law25_BlockLess_8 N N ((ms, bs, l, (i : Int), (whyB bs l ms[i].1).2, 0, ()), ()) = some (.inl ((ms, bs, l, (i : Int), ()), y)) := by
  have hN' := hN
  unfold Big at hN'
  have hl := hg.len
  have loop : ∀ m (k : Nat) x, k ≤ l.length → x = ((ms, bs, l, (i : Int), (whyB bs l ms[i].1).2, (k : Int), ()), ()) → l.length - k < m → Tot (g_law25_BlockLess_8 N m x) fun o => ∃ y, o = .inl ((ms, bs, l, (i : Int), ()), y) := by
    refine Tot.range l.length fun m k x ha hk rec => ?_
    subst ha
    rw [g_law25_BlockLess_8_succ]
    unfold s_law25_BlockLess_8
    by_cases hlt : k < l.length
    · have d0 : decide ((0 : Int) ≤ (k : Int)) = true := decide_eq_true (by omega)
      have d1 : decide ((k : Int) < ((l.length : Nat) : Int)) = true := decide_eq_true (by omega)
      have d2 : decide ((k : Int) ≤ ((l.length : Nat) : Int)) = true := decide_eq_true (by omega)
      have d3 : decide ((0 : Int) ≤ (i : Int)) = true := decide_eq_true (by omega)
      simp only [d0, d1, d2, d3, Bool.and_self, br_true, Int.toNat_natCast, at_lt hi, Option.bind_some, block_Why_is N hN hb (goodG_take hg k), wi (i := k) (by omega)]
      refine Tot.brD (fun c => ?_) fun _ => rec (k + 1) _ (by omega) (by omega) rfl
      rw [decide_eq_true (whyB_less (l' := l.take k) (fun g => List.mem_of_mem_take) c)]
      exact rec (k + 1) _ (by omega) (by omega) rfl
    · have d1 : decide ((k : Int) < ((l.length : Nat) : Int)) = false := decide_eq_false (by omega)
      simp only [d1, br_false]
      exact Tot.some ⟨_, rfl⟩
  obtain ⟨o, e, y, rfl⟩ := loop N 0 _ (by omega) rfl (by omega)
  exact ⟨y, e⟩
theorem pureBlockLess (x : List Mach × List Bound × List Budget × Unit) (hw : Ty.wf (.slice tyMach0) x.1 ∧ Ty.wf (.slice tyBound) x.2.1 ∧ Ty.wf (.slice tyBudget) x.2.2.1 ∧ True) : ∃ N, G_law25_BlockLess N x = some (true, ()) := by
  obtain ⟨ms, bs, l, ⟨⟩⟩ := x
  have hy : okY ms bs := okY_of hw.1 hw.2.1
  have hl := okBgs_of hw.2.2.1
  clear hw
  refine ⟨281474976710656 + 300, ?_⟩
  have hk := known_is 281474976710656
  have hN := big
  generalize 281474976710656 + 300 = N at *
  have hN' := hN
  unfold Big at hN'
  obtain ⟨⟨b1, ⟨⟩⟩, e1, k1⟩ := law25_right_tot N hN hy hl
  unfold G_law25_BlockLess S_law25_BlockLess
  simp only [e1, hk, Option.bind_some]
  cases b1
  · rfl
  obtain ⟨⟨hml, hbl⟩, hfy, hfb⟩ := k1 rfl
  have hb := goodB_of hy hbl hfy
  have hg := goodG_of hl.2 hfb
  have hb0 : GoodB [] := ⟨by decide, fun b h => by cases h⟩
  have loop : ∀ m (i : Nat) x, i ≤ ms.length → x = ((ms, bs, l, (i : Int), ()), ()) → ms.length - i < m → Tot (g_law25_BlockLess_4 N m x) fun o => ∃ y, o = .inl y := by
    refine Tot.range ms.length fun m i x hx hi rec => ?_
    subst hx
    rw [g_law25_BlockLess_4_succ]
    unfold s_law25_BlockLess_4
    by_cases hlt : i < ms.length
    · have d0 : decide ((0 : Int) ≤ (i : Int)) = true := decide_eq_true (by omega)
      have d1 : decide ((i : Int) < ((ms.length : Nat) : Int)) = true := decide_eq_true (by omega)
      obtain ⟨y, e⟩ := loop8 N hN hb hg hlt
      have e0 : whyB [] l ms[i].1 = (nameless, 0) := rfl
      simp only [d0, d1, br_true, Int.toNat_natCast, at_lt hlt, Option.bind_some, block_Why_is N hN hb hg, block_Why_is N hN hb0 hg, e, e0, Sum.elim_inl, wi (i := i) (by omega)]
      exact rec (i + 1) _ (by omega) (by omega) rfl
    · have d1 : decide ((i : Int) < ((ms.length : Nat) : Int)) = false := decide_eq_false (by omega)
      simp only [d1, br_false]
      exact Tot.some ⟨_, rfl⟩
  obtain ⟨o, e, y, rfl⟩ := loop N 0 _ (by omega) rfl (by omega)
  have e : g_law25_BlockLess_4 N N ((ms, bs, l, 0, ()), ()) = _ := e
  simp only [Bool.not_true, br_false, e, Option.bind_some, Sum.elim_inl]
end Go.Proofs.Ytncfllndmjjljaa.Bl
