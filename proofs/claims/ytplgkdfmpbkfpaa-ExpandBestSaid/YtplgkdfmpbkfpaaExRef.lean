/- Plain laws: the document's own Better and Choose answer as the program's do. -/
import Derived.Test.YtplgkdfmpbkfpaaExFacts
import Derived.Test.YtplgkdfmpbkfpaaHEx5
import Derived.Test.YtplgkdfmpbkfpaaPU
namespace Go.Proofs.Ytplgkdfmpbkfpaa.HEx
open Go.RowKit Go.Proofs.YtplgkdfmpbkfpaaW.PrintWords Go.Proofs.YtplgkdfmpbkfpaaW.PrintLast Go.Proofs.Ytplgkdfmpbkfpaa.Pick Go.Proofs.Ytplgkdfmpbkfpaa.PU
set_option linter.unusedVariables false

theorem rnext_f (a : Int) : triremeref21_Next.f a = some (nx a) := (rfl : triremeref21_Next.f a = expand_Next.f a).trans (next_f a)

theorem rbetter_f (a b : S27) (ha : B27 a) (hb : B27 b) (how : Int) : triremeref21_Better.f a.f0 a.f1 a.f2 a.f3 a.f4 a.f5 b.f0 b.f1 b.f2 b.f3 b.f4 b.f5 how = some (isWay how && bett how a b) := by
  obtain ⟨_, _, ⟨ha2, _⟩, ha3, ha4, ha5⟩ := ha
  obtain ⟨_, _, ⟨hb2, _⟩, hb3, hb4, hb5⟩ := hb
  have ha5 := wf64 ha5
  have hb5 := wf64 hb5
  unfold triremeref21_Better.f
  by_cases h1 : how = 1
  · subst h1
    rw [if_pos rfl]
    simp [isWay, bett, ekey, lex2]
    by_cases h : a.f3 = b.f3 <;> simp [h]
  rw [if_neg h1]
  by_cases h2 : how = 2
  · subst h2
    rw [if_pos rfl]
    have e : (isWay 2 && bett 2 a b) = lex2 (-a.f5 - 1, a.f3) (-b.f5 - 1, b.f3) := by
      simp [isWay, bett, ekey, xor_ones ha5, xor_ones hb5]
    rw [e]
    unfold lex2
    by_cases h : a.f5 > b.f5
    · rw [if_pos h, if_pos (by simp; omega)]
      simp; omega
    · rw [if_neg h]
      by_cases h' : a.f5 = b.f5
      · rw [if_pos h', if_neg (by simp; omega)]
      · rw [if_neg h', if_pos (by simp; omega)]
        simp; omega
  rw [if_neg h2]
  by_cases h3 : how = 3
  · subst h3
    rw [if_pos rfl]
    have e : (isWay 3 && bett 3 a b) = lex2 (a.f4, -(a.f2.length : Int)) (b.f4, -(b.f2.length : Int)) := by
      simp only [isWay, bett, ekey]
      rw [w64 (by omega) (by omega), w64 (by omega) (by omega)]
      simp
    rw [e]
    unfold lex2
    by_cases h : a.f4 < b.f4
    · rw [if_pos h, if_pos (by simp; omega)]
      simp; omega
    · rw [if_neg h]
      by_cases h' : a.f4 = b.f4
      · rw [if_pos h', if_neg (by simp; omega)]
        congr 1
        simp only [decide_eq_decide]
        omega
      · rw [if_neg h', if_pos (by simp; omega)]
        simp; omega
  · rw [if_neg h3]
    simp [isWay, h1, h2, h3]

theorem rd_nat (l : List S27) (i : Nat) : rd_T27 l (i : Int) = l.getD i z27 := by unfold rd_T27; rw [Int.toNat_natCast]
theorem mem_getD {l : List S27} {P : S27 → Prop} (h : ∀ x ∈ l, P x) {i : Nat} (hi : i < l.length) : P (l.getD i z27) := by
  rw [List.getD_eq_getElem?_getD, List.getElem?_eq_getElem hi]
  exact h _ (List.getElem_mem hi)
theorem wsucc {i n : Nat} (h : i < n) (hn : n ≤ 1000000000000) : wrap64 ((i : Int) + 1) = ((i + 1 : Nat) : Int) := by rw [w64 (by omega) (by omega)]; rfl

theorem rl1_false {l : List S27} {how : Int} {r : Nat} (hl : l.length ≤ 1000000000000) {i : Nat} (hi : i < l.length) (h0 : Ev (fun k => triremeref21_Choose.l0 k l how ((i + 1 : Nat) : Int)) (r : Int)) : ∀ (d j : Nat), l.length - j = d → j ≤ l.length → Ev (fun k => triremeref21_Choose.l1 k l how (i : Int) false (j : Int)) (r : Int)
  | 0, j, hd, hj => by
    refine Ev.step (fun k => by rw [triremeref21_Choose.l1]) ?_
    simp only [if_neg (show ¬ (j : Int) < (l.length : Int) by omega), if_neg (show ¬ (false = true) by decide), wsucc hi hl]
    exact h0
  | d + 1, j, hd, hj => by
    refine Ev.step (fun k => by rw [triremeref21_Choose.l1]) ?_
    simp only [if_pos (show (j : Int) < (l.length : Int) by omega), if_neg (show ¬ (false = true) by decide), wsucc (show j < l.length by omega) hl]
    exact rl1_false hl hi h0 d (j + 1) (by omega) (by omega)
section
variable {l : List S27} {how : Int} {r : Nat} (hl : l.length ≤ 1000000000000) (hB : ∀ x ∈ l, B27 x) (hw : isWay how = true) (hr : r < l.length) (hf : First (bett how) z27 l r l.length)
include hl hB hw hr hf
theorem rl1_best : ∀ (d j : Nat), l.length - j = d → j ≤ l.length → Ev (fun k => triremeref21_Choose.l1 k l how (r : Int) true (j : Int)) (r : Int)
  | 0, j, hd, hj => by
    refine Ev.step (fun k => by rw [triremeref21_Choose.l1]) ?_
    simp only [if_neg (show ¬ (j : Int) < (l.length : Int) by omega), if_true]
    exact Ev.now _
  | d + 1, j, hd, hj => by
    have hj' : j < l.length := by omega
    refine Ev.step (fun k => by rw [triremeref21_Choose.l1]) ?_
    simp only [if_pos (show (j : Int) < (l.length : Int) by omega), if_true, if_pos (show (0 : Int) ≤ (j : Int) by omega), if_pos (show (0 : Int) ≤ (r : Int) by omega), if_pos (show (r : Int) < (l.length : Int) by omega), rd_nat, rbetter_f _ _ (mem_getD hB hj') (mem_getD hB hr), hw, hf.1 j hj', Option.bind_some, wsucc hj' hl, Bool.and_false, Bool.not_false]
    exact rl1_best d (j + 1) (by omega) (by omega)
theorem rl1_worse {i : Nat} (hi : i < r) (h0 : Ev (fun k => triremeref21_Choose.l0 k l how ((i + 1 : Nat) : Int)) (r : Int)) : ∀ (d j : Nat), r - j = d → j ≤ r → Ev (fun k => triremeref21_Choose.l1 k l how (i : Int) true (j : Int)) (r : Int)
  | 0, j, hd, hj => by
    have e : j = r := by omega
    subst e
    refine Ev.step (fun k => by rw [triremeref21_Choose.l1]) ?_
    simp only [if_pos (show (j : Int) < (l.length : Int) by omega), if_true, if_pos (show (0 : Int) ≤ (j : Int) by omega), if_pos (show (0 : Int) ≤ (i : Int) by omega), if_pos (show (i : Int) < (l.length : Int) by omega), rd_nat, rbetter_f _ _ (mem_getD hB hr) (mem_getD hB (show i < l.length by omega)), hw, hf.2 i hi, Option.bind_some, wsucc hr hl, Bool.and_true, Bool.not_true]
    exact rl1_false hl (show i < l.length by omega) h0 _ (j + 1) rfl (by omega)
  | d + 1, j, hd, hj => by
    have hj' : j < l.length := by omega
    refine Ev.step (fun k => by rw [triremeref21_Choose.l1]) ?_
    simp only [if_pos (show (j : Int) < (l.length : Int) by omega), if_true, if_pos (show (0 : Int) ≤ (j : Int) by omega), if_pos (show (0 : Int) ≤ (i : Int) by omega), if_pos (show (i : Int) < (l.length : Int) by omega), rd_nat, rbetter_f _ _ (mem_getD hB hj') (mem_getD hB (show i < l.length by omega)), Option.bind_some, wsucc hj' hl]
    cases (isWay how && bett how (l.getD j z27) (l.getD i z27)) with
    | true => exact rl1_false hl (show i < l.length by omega) h0 _ (j + 1) rfl (by omega)
    | false => exact rl1_worse hi h0 d (j + 1) (by omega) (by omega)
theorem rl0_first : ∀ (d i : Nat), r - i = d → i ≤ r → Ev (fun k => triremeref21_Choose.l0 k l how (i : Int)) (r : Int)
  | 0, i, hd, hi => by
    have e : i = r := by omega
    subst e
    refine Ev.step (fun k => by rw [triremeref21_Choose.l0]) ?_
    simp only [if_pos (show (i : Int) < (l.length : Int) by omega)]
    exact rl1_best hl hB hw hr hf _ 0 rfl (by omega)
  | d + 1, i, hd, hi => by
    refine Ev.step (fun k => by rw [triremeref21_Choose.l0]) ?_
    simp only [if_pos (show (i : Int) < (l.length : Int) by omega)]
    exact rl1_worse hl hB hw hr hf (show i < r by omega) (rl0_first d (i + 1) (by omega) (by omega)) _ 0 rfl (by omega)
end

theorem rchoose_ev (l : List S27) (how seed : Int) (hl : l.length ≤ 1000000000000) (hB : ∀ x ∈ l, B27 x) : Ev (fun k => triremeref21_Choose.f k l how seed) (chosen l how seed) := by
  unfold chosen
  by_cases h0 : l.length = 0
  · simp only [triremeref21_Choose.f, if_pos (show (l.length : Int) = 0 by omega), if_pos h0]
    refine Ev.step (fun k => by rw [triremeref21_Choose.j0]) ?_
    simp only [if_true]
    exact Ev.now _
  simp only [triremeref21_Choose.f, if_neg (show ¬ (l.length : Int) = 0 by omega), if_neg h0]
  by_cases h1 : how < 1
  · have hi : isWay how = false := by simp [isWay]; omega
    simp only [if_pos h1, hi, if_neg (show ¬ (false = true) by decide), if_neg (show ¬ how = 4 by omega)]
    refine Ev.step (fun k => by rw [triremeref21_Choose.j0]) ?_
    simp only [if_true]
    exact Ev.now _
  simp only [if_neg h1]
  refine Ev.step (fun k => by rw [triremeref21_Choose.j0]) ?_
  by_cases h4 : how > 4
  · have hi : isWay how = false := by simp [isWay]; omega
    simp only [decide_eq_true h4, if_true, hi, if_neg (show ¬ (false = true) by decide), if_neg (show ¬ how = 4 by omega)]
    exact Ev.now _
  simp only [decide_eq_false h4, if_neg (show ¬ (false = true) by decide)]
  by_cases h5 : how = 4
  · subst h5
    have := nx_range seed
    simp only [if_true, show isWay 4 = false from rfl, if_neg (show ¬ (false = true) by decide), rnext_f, Option.bind_some, if_neg (show ¬ (l.length : Int) = 0 by omega), tmod_pos this.1]
    exact Ev.now _
  · have hi : isWay how = true := by simp [isWay]; omega
    have hp := pick0 (bett_weak how) z27 l (by intro h; rw [h] at h0; exact h0 rfl)
    simp only [if_neg h5, hi, if_true]
    exact rl0_first hl hB hi hp.1 hp.2 _ 0 rfl (by omega)
end Go.Proofs.Ytplgkdfmpbkfpaa.HEx
