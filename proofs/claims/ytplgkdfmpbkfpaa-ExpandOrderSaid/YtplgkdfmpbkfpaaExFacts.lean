/- Plain laws about choosing an option: what Better, Next and Choose answer, in numbers. -/
import Derived.Test.YtplgkdfmpbkfpaaHEx3
import Derived.Test.YtplgkdfmpbkfpaaHExOp
import Derived.Test.YtplgkdfmpbkfpaaPick
namespace Go.Proofs.Ytplgkdfmpbkfpaa.HEx
open Go.RowKit Go.Proofs.YtplgkdfmpbkfpaaW.PrintWords Go.Proofs.YtplgkdfmpbkfpaaW.PrintLast Go.Proofs.Ytplgkdfmpbkfpaa.Pick
set_option linter.unusedVariables false

def nx (a : Int) : Int := if a < 0 then 12345 else if a ≥ 2147483648 then 12345 else (1103515245 * a + 12345) % 2147483648
theorem nx_range (a : Int) : 0 ≤ nx a ∧ nx a < 2147483648 := by unfold nx; split <;> (try split) <;> omega
theorem next_f (a : Int) : expand_Next.f a = some (nx a) := by
  unfold expand_Next.f nx
  split
  · rfl
  · split
    · rfl
    · have h : wrap64 ((wrap64 (1103515245 * a)) + 12345) = 1103515245 * a + 12345 := by unfold wrap64; omega
      rw [h, Int.tmod_eq_emod_of_nonneg (by omega)]

/-- The two keys by which an option is chosen. -/
def ekey (how : Int) (o : S27) : Int × Int := if how = 1 then (o.f3, 0) else if how = 2 then (Go.bits .xor .i64 (-1) o.f5, o.f3) else (o.f4, wrap64 (-(o.f2.length : Int)))
def bett (how : Int) (a b : S27) : Bool := lex2 (ekey how a) (ekey how b)
theorem bett_weak (how : Int) : Weak (bett how) := lex2_weak.on (ekey how)
def isWay (how : Int) : Bool := how == 1 || how == 2 || how == 3

theorem of_1 : Ev (fun k => expand_of.f k 1) (1, 75, 76, true) := ⟨4, fun k hk => by
  obtain ⟨m, rfl⟩ : ∃ m, k = m + 4 := ⟨k - 4, by omega⟩
  simp [expand_of.f, expand_ways.f, expand_of.l0, rd_T78, show wrap64 1 = 1 from by unfold wrap64; omega, show wrap64 2 = 2 from by unfold wrap64; omega, show wrap64 3 = 3 from by unfold wrap64; omega]⟩
theorem of_2 : Ev (fun k => expand_of.f k 2) (2, 77, 75, true) := ⟨4, fun k hk => by
  obtain ⟨m, rfl⟩ : ∃ m, k = m + 4 := ⟨k - 4, by omega⟩
  simp [expand_of.f, expand_ways.f, expand_of.l0, rd_T78, show wrap64 1 = 1 from by unfold wrap64; omega, show wrap64 2 = 2 from by unfold wrap64; omega, show wrap64 3 = 3 from by unfold wrap64; omega]⟩
theorem of_3 : Ev (fun k => expand_of.f k 3) (3, 78, 79, true) := ⟨4, fun k hk => by
  obtain ⟨m, rfl⟩ : ∃ m, k = m + 4 := ⟨k - 4, by omega⟩
  simp [expand_of.f, expand_ways.f, expand_of.l0, rd_T78, show wrap64 1 = 1 from by unfold wrap64; omega, show wrap64 2 = 2 from by unfold wrap64; omega, show wrap64 3 = 3 from by unfold wrap64; omega]⟩
theorem of_0 (how : Int) (h1 : how ≠ 1) (h2 : how ≠ 2) (h3 : how ≠ 3) : Ev (fun k => expand_of.f k how) (0, -1, -1, false) := ⟨4, fun k hk => by
  obtain ⟨m, rfl⟩ : ∃ m, k = m + 4 := ⟨k - 4, by omega⟩
  simp [expand_of.f, expand_ways.f, expand_of.l0, rd_T78, show wrap64 1 = 1 from by unfold wrap64; omega, show wrap64 2 = 2 from by unfold wrap64; omega, show wrap64 3 = 3 from by unfold wrap64; omega, Ne.symm h1, Ne.symm h2, Ne.symm h3]⟩
theorem lex_some (x y : Int × Int) : (if x.1 = y.1 then some (decide (x.2 < y.2)) else some (decide (x.1 < y.1))) = some (lex2 x y) := by
  unfold lex2
  by_cases h : x.1 = y.1
  · rw [if_pos h, if_neg (by simpa using h)]
  · rw [if_neg h, if_pos h]
theorem way_1 (a b : S27) : expand_way_better.f 1 75 76 a.f0 a.f1 a.f2 a.f3 a.f4 a.f5 b.f0 b.f1 b.f2 b.f3 b.f4 b.f5 = some (bett 1 a b) := lex_some (ekey 1 a) (ekey 1 b)
theorem way_2 (a b : S27) : expand_way_better.f 2 77 75 a.f0 a.f1 a.f2 a.f3 a.f4 a.f5 b.f0 b.f1 b.f2 b.f3 b.f4 b.f5 = some (bett 2 a b) := lex_some (ekey 2 a) (ekey 2 b)
theorem way_3 (a b : S27) : expand_way_better.f 3 78 79 a.f0 a.f1 a.f2 a.f3 a.f4 a.f5 b.f0 b.f1 b.f2 b.f3 b.f4 b.f5 = some (bett 3 a b) := lex_some (ekey 3 a) (ekey 3 b)

theorem better_ev (a b : S27) (how : Int) : Ev (fun k => expand_Better.f k a.f0 a.f1 a.f2 a.f3 a.f4 a.f5 b.f0 b.f1 b.f2 b.f3 b.f4 b.f5 how) (isWay how && bett how a b) := by
  by_cases h1 : how = 1
  · subst h1; refine Ev.bind of_1 ⟨0, fun k _ => ?_⟩; simp only [if_true, way_1, Option.bind_some]; rfl
  by_cases h2 : how = 2
  · subst h2; refine Ev.bind of_2 ⟨0, fun k _ => ?_⟩; simp only [if_true, way_2, Option.bind_some]; rfl
  by_cases h3 : how = 3
  · subst h3; refine Ev.bind of_3 ⟨0, fun k _ => ?_⟩; simp only [if_true, way_3, Option.bind_some]; rfl
  · refine Ev.bind (of_0 how h1 h2 h3) ⟨0, fun k _ => ?_⟩
    simp [isWay, h1, h2, h3]

/-- The loop of Choose. -/
theorem choose_loop (how c1 c2 : Int) (l : List S27) (hl : l.length ≤ 1000000000000) (hw : ∀ a b : S27, expand_way_better.f how c1 c2 a.f0 a.f1 a.f2 a.f3 a.f4 a.f5 b.f0 b.f1 b.f2 b.f3 b.f4 b.f5 = some (bett how a b)) :
    ∀ (xs : List S27) (b i : Nat), l.drop i = xs → i ≤ l.length → b < l.length → Ev (fun k => expand_Choose.l0 k l (b : Int) (l.length : Int) (i : Int) how c1 c2) ((pick (bett how) z27 l b i xs : Nat) : Int)
  | [], b, i, h, hi, hb => by
    have : i = l.length := by have := List.drop_eq_nil_iff.1 h; omega
    subst this
    refine Ev.step (fun k => by rw [expand_Choose.l0]) ⟨0, fun k _ => ?_⟩
    rw [if_neg (by omega)]
    rfl
  | x :: xs, b, i, h, hi, hb => by
    have hlt : i < l.length := by
      rcases Nat.lt_or_ge i l.length with h1 | h1
      · exact h1
      · rw [List.drop_of_length_le h1] at h; cases h
    have hc := List.drop_eq_getElem_cons hlt
    rw [h] at hc
    injection hc with hc1 hc2
    have hx : rd_T27 l (i : Int) = x := by
      unfold rd_T27
      rw [Int.toNat_natCast, List.getD_eq_getElem?_getD, List.getElem?_eq_getElem hlt, hc1]
      rfl
    have hbd : rd_T27 l (b : Int) = l.getD b z27 := by unfold rd_T27; rw [Int.toNat_natCast]
    have hwr : wrap64 ((i : Int) + 1) = ((i + 1 : Nat) : Int) := by unfold wrap64; omega
    refine Ev.step (fun k => by rw [expand_Choose.l0]) ?_
    simp only [if_pos (show (i : Int) < (l.length : Int) by omega), if_pos (show (0 : Int) ≤ (i : Int) by omega), if_pos (show (0 : Int) ≤ (b : Int) by omega), if_pos (show (b : Int) < (l.length : Int) by omega), hx, hbd, hw, Option.bind_some, hwr]
    unfold pick
    by_cases hc : bett how x (l.getD b z27) = true
    · simp only [if_pos hc]
      exact choose_loop how c1 c2 l hl hw xs i (i + 1) hc2.symm (by omega) hlt
    · simp only [if_neg hc]
      exact choose_loop how c1 c2 l hl hw xs b (i + 1) hc2.symm (by omega) hb

def chosen (l : List S27) (how seed : Int) : Int :=
  if l.length = 0 then -1 else if isWay how = true then ((pick (bett how) z27 l 0 0 l : Nat) : Int) else if how = 4 then (nx seed) % (l.length : Int) else -1
theorem choose_ev (l : List S27) (how seed : Int) (hl : l.length ≤ 1000000000000) : Ev (fun k => expand_Choose.f k l how seed) (chosen l how seed) := by
  have key : ∀ c1 c2 : Int, (∀ a b : S27, expand_way_better.f how c1 c2 a.f0 a.f1 a.f2 a.f3 a.f4 a.f5 b.f0 b.f1 b.f2 b.f3 b.f4 b.f5 = some (bett how a b)) → isWay how = true → Ev (fun k => expand_of.f k how) (how, c1, c2, true) → Ev (fun k => expand_Choose.f k l how seed) (chosen l how seed) := by
    intro c1 c2 hw hi ho
    refine Ev.bind ho ?_
    by_cases h0 : l.length = 0
    · simp only [if_pos (show (l.length : Int) = 0 by omega)]
      refine Ev.step (fun k => by rw [expand_Choose.j0]) ⟨0, fun k _ => ?_⟩
      simp [chosen, h0]
    · simp only [if_neg (show ¬ (l.length : Int) = 0 by omega), if_true]
      refine Ev.step (fun k => by rw [expand_Choose.j0]) ?_
      simp only [if_neg (show ¬ (false = true) by decide), if_true]
      have := choose_loop how c1 c2 l hl hw l 0 0 rfl (by omega) (by omega)
      unfold chosen
      rw [if_neg h0, if_pos hi]
      exact this
  by_cases h1 : how = 1
  · subst h1; exact key 75 76 way_1 rfl of_1
  by_cases h2 : how = 2
  · subst h2; exact key 77 75 way_2 rfl of_2
  by_cases h3 : how = 3
  · subst h3; exact key 78 79 way_3 rfl of_3
  · have hi : isWay how = false := by simp [isWay, h1, h2, h3]
    refine Ev.bind (of_0 how h1 h2 h3) ?_
    unfold chosen
    by_cases h0 : l.length = 0
    · simp only [if_pos (show (l.length : Int) = 0 by omega), if_pos h0]
      refine Ev.step (fun k => by rw [expand_Choose.j0]) ⟨0, fun k _ => ?_⟩
      simp
    · simp only [if_neg (show ¬ (l.length : Int) = 0 by omega), if_neg (show ¬ (false = true) by decide), if_neg h0, hi]
      refine Ev.step (fun k => by rw [expand_Choose.j0]) ?_
      by_cases h4 : how = 4
      · subst h4
        simp only [show ((4 : Int) != 4) = false from rfl, if_neg (show ¬ (false = true) by decide), next_f, Option.bind_some, if_neg (show ¬ (l.length : Int) = 0 by omega), if_true]
        have := nx_range seed
        exact ⟨0, fun k _ => by rw [Int.tmod_eq_emod_of_nonneg (by omega)]⟩
      · simp only [show (how != 4) = true by simpa using h4, if_true, if_neg h4]
        exact ⟨0, fun k _ => rfl⟩

end Go.Proofs.Ytplgkdfmpbkfpaa.HEx
