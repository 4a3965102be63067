/- Resources: what the program's functions and the document's words come to. -/
import Derived.Test.YtbnbmejjphjpaaaGRe
import Derived.Test.YtbnbmejjphjpaaaVIz
namespace Go.Proofs.Ytbnbmejjphjpaaa.Re
open Go Go.VI
set_option linter.unusedVariables false
set_option linter.unusedSimpArgs false
set_option maxRecDepth 100000

def Big (N : Nat) : Prop := 281474976710656 ≤ N
theorem big : Big (281474976710656 + 300) := by unfold Big; omega
abbrev Res := Int × Int × Int × Int × Int
def ok1 (n : Int) : Prop := 0 ≤ n ∧ n ≤ 1125899906842624
instance (n : Int) : Decidable (ok1 n) := by unfold ok1; infer_instance
def okR (a : Res) : Prop := ok1 a.1 ∧ ok1 a.2.1 ∧ ok1 a.2.2.1 ∧ ok1 a.2.2.2.1 ∧ ok1 a.2.2.2.2
instance (a : Res) : Decidable (okR a) := by unfold okR; infer_instance
def zR : Res := (0, 0, 0, 0, 0)
def addR (a b : Res) : Res := (a.1 + b.1, a.2.1 + b.2.1, a.2.2.1 + b.2.2.1, a.2.2.2.1 + b.2.2.2.1, a.2.2.2.2 + b.2.2.2.2)
def subR (a b : Res) : Res := (a.1 - b.1, a.2.1 - b.2.1, a.2.2.1 - b.2.2.1, a.2.2.2.1 - b.2.2.2.1, a.2.2.2.2 - b.2.2.2.2)
def mulR (a : Res) (n : Int) : Res := (a.1 * n, a.2.1 * n, a.2.2.1 * n, a.2.2.2.1 * n, a.2.2.2.2 * n)
def minR (a b : Res) : Res := (min a.1 b.1, min a.2.1 b.2.1, min a.2.2.1 b.2.2.1, min a.2.2.2.1 b.2.2.2.1, min a.2.2.2.2 b.2.2.2.2)
def leR (a b : Res) : Prop := a.1 ≤ b.1 ∧ a.2.1 ≤ b.2.1 ∧ a.2.2.1 ≤ b.2.2.1 ∧ a.2.2.2.1 ≤ b.2.2.2.1 ∧ a.2.2.2.2 ≤ b.2.2.2.2
instance (a b : Res) : Decidable (leR a b) := by unfold leR; infer_instance

theorem ref04_one_is (N : Nat) (n : Int) : G_ref04_one N (n, ()) = some (decide (ok1 n), ()) := by
  unfold G_ref04_one S_ref04_one ok1
  dsimp only
  by_cases h : 0 ≤ n <;> simp [h, br]
theorem ref04_Right_is (N : Nat) (a : Res) : G_ref04_Right N (a, ()) = some (decide (okR a), ()) := by
  unfold G_ref04_Right S_ref04_Right
  simp only [ref04_one_is, Option.bind_some, okR]
  obtain ⟨a, b, c, d, e⟩ := a
  dsimp only
  by_cases h1 : ok1 a <;> by_cases h2 : ok1 b <;> by_cases h3 : ok1 c <;> by_cases h4 : ok1 d <;> simp [h1, h2, h3, h4, br]
theorem res_Right_is (N : Nat) (a : Res) : G_res_Right N (a, ()) = some (decide (okR a), ()) := by
  unfold G_res_Right S_res_Right okR ok1
  obtain ⟨a, b, c, d, e⟩ := a
  rw [show G_res_row N ((a, b, c, d, e), ()) = some ((a, b, c, d, e), ()) from rfl]
  simp only [Option.bind_some, br_dec]
  repeat' split
  all_goals simp only [Option.some.injEq, Prod.mk.injEq, and_true]
  all_goals first | exact (decide_eq_false (by omega)).symm | exact (decide_eq_true (by omega)).symm
theorem row_is (N : Nat) (a : Res) : G_res_row N (a, ()) = some (a, ()) := rfl
theorem back_is (N : Nat) (a : Res) : G_res_back N (a, ()) = some (a, ()) := rfl

theorem ok1_w {n : Int} (h : ok1 n) : IntKind.i64.wrap n = n := by unfold ok1 at h; exact w64 (by omega) (by omega)
theorem add_w {a b : Int} (h : ok1 a) (h' : ok1 b) : IntKind.i64.wrap (a + b) = a + b := by unfold ok1 at h h'; exact w64 (by omega) (by omega)
theorem sub_w {a b : Int} (h : ok1 a) (h' : ok1 b) : IntKind.i64.wrap (a - b) = a - b := by unfold ok1 at h h'; exact w64 (by omega) (by omega)

/-- What is told of two, if all can be. -/
def told (x : Res) (e : Int) (ok : Prop) [Decidable ok] : Option (Res × Int × Unit) := if ok then some (x, 0, ()) else some (zR, e, ())

theorem res_Add_is (N : Nat) (a b : Res) : G_res_Add N (a, b, ()) = if okR a ∧ okR b then told (addR a b) 10 (okR (addR a b)) else some (zR, 1, ()) := by
  unfold G_res_Add S_res_Add
  by_cases ha : okR a
  · by_cases hb : okR b
    · have e : ∀ x y, G_res_Add_1 N (x, y, ()) = some (IntKind.i64.wrap (x + y), ()) := fun _ _ => rfl
      rw [if_pos ⟨ha, hb⟩]
      have ha' := ha; have hb' := hb
      obtain ⟨a1, a2, a3, a4, a5⟩ := ha'
      obtain ⟨b1, b2, b3, b4, b5⟩ := hb'
      simp only [res_Right_is, ha, hb, decide_true, Bool.not_true, br_false, Option.bind_some, row_is, back_is, e, add_w a1 b1, add_w a2 b2, add_w a3 b3, add_w a4 b4, add_w a5 b5, br_dec]
      unfold told
      by_cases hc : okR (addR a b)
      · rw [if_pos hc, if_pos (show okR (a.1 + b.1, a.2.1 + b.2.1, a.2.2.1 + b.2.2.1, a.2.2.2.1 + b.2.2.2.1, a.2.2.2.2 + b.2.2.2.2) from hc)]; rfl
      · rw [if_neg hc, if_neg (show ¬ okR (a.1 + b.1, a.2.1 + b.2.1, a.2.2.1 + b.2.2.1, a.2.2.2.1 + b.2.2.2.1, a.2.2.2.2 + b.2.2.2.2) from hc)]; rfl
    · rw [if_neg fun h => hb h.2]
      simp only [res_Right_is, ha, hb, decide_true, decide_false, Bool.not_true, Bool.not_false, br_false, br_true, Option.bind_some]; rfl
  · rw [if_neg fun h => ha h.1]
    simp only [res_Right_is, ha, decide_true, decide_false, Bool.not_true, Bool.not_false, br_false, br_true, Option.bind_some]; rfl
theorem ref04_Add_is (N : Nat) (a b : Res) : G_ref04_Add N (a, b, ()) = if okR a ∧ okR b then told (addR a b) 10 (okR (addR a b)) else some (zR, 1, ()) := by
  unfold G_ref04_Add S_ref04_Add
  by_cases ha : okR a
  · by_cases hb : okR b
    · rw [if_pos ⟨ha, hb⟩]
      have ha' := ha; have hb' := hb
      obtain ⟨a1, a2, a3, a4, a5⟩ := ha'
      obtain ⟨b1, b2, b3, b4, b5⟩ := hb'
      simp only [ref04_Right_is, ha, hb, decide_true, Bool.not_true, br_false, Option.bind_some, add_w a1 b1, add_w a2 b2, add_w a3 b3, add_w a4 b4, add_w a5 b5]
      unfold told
      by_cases hc : okR (addR a b)
      · rw [if_pos hc]
        have hc' : okR (a.1 + b.1, a.2.1 + b.2.1, a.2.2.1 + b.2.2.1, a.2.2.2.1 + b.2.2.2.1, a.2.2.2.2 + b.2.2.2.2) := hc
        simp only [hc', decide_true, Bool.not_true, br_false]; rfl
      · rw [if_neg hc]
        have hc' : ¬ okR (a.1 + b.1, a.2.1 + b.2.1, a.2.2.1 + b.2.2.1, a.2.2.2.1 + b.2.2.2.1, a.2.2.2.2 + b.2.2.2.2) := hc
        simp only [hc', decide_false, Bool.not_false, br_true]; rfl
    · rw [if_neg fun h => hb h.2]
      simp only [ref04_Right_is, ha, hb, decide_true, decide_false, Bool.not_true, Bool.not_false, br_false, br_true, Option.bind_some]; rfl
  · rw [if_neg fun h => ha h.1]
    simp only [ref04_Right_is, ha, decide_true, decide_false, Bool.not_true, Bool.not_false, br_false, br_true, Option.bind_some]; rfl

theorem sub_ok {a b : Res} (ha : okR a) (hb : okR b) : okR (subR a b) ↔ leR b a := by
  unfold okR subR leR ok1 at *
  dsimp only
  omega
theorem res_Sub_is (N : Nat) (a b : Res) : G_res_Sub N (a, b, ()) = if okR a ∧ okR b then told (subR a b) 11 (leR b a) else some (zR, 1, ()) := by
  unfold G_res_Sub S_res_Sub
  by_cases ha : okR a
  · by_cases hb : okR b
    · have e : ∀ x y, G_res_Sub_1 N (x, y, ()) = some (IntKind.i64.wrap (x - y), ()) := fun _ _ => rfl
      rw [if_pos ⟨ha, hb⟩]
      have ha' := ha; have hb' := hb
      obtain ⟨a1, a2, a3, a4, a5⟩ := ha'
      obtain ⟨b1, b2, b3, b4, b5⟩ := hb'
      simp only [res_Right_is, ha, hb, decide_true, Bool.not_true, br_false, Option.bind_some, row_is, back_is, e, sub_w a1 b1, sub_w a2 b2, sub_w a3 b3, sub_w a4 b4, sub_w a5 b5, br_dec]
      have : told (subR a b) 11 (leR b a) = told (subR a b) 11 (okR (subR a b)) := by
        unfold told
        simp only [sub_ok ha hb]
      rw [this]
      unfold told
      by_cases hc : okR (subR a b)
      · rw [if_pos hc, if_pos (show okR (a.1 - b.1, a.2.1 - b.2.1, a.2.2.1 - b.2.2.1, a.2.2.2.1 - b.2.2.2.1, a.2.2.2.2 - b.2.2.2.2) from hc)]; rfl
      · rw [if_neg hc, if_neg (show ¬ okR (a.1 - b.1, a.2.1 - b.2.1, a.2.2.1 - b.2.2.1, a.2.2.2.1 - b.2.2.2.1, a.2.2.2.2 - b.2.2.2.2) from hc)]; rfl
    · rw [if_neg fun h => hb h.2]
      simp only [res_Right_is, ha, hb, decide_true, decide_false, Bool.not_true, Bool.not_false, br_false, br_true, Option.bind_some]; rfl
  · rw [if_neg fun h => ha h.1]
    simp only [res_Right_is, ha, decide_true, decide_false, Bool.not_true, Bool.not_false, br_false, br_true, Option.bind_some]; rfl
theorem ref04_Fits_is (N : Nat) (a b : Res) : G_ref04_Fits N (a, b, ()) = some (decide (okR a ∧ okR b ∧ leR a b), ()) := by
  unfold G_ref04_Fits S_ref04_Fits
  simp only [ref04_Right_is, Option.bind_some]
  by_cases ha : okR a <;> by_cases hb : okR b <;> simp only [ha, hb, decide_true, decide_false, br_true, br_false, true_and, false_and, and_true, and_false]
  unfold leR
  by_cases h1 : a.1 ≤ b.1 <;> by_cases h2 : a.2.1 ≤ b.2.1 <;> by_cases h3 : a.2.2.1 ≤ b.2.2.1 <;> by_cases h4 : a.2.2.2.1 ≤ b.2.2.2.1 <;> simp [h1, h2, h3, h4, br]
theorem ref04_Sub_is (N : Nat) (a b : Res) : G_ref04_Sub N (a, b, ()) = if okR a ∧ okR b then told (subR a b) 11 (leR b a) else some (zR, 1, ()) := by
  unfold G_ref04_Sub S_ref04_Sub
  by_cases ha : okR a
  · by_cases hb : okR b
    · rw [if_pos ⟨ha, hb⟩]
      have ha' := ha; have hb' := hb
      obtain ⟨a1, a2, a3, a4, a5⟩ := ha'
      obtain ⟨b1, b2, b3, b4, b5⟩ := hb'
      unfold told
      by_cases hc : leR b a
      · simp only [ref04_Right_is, ref04_Fits_is, ha, hb, hc, and_self, decide_true, Bool.not_true, br_false, Option.bind_some, sub_w a1 b1, sub_w a2 b2, sub_w a3 b3, sub_w a4 b4, sub_w a5 b5, if_true]; rfl
      · simp only [ref04_Right_is, ref04_Fits_is, ha, hb, hc, and_false, decide_true, decide_false, Bool.not_true, Bool.not_false, br_true, br_false, Option.bind_some, if_false]; rfl
    · rw [if_neg fun h => hb h.2]
      simp only [ref04_Right_is, ha, hb, decide_true, decide_false, Bool.not_true, Bool.not_false, br_false, br_true, Option.bind_some]; rfl
  · rw [if_neg fun h => ha h.1]
    simp only [ref04_Right_is, ha, decide_true, decide_false, Bool.not_true, Bool.not_false, br_false, br_true, Option.bind_some]; rfl
theorem res_Fits_is (N : Nat) (a b : Res) : G_res_Fits N (a, b, ()) = some (decide (okR a ∧ okR b ∧ leR a b), ()) := by
  unfold G_res_Fits S_res_Fits
  simp only [res_Sub_is]
  unfold told
  by_cases h : okR b ∧ okR a
  · rw [if_pos h]
    by_cases hc : leR a b
    · rw [if_pos hc]; simp [h.1, h.2, hc]
    · rw [if_neg hc]; simp [h.1, h.2, hc]
  · rw [if_neg h]
    have : ¬ (okR a ∧ okR b ∧ leR a b) := fun h' => h ⟨h'.2.1, h'.1⟩
    simp [this]
theorem min_ok {a b : Res} (ha : okR a) (hb : okR b) : okR (minR a b) := by
  unfold okR minR ok1 at *
  dsimp only
  omega
theorem res_Least_is (N : Nat) (a b : Res) : G_res_Least N (a, b, ()) = if okR a ∧ okR b then some (minR a b, ()) else some (zR, ()) := by
  unfold G_res_Least S_res_Least
  by_cases ha : okR a
  · by_cases hb : okR b
    · have e : ∀ x y, G_res_Least_1 N (x, y, ()) = some (min x y, ()) := fun _ _ => rfl
      rw [if_pos ⟨ha, hb⟩]
      have hc : okR (min a.1 b.1, min a.2.1 b.2.1, min a.2.2.1 b.2.2.1, min a.2.2.2.1 b.2.2.2.1, min a.2.2.2.2 b.2.2.2.2) := min_ok ha hb
      simp only [res_Right_is, ha, hb, hc, decide_true, Bool.not_true, br_false, br_true, Option.bind_some, row_is, back_is, e]
      rfl
    · rw [if_neg fun h => hb h.2]
      simp only [res_Right_is, ha, hb, decide_true, decide_false, Bool.not_true, Bool.not_false, br_false, br_true, Option.bind_some]; rfl
  · rw [if_neg fun h => ha h.1]
    simp only [res_Right_is, ha, decide_true, decide_false, Bool.not_true, Bool.not_false, br_false, br_true, Option.bind_some]; rfl
theorem ref04_Least_is (N : Nat) (a b : Res) : G_ref04_Least N (a, b, ()) = if okR a ∧ okR b then some (minR a b, ()) else some (zR, ()) := by
  unfold G_ref04_Least S_ref04_Least
  by_cases ha : okR a
  · by_cases hb : okR b
    · rw [if_pos ⟨ha, hb⟩]
      simp only [ref04_Right_is, ha, hb, decide_true, Bool.not_true, br_false, br_true, Option.bind_some]
      rfl
    · rw [if_neg fun h => hb h.2]
      simp only [ref04_Right_is, ha, hb, decide_true, decide_false, Bool.not_true, Bool.not_false, br_false, br_true, Option.bind_some]; rfl
  · rw [if_neg fun h => ha h.1]
    simp only [ref04_Right_is, ha, decide_true, decide_false, Bool.not_true, Bool.not_false, br_false, br_true, Option.bind_some]; rfl

theorem mul_le {a n : Int} (ha : ok1 a) (hn : 0 < n) : (IntKind.i64.wrap (Int.tdiv 1125899906842624 n) < a ↔ ¬ ok1 (a * n)) ∧ (ok1 (a * n) → IntKind.i64.wrap (a * n) = a * n) := by
  have h1 : (Int.tdiv 1125899906842624 n).natAbs ≤ (1125899906842624 : Int).natAbs := by rw [Int.natAbs_tdiv]; exact Nat.div_le_self _ _
  have h2 : a ≤ Int.tdiv 1125899906842624 n ↔ a * n ≤ 1125899906842624 := by
    rw [Int.tdiv_eq_ediv_of_nonneg (by decide)]
    exact Int.le_ediv_iff_mul_le hn
  have h3 : 0 ≤ a * n := Int.mul_nonneg ha.1 (by omega)
  rw [w64 (x := Int.tdiv 1125899906842624 n) (by omega) (by omega)]
  refine ⟨?_, ok1_w⟩
  unfold ok1
  omega
/-- One amount, as often. -/
def times1 (a n : Int) : Int := if ok1 (a * n) then a * n else -1
theorem times1_is {a n : Int} (ha : ok1 a) (hn : 0 ≤ n) : (br (decide ((0 : Int) < n)) (br (decide (n = (0 : Int))) none (br (decide ((IntKind.i64.wrap (Int.tdiv (1125899906842624 : Int) n)) < a)) (some ((-(1 : Int)), ())) (some ((IntKind.i64.wrap (a * n)), ())))) (some ((IntKind.i64.wrap (a * n)), ()))) = some (times1 a n, ()) := by
  unfold times1
  by_cases h : 0 < n
  · obtain ⟨h1, h2⟩ := mul_le ha h
    have h0 : ¬ n = 0 := by omega
    rw [br_dec, if_pos h, br_dec, if_neg h0, br_dec]
    by_cases hk : ok1 (a * n)
    · rw [if_pos hk, if_neg fun h => h1.1 h hk, h2 hk]
    · rw [if_neg hk, if_pos (h1.2 hk)]
  · obtain rfl : n = 0 := by omega
    rw [br_dec, if_neg h, Int.mul_zero, if_pos (by decide)]
    rfl
theorem res_Times_is (N : Nat) (a : Res) (n : Int) : G_res_Times N (a, n, ()) = if 0 ≤ n ∧ okR a then told (mulR a n) 10 (okR (mulR a n)) else some (zR, 1, ()) := by
  unfold G_res_Times S_res_Times
  by_cases hn : 0 ≤ n
  · by_cases ha : okR a
    · rw [if_pos ⟨hn, ha⟩]
      have ha' := ha
      obtain ⟨a1, a2, a3, a4, a5⟩ := ha'
      have hn' : ¬ n < 0 := by omega
      have hd : decide (n < 0) = false := decide_eq_false hn'
      simp only [hd, res_Right_is, ha, decide_true, Bool.not_true, br_false, Option.bind_some, row_is, back_is]
      simp only [times1_is a1 hn, times1_is a2 hn, times1_is a3 hn, times1_is a4 hn, times1_is a5 hn, Option.bind_some]
      simp only [br_dec]
      unfold told
      by_cases hc : okR (mulR a n)
      · rw [if_pos hc]
        obtain ⟨c1, c2, c3, c4, c5⟩ := hc
        unfold mulR at c1 c2 c3 c4 c5
        dsimp only at c1 c2 c3 c4 c5
        have : okR (times1 a.1 n, times1 a.2.1 n, times1 a.2.2.1 n, times1 a.2.2.2.1 n, times1 a.2.2.2.2 n) := by
          unfold times1
          rw [if_pos c1, if_pos c2, if_pos c3, if_pos c4, if_pos c5]
          exact ⟨c1, c2, c3, c4, c5⟩
        rw [if_pos this]
        unfold times1 mulR
        rw [if_pos c1, if_pos c2, if_pos c3, if_pos c4, if_pos c5]
        rfl
      · rw [if_neg hc]
        have : ¬ okR (times1 a.1 n, times1 a.2.1 n, times1 a.2.2.1 n, times1 a.2.2.2.1 n, times1 a.2.2.2.2 n) := fun h => hc (by
          have one : ∀ x, ok1 (times1 x n) → ok1 (x * n) := fun x h => by
            unfold times1 at h
            split at h
            · assumption
            · exact absurd h (by decide)
          obtain ⟨c1, c2, c3, c4, c5⟩ := h
          exact ⟨one _ c1, one _ c2, one _ c3, one _ c4, one _ c5⟩)
        rw [if_neg this]
        rfl
    · rw [if_neg fun h => ha h.2]
      have hn' : ¬ n < 0 := by omega
      simp only [br_dec, if_neg hn', res_Right_is, ha, decide_false, Bool.not_false, br_true, Option.bind_some]; rfl
  · rw [if_neg fun h => hn h.1]
    simp only [br_dec, if_pos (show n < 0 by omega)]; rfl
set_option maxHeartbeats 2000000 in
theorem ref04_Times_is (N : Nat) (a : Res) (n : Int) : G_ref04_Times N (a, n, ()) = if 0 ≤ n ∧ okR a then told (mulR a n) 10 (okR (mulR a n)) else some (zR, 1, ()) := by
  unfold G_ref04_Times S_ref04_Times
  by_cases ha : okR a
  · by_cases hn : 0 ≤ n
    · rw [if_pos ⟨hn, ha⟩]
      have ha' := ha
      obtain ⟨a1, a2, a3, a4, a5⟩ := ha'
      have hn' : ¬ n < 0 := by omega
      by_cases h : 0 < n
      · have h0 : ¬ n = 0 := by omega
        simp only [ref04_Right_is, ha, decide_true, Bool.not_true, br_false, Option.bind_some, br_dec, if_neg hn', if_pos h, if_neg h0]
        simp only [(mul_le a1 h).1, (mul_le a2 h).1, (mul_le a3 h).1, (mul_le a4 h).1, (mul_le a5 h).1]
        unfold told
        by_cases c1 : ok1 (a.1 * n)
        · by_cases c2 : ok1 (a.2.1 * n)
          · by_cases c3 : ok1 (a.2.2.1 * n)
            · by_cases c4 : ok1 (a.2.2.2.1 * n)
              · by_cases c5 : ok1 (a.2.2.2.2 * n)
                · simp only [c1, c2, c3, c4, c5, not_true, if_false, ok1_w c1, ok1_w c2, ok1_w c3, ok1_w c4, ok1_w c5]
                  rw [if_pos (show okR (mulR a n) from ⟨c1, c2, c3, c4, c5⟩)]
                  rfl
                · simp only [c1, c2, c3, c4, c5, not_true, not_false_eq_true, if_true, if_false]
                  rw [if_neg (show ¬ okR (mulR a n) from fun h => c5 h.2.2.2.2)]
                  rfl
              · simp only [c1, c2, c3, c4, not_true, not_false_eq_true, if_true, if_false]
                rw [if_neg (show ¬ okR (mulR a n) from fun h => c4 h.2.2.2.1)]
                rfl
            · simp only [c1, c2, c3, not_true, not_false_eq_true, if_true, if_false]
              rw [if_neg (show ¬ okR (mulR a n) from fun h => c3 h.2.2.1)]
              rfl
          · simp only [c1, c2, not_true, not_false_eq_true, if_true, if_false]
            rw [if_neg (show ¬ okR (mulR a n) from fun h => c2 h.2.1)]
            rfl
        · simp only [c1, not_false_eq_true, if_true]
          rw [if_neg (show ¬ okR (mulR a n) from fun h => c1 h.1)]
          rfl
      · obtain rfl : n = 0 := by omega
        simp only [ref04_Right_is, ha, decide_true, Bool.not_true, br_false, Option.bind_some, br_dec, if_neg hn', Int.mul_zero]
        unfold told mulR
        simp only [Int.mul_zero]
        rfl
    · rw [if_neg fun h => hn h.1]
      simp only [ref04_Right_is, ha, decide_true, Bool.not_true, br_false, Option.bind_some, br_dec, if_pos (show n < 0 by omega)]; rfl
  · rw [if_neg fun h => ha h.2]
    simp only [ref04_Right_is, ha, decide_false, Bool.not_false, br_true, Option.bind_some]; rfl
theorem known_is (m : Nat) : G_law04_known (m + 300) () = some (true, ()) := by kernel_rfl
end Go.Proofs.Ytbnbmejjphjpaaa.Re
