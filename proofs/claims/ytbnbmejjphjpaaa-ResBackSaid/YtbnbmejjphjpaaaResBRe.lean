/- Resources: how often they are there, and shares. -/
import Derived.Test.YtbnbmejjphjpaaaResARe
namespace Go.Proofs.Ytbnbmejjphjpaaa.Re
open Go Go.VI
set_option linter.unusedVariables false
set_option linter.unusedSimpArgs false
set_option maxRecDepth 100000

/-- How often: the most k up to 400 for which as much is there. -/
def IsHow (a b : Res) (h : Int) : Prop := 0 ≤ h ∧ h ≤ 400 ∧ ∀ k : Int, 0 ≤ k → (k ≤ h ↔ k ≤ 400 ∧ leR (mulR a k) b)

theorem quo_is {a b : Int} (ha : ok1 a) (hb : ok1 b) (k : Int) (hk : 0 ≤ k) : (0 < a → (a * k ≤ b ↔ k ≤ IntKind.i64.wrap (b.tdiv a)) ∧ 0 ≤ IntKind.i64.wrap (b.tdiv a)) ∧ (¬ 0 < a → a * k ≤ b) := by
  have h1 : (b.tdiv a).natAbs ≤ b.natAbs := by rw [Int.natAbs_tdiv]; exact Nat.div_le_self _ _
  obtain ⟨a1, a2⟩ := ha
  obtain ⟨b1, b2⟩ := hb
  refine ⟨fun h => ?_, fun h => ?_⟩
  · rw [w64 (by omega) (by omega), Int.tdiv_eq_ediv_of_nonneg b1, Int.mul_comm]
    exact ⟨(Int.le_ediv_iff_mul_le h).symm, Int.ediv_nonneg b1 a1⟩
  · obtain rfl : a = 0 := by omega
    rw [Int.zero_mul]; exact b1
set_option maxHeartbeats 4000000 in
theorem res_How_is (N : Nat) (a b : Res) (ha : okR a) (hb : okR b) : Tot (G_res_How N (a, b, ())) fun v => IsHow a b v.1 := by
  unfold G_res_How S_res_How IsHow leR mulR
  simp only [res_Right_is, ha, hb, decide_true, Bool.not_true, br_false, Option.bind_some, row_is, List.foldl_cons, List.foldl_nil]
  obtain ⟨a1, a2, a3, a4, a5⟩ := a
  obtain ⟨b1, b2, b3, b4, b5⟩ := b
  obtain ⟨x1, x2, x3, x4, x5⟩ := ha
  obtain ⟨y1, y2, y3, y4, y5⟩ := hb
  dsimp only at *
  have t1 := quo_is x1 y1
  have t2 := quo_is x2 y2
  have t3 := quo_is x3 y3
  have t4 := quo_is x4 y4
  have t5 := quo_is x5 y5
  have u1 := t1 0 (by omega)
  have u2 := t2 0 (by omega)
  have u3 := t3 0 (by omega)
  have u4 := t4 0 (by omega)
  have u5 := t5 0 (by omega)
  generalize IntKind.i64.wrap (b1.tdiv a1) = q1 at *
  generalize IntKind.i64.wrap (b2.tdiv a2) = q2 at *
  generalize IntKind.i64.wrap (b3.tdiv a3) = q3 at *
  generalize IntKind.i64.wrap (b4.tdiv a4) = q4 at *
  generalize IntKind.i64.wrap (b5.tdiv a5) = q5 at *
  clear x1 x2 x3 x4 x5 y1 y2 y3 y4 y5
  repeat' first
    | (refine Tot.brD (fun hc => ?_) (fun hc => ?_))
    | (exfalso; omega)
    | (refine Tot.some ⟨?_, ?_, fun k hk => ?_⟩
       · dsimp only; clear t1 t2 t3 t4 t5; omega
       · dsimp only; omega
       · dsimp only
         first | rw [((t1 k hk).1 (by assumption)).1] | rw [eq_true ((t1 k hk).2 (by assumption))]
         first | rw [((t2 k hk).1 (by assumption)).1] | rw [eq_true ((t2 k hk).2 (by assumption))]
         first | rw [((t3 k hk).1 (by assumption)).1] | rw [eq_true ((t3 k hk).2 (by assumption))]
         first | rw [((t4 k hk).1 (by assumption)).1] | rw [eq_true ((t4 k hk).2 (by assumption))]
         first | rw [((t5 k hk).1 (by assumption)).1] | rw [eq_true ((t5 k hk).2 (by assumption))]
         clear t1 t2 t3 t4 t5 u1 u2 u3 u4 u5
         try simp only [true_and, and_true]
         all_goals omega)
theorem res_How_no (N : Nat) (a b : Res) (h : ¬ (okR a ∧ okR b)) : G_res_How N (a, b, ()) = some (0, ()) := by
  unfold G_res_How S_res_How
  by_cases ha : okR a
  · have hb : ¬ okR b := fun hb => h ⟨ha, hb⟩
    simp only [res_Right_is, ha, hb, decide_true, decide_false, Bool.not_true, Bool.not_false, br_false, br_true, Option.bind_some]
  · simp only [res_Right_is, ha, decide_false, Bool.not_false, br_true, Option.bind_some]
theorem ref04_How_no (N : Nat) (a b : Res) (h : ¬ (okR a ∧ okR b)) : G_ref04_How N (a, b, ()) = some (0, ()) := by
  unfold G_ref04_How S_ref04_How
  by_cases ha : okR a
  · have hb : ¬ okR b := fun hb => h ⟨ha, hb⟩
    simp only [ref04_Right_is, ha, hb, decide_true, decide_false, Bool.not_true, Bool.not_false, br_false, br_true, Option.bind_some]
  · simp only [ref04_Right_is, ha, decide_false, Bool.not_false, br_true, Option.bind_some]

theorem mul_ok {a b : Res} (ha : okR a) (hb : okR b) {k : Int} (hk : 0 ≤ k) (h : leR (mulR a k) b) : okR (mulR a k) := by
  obtain ⟨x1, x2, x3, x4, x5⟩ := ha
  obtain ⟨y1, y2, y3, y4, y5⟩ := hb
  obtain ⟨h1, h2, h3, h4, h5⟩ := h
  unfold ok1 at *
  exact ⟨⟨Int.mul_nonneg x1.1 hk, Int.le_trans h1 y1.2⟩, ⟨Int.mul_nonneg x2.1 hk, Int.le_trans h2 y2.2⟩, ⟨Int.mul_nonneg x3.1 hk, Int.le_trans h3 y3.2⟩, ⟨Int.mul_nonneg x4.1 hk, Int.le_trans h4 y4.2⟩, ⟨Int.mul_nonneg x5.1 hk, Int.le_trans h5 y5.2⟩⟩

theorem ref04_How_is (N : Nat) (hN : Big N) (a b : Res) (ha : okR a) (hb : okR b) (h : Nat) (hh : IsHow a b h) : G_ref04_How N (a, b, ()) = some ((h : Int), ()) := by
  unfold Big at hN
  obtain ⟨h0, h1, h2⟩ := hh
  have loop : ∀ m (i : Nat) (x : (Int × Unit) × (Res × Unit) × (Res × Unit) × Unit), i ≤ h → x = (((i : Int), ()), (a, ()), (b, ()), ()) → h - i < m → Tot (g_ref04_How_4 N m x) fun o => o = .inl (((h : Int), ()), (a, ()), (b, ()), ()) := by
    refine Tot.range h fun m i x hx hi rec => ?_
    subst hx
    rw [g_ref04_How_4_succ]
    unfold s_ref04_How_4
    have e : IntKind.i64.wrap ((i : Int) + 1) = ((i + 1 : Nat) : Int) := by rw [w64 (by omega) (by omega)]; omega
    dsimp only
    rw [e]
    have hp := h2 ((i + 1 : Nat) : Int) (by omega)
    refine Tot.brD (fun hc => ?_) fun hc => ?_
    · rw [ref04_Times_is, if_pos ⟨by omega, ha⟩]
      unfold told
      by_cases hl : i + 1 ≤ h
      · have hq := (hp.1 (by omega)).2
        rw [if_pos (mul_ok ha hb (by omega) hq)]
        have : decide (okR (mulR a ((i + 1 : Nat) : Int)) ∧ okR b ∧ leR (mulR a ((i + 1 : Nat) : Int)) b) = true := decide_eq_true ⟨mul_ok ha hb (by omega) hq, hb, hq⟩
        simp only [Option.bind_some, decide_true, Bool.not_true, br_false, ref04_Fits_is, this]
        exact rec (i + 1) _ (by omega) (by omega) rfl
      · have hi' : i = h := by omega
        subst hi'
        have hq : ¬ leR (mulR a ((i + 1 : Nat) : Int)) b := fun hq => hl (by have := hp.2 ⟨by omega, hq⟩; omega)
        by_cases hm : okR (mulR a ((i + 1 : Nat) : Int))
        · rw [if_pos hm]
          have : decide (okR (mulR a ((i + 1 : Nat) : Int)) ∧ okR b ∧ leR (mulR a ((i + 1 : Nat) : Int)) b) = false := decide_eq_false fun h => hq h.2.2
          simp only [Option.bind_some, decide_true, Bool.not_true, Bool.not_false, br_false, br_true, ref04_Fits_is, this]
          exact Tot.some rfl
        · rw [if_neg hm]
          exact Tot.some rfl
    · have : i = h := by omega
      subst this
      exact Tot.some rfl
  unfold G_ref04_How S_ref04_How
  simp only [ref04_Right_is, ha, hb, decide_true, Bool.not_true, br_false, Option.bind_some]
  obtain ⟨o, eo, rfl⟩ := loop N 0 _ (by omega) rfl (by omega)
  have eo : g_ref04_How_4 N N ((0, ()), (a, ()), (b, ()), ()) = _ := eo
  rw [eo]
  rfl

/-- A share of one amount. -/
def part (a b : Int) : Int := if b = 0 then (if a = 0 then 0 else 1000000) else min ((1000 * a) / b) 1000000
theorem part_w {a b : Int} (ha : ok1 a) (hb : ok1 b) : IntKind.i64.wrap ((IntKind.i64.wrap (1000 * a)).tdiv b) = (1000 * a) / b := by
  obtain ⟨a1, a2⟩ := ha
  have h1 : ((1000 * a).tdiv b).natAbs ≤ (1000 * a).natAbs := by rw [Int.natAbs_tdiv]; exact Nat.div_le_self _ _
  rw [w64 (x := 1000 * a) (by omega) (by omega), w64 (by omega) (by omega), Int.tdiv_eq_ediv_of_nonneg (by omega)]
theorem res_part_is (N : Nat) (a b : Int) (ha : ok1 a) (hb : ok1 b) : G_res_part N (a, b, ()) = some (part a b, ()) := by
  unfold G_res_part S_res_part part
  simp only [part_w ha hb, br_dec, List.foldl_cons, List.foldl_nil]
  unfold ok1 at ha hb
  by_cases h : b = 0
  · subst h
    by_cases h : a = 0
    · subst h; rfl
    · rw [if_neg (by omega), if_pos (by omega), if_pos rfl, if_neg h]
  · rw [if_pos (by omega), if_neg h, if_neg h]
theorem ref04_part_is (N : Nat) (a b : Int) (ha : ok1 a) (hb : ok1 b) : G_ref04_part N (a, b, ()) = some (part a b, ()) := by
  unfold G_ref04_part S_ref04_part part
  simp only [part_w ha hb, br_dec, List.foldl_cons, List.foldl_nil]
  by_cases h : b = 0
  · rw [if_pos h, if_pos h]
    split <;> rfl
  · rw [if_neg h, if_neg h, if_neg h]
def share (a b : Res) : Int := max (part a.1 b.1) (part a.2.1 b.2.1)
theorem res_Share_is (N : Nat) (a b : Res) : G_res_Share N (a, b, ()) = if okR a ∧ okR b then some (share a b, ()) else some (0, ()) := by
  unfold G_res_Share S_res_Share
  by_cases ha : okR a
  · by_cases hb : okR b
    · rw [if_pos ⟨ha, hb⟩]
      simp only [res_Right_is, ha, hb, decide_true, Bool.not_true, br_false, Option.bind_some, res_part_is N _ _ ha.1 hb.1, res_part_is N _ _ ha.2.1 hb.2.1, List.foldl_cons, List.foldl_nil]
      rfl
    · rw [if_neg fun h => hb h.2]
      simp only [res_Right_is, ha, hb, decide_true, decide_false, Bool.not_true, Bool.not_false, br_false, br_true, Option.bind_some]
  · rw [if_neg fun h => ha h.1]
    simp only [res_Right_is, ha, decide_false, Bool.not_false, br_true, Option.bind_some]
theorem ref04_Share_is (N : Nat) (a b : Res) : G_ref04_Share N (a, b, ()) = if okR a ∧ okR b then some (share a b, ()) else some (0, ()) := by
  unfold G_ref04_Share S_ref04_Share
  by_cases ha : okR a
  · by_cases hb : okR b
    · rw [if_pos ⟨ha, hb⟩]
      simp only [ref04_Right_is, ha, hb, decide_true, Bool.not_true, br_false, Option.bind_some, ref04_part_is N _ _ ha.1 hb.1, ref04_part_is N _ _ ha.2.1 hb.2.1, List.foldl_cons, List.foldl_nil]
      rfl
    · rw [if_neg fun h => hb h.2]
      simp only [ref04_Right_is, ha, hb, decide_true, decide_false, Bool.not_true, Bool.not_false, br_false, br_true, Option.bind_some]
  · rw [if_neg fun h => ha h.1]
    simp only [ref04_Right_is, ha, decide_false, Bool.not_false, br_true, Option.bind_some]
end Go.Proofs.Ytbnbmejjphjpaaa.Re
