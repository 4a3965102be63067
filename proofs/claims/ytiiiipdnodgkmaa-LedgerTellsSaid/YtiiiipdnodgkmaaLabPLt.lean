/- labels.Right. -/
import Derived.Test.YtiiiipdnodgkmaaLabSLt
namespace Go.Proofs.Ytiiiipdnodgkmaa.Lt
open Go Go.VI
set_option linter.unusedVariables false
set_option linter.unusedSimpArgs false
set_option maxRecDepth 100000

theorem labels_maybe_is {N : Nat} (hN : Big N) {s : ByteArray} (hs : okS s) : G_labels_maybe N (s, ()) = some (maybeB N s, ()) := by
  unfold G_labels_maybe S_labels_maybe maybeB
  simp only [lex_Word_is hN hs, Option.bind_some]
  by_cases h : s = nameless <;> simp [h, br]
theorem labels_Right_is (N : Nat) (hN : Big N) {l : Labels} (hl : okL l) : G_labels_Right N (l, ()) = some (rightL N l, ()) := by
  have hN' := hN
  unfold Big at hN'; obtain ⟨h1, h2⟩ := hl
  have cnt : ∀ i (k : ByteArray), (l.take i).countP (fun y => decide (y.1 = k)) ≤ i := fun i k => Nat.le_trans List.countP_le_length (by rw [List.length_take]; omega)
  have loop := Tot.all (f := g_labels_Right_3 N) (Inv := fun i x => ∃ es, x = ((l, l, (l.length : Int), (i : Int), ()), es, ()) ∧ ∀ k, (mget Ty.str es k).getD 0 = (((l.take i).countP (fun y => decide (y.1 = k)) : Nat) : Int))
    (Y := fun o => ∃ y, o = .inl ((l, ()), y)) (No := fun o => ∃ y, o = .inr ((false, ()), y)) l.length (okLabP N l)
    (fun m a ha => by
      obtain ⟨es, rfl, _⟩ := ha
      rw [g_labels_Right_3_succ]
      unfold s_labels_Right_3
      exact Tot.brD (fun h => absurd h (by dsimp only; omega)) fun _ => Tot.some ⟨_, rfl⟩)
    (fun m i a Q ha hi rec no => by
      obtain ⟨es, rfl, hes⟩ := ha
      rw [g_labels_Right_3_succ]
      unfold s_labels_Right_3
      have hm : l[i] ∈ l := List.getElem_mem hi
      have d0 : decide ((0 : Int) ≤ (i : Int)) = true := decide_eq_true (by omega)
      have d1 : decide ((i : Int) < ((l.length : Nat) : Int)) = true := decide_eq_true (by omega)
      have hc := cnt i l[i].1
      have w0 : IntKind.i64.wrap ((((l.take i).countP (fun y => decide (y.1 = l[i].1)) : Nat) : Int) + 1) = (((l.take i).countP (fun y => decide (y.1 = l[i].1)) + 1 : Nat) : Int) := by rw [w64 (by omega) (by omega)]; omega
      simp only [d0, d1, br_true, Int.toNat_natCast, at_lt hi, Option.bind_some, lex_Word_is hN (h2 _ hm).1, labels_maybe_is hN (h2 _ hm).2, wi (i := i) (by omega), hes, w0, mget_mset_str, if_true, Option.getD_some, bl_gt]
      have hes' : ∀ k, (mget Ty.str (mset Ty.str es l[i].1 (((l.take i).countP (fun y => decide (y.1 = l[i].1)) + 1 : Nat) : Int)) k).getD 0 = (((l.take (i + 1)).countP (fun y => decide (y.1 = k)) : Nat) : Int) := fun k => by
        rw [mget_mset_str, List.take_add_one, at_lt hi, List.countP_append]
        simp only [Option.toList_some, List.countP_cons, List.countP_nil, Nat.zero_add]
        by_cases e : k = l[i].1
        · subst e; simp
        · rw [if_neg e, hes k, if_neg (by simpa using Ne.symm e)]; rfl
      have hok : okLabP N l i = ((decide ((l.take i).countP (fun y => decide (y.1 = l[i].1)) = 0) && (wordB N l[i].1 && maybeB N l[i].2)) && (i == 0 || match l[i - 1]? with
        | some u => !bl l[i].1 u.1
        | none => false)) := by unfold okLabP; rw [at_lt hi]; first | done | rfl
      by_cases hz : (l.take i).countP (fun y => decide (y.1 = l[i].1)) = 0
      · have d4 : decide ((1 : Int) < (((l.take i).countP (fun y => decide (y.1 = l[i].1)) + 1 : Nat) : Int)) = false := decide_eq_false (by omega)
        rw [decide_eq_true hz] at hok
        simp only [d4, br_false]
        cases hw : wordB N l[i].1
        · rw [hw] at hok
          exact Tot.some (no (by rw [hok]; rfl) _ ⟨_, rfl⟩)
        cases hv : maybeB N l[i].2
        · rw [hw, hv] at hok
          exact Tot.some (no (by rw [hok]; rfl) _ ⟨_, rfl⟩)
        rw [hw, hv] at hok
        simp only [Bool.not_true, br_false]
        by_cases e : i = 0
        · have d2 : decide ((0 : Int) < (i : Int)) = false := decide_eq_false (by omega)
          simp only [d2, br_false]
          exact rec (by rw [hok]; simp [e]) _ ⟨_, rfl, hes'⟩
        · have d2 : decide ((0 : Int) < (i : Int)) = true := decide_eq_true (by omega)
          have w1 : IntKind.i64.wrap ((i : Int) - 1) = ((i - 1 : Nat) : Int) := by rw [w64 (by omega) (by omega)]; omega
          have d3 : decide ((0 : Int) ≤ ((i - 1 : Nat) : Int)) = true := decide_eq_true (by omega)
          have hp : i - 1 < l.length := by omega
          have e' : (i == 0) = false := by simp [e]
          rw [at_lt hp, e'] at hok
          simp only [d2, w1, d3, br_true, Int.toNat_natCast, at_lt hp, Option.bind_some]
          cases hb : bl l[i].1 l[i - 1].1
          · simp only [hb] at hok
            exact rec (by rw [hok]; rfl) _ ⟨_, rfl, hes'⟩
          · simp only [hb] at hok
            exact Tot.some (no (by rw [hok]; rfl) _ ⟨_, rfl⟩)
      · have d4 : decide ((1 : Int) < (((l.take i).countP (fun y => decide (y.1 = l[i].1)) + 1 : Nat) : Int)) = true := decide_eq_true (by omega)
        rw [decide_eq_false hz] at hok
        simp only [d4, br_true]
        exact Tot.some (no (by rw [hok]; rfl) _ ⟨_, rfl⟩))
    N 0 ((l, l, (l.length : Int), 0, ()), [], ()) (by omega) ⟨[], rfl, fun k => by simp [mget]⟩ (by omega)
  obtain ⟨o, e, ho⟩ := loop
  unfold G_labels_Right S_labels_Right rightL
  simp only [e, Option.bind_some]
  rw [Nat.sub_zero, okLab_same] at ho
  split at ho
  · rename_i hy; obtain ⟨y, rfl⟩ := ho; rw [hy, Bool.and_true]
    show some (decide (((l.length : Nat) : Int) ≤ 16), ()) = _
    congr 2; rw [decide_eq_decide]; omega
  · rename_i hy; obtain ⟨y, rfl⟩ := ho; rw [Bool.not_eq_true] at hy; rw [hy, Bool.and_false]; rfl

end Go.Proofs.Ytiiiipdnodgkmaa.Lt
