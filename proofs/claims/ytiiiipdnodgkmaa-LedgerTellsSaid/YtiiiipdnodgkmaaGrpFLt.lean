/- The document: groups that are right, and found. -/
import Derived.Test.YtiiiipdnodgkmaaGrpSLt
import Derived.Test.YtiiiipdnodgkmaaMacFLt
namespace Go.Proofs.Ytiiiipdnodgkmaa.Lt
open Go Go.VI
set_option linter.unusedVariables false
set_option linter.unusedSimpArgs false
set_option maxRecDepth 100000

theorem ref07_in_is (N : Nat) (n lo hi : Int) : G_ref07_in N (n, lo, hi, ()) = some (inB n lo hi, ()) := by
  unfold G_ref07_in S_ref07_in inB
  by_cases h : lo ≤ n <;> simp [h, br]
theorem ref07_RightGroup_is (N : Nat) (hN : Big N) {g : Grp} (hg : okG g) : G_ref07_RightGroup N (g, ()) = some (rightG N g, ()) := by
  obtain ⟨h1, h2⟩ := hg
  unfold G_ref07_RightGroup S_ref07_RightGroup rightG
  simp only [ref01_Word_is hN h1, ref07_in_is, ref07_RightMachine_is N hN h2, Option.bind_some]
  cases wordB N g.1 <;> cases inB g.2.2.1 1 200 <;> cases inB g.2.1 0 g.2.2.1 <;> cases inB g.2.2.2.2.1 0 1125899906842624 <;> cases inB g.2.2.2.2.2 0 1000 <;> cases rightM N g.2.2.2.1 <;> cases decide (g.2.2.2.1.1 = nameless) <;> cases decide (g.2.2.2.1.2.1 = g.1) <;> rfl

theorem ref16_Find_is (N : Nat) (hN : Big N) {l : List Grp} (hl : l.length ≤ 140737488355328) (name : ByteArray) : G_ref16_Find N (l, name, ()) = some (fnd l name, ()) := by
  unfold Big at hN
  have loop : ∀ m (i : Nat) x, i ≤ l.length → x = ((l, name, (i : Int), ()), ()) → l.length - i < m → Tot (g_ref16_Find_2 N m x) fun o => fndF name (l.drop i) i = Sum.elim (fun _ => -1) (fun v => v.1.1) o := by
    refine Tot.rangeI (Q := fun i (o : (Unit × Unit) ⊕ ((Int × Unit) × Unit)) => fndF name (l.drop i) i = Sum.elim (fun _ => -1) (fun v => v.1.1) o) l.length fun m i x ha hi rec => ?_
    subst ha
    rw [g_ref16_Find_2_succ]
    unfold s_ref16_Find_2
    by_cases hlt : i < l.length
    · have d0 : decide ((0 : Int) ≤ (i : Int)) = true := decide_eq_true (by omega)
      have d1 : decide ((i : Int) < ((l.length : Nat) : Int)) = true := decide_eq_true (by omega)
      simp only [d0, d1, br_true, Int.toNat_natCast, at_lt hlt, Option.bind_some, wi (i := i) (by omega)]
      rw [List.drop_eq_getElem_cons hlt]
      simp only [fndF]
      by_cases e : l[i].1 = name
      · rw [decide_eq_true e, if_pos e]; exact Tot.some rfl
      · rw [decide_eq_false e, if_neg e]; exact rec (i + 1) _ (by omega) (by omega) rfl
    · have d1 : decide ((i : Int) < ((l.length : Nat) : Int)) = false := decide_eq_false (by omega)
      simp only [d1, br_false]
      rw [List.drop_eq_nil_of_le (by omega)]
      exact Tot.some rfl
  obtain ⟨o, e, ho⟩ := loop N 0 ((l, name, 0, ()), ()) (by omega) rfl (by omega)
  unfold G_ref16_Find S_ref16_Find fnd
  simp only [e, Option.bind_some]
  rw [List.drop_zero] at ho
  rw [ho]; cases o <;> rfl

theorem ref16_Right_is (N : Nat) (hN : Big N) {l : List Grp} (hl : okGs l) : G_ref16_Right N (l, ()) = some (rightGs N l, ()) := by
  have hN' := hN
  unfold Big at hN'; obtain ⟨h1, h2⟩ := hl
  have loop := Tot.all (f := g_ref16_Right_4 N) (Inv := fun i x => x = ((l, (i : Int), ()), ())) (Y := fun o => ∃ y, o = .inl y) (No := fun o => ∃ y, o = .inr ((false, ()), y)) l.length (okGr N l)
    (fun m a ha => by
      subst ha
      rw [g_ref16_Right_4_succ]
      unfold s_ref16_Right_4
      exact Tot.brD (fun h => absurd h (by dsimp only; omega)) fun _ => Tot.some ⟨_, rfl⟩)
    (fun m i a Q ha hi rec no => by
      subst ha
      rw [g_ref16_Right_4_succ]
      unfold s_ref16_Right_4
      have hm : l[i] ∈ l := List.getElem_mem hi
      have d0 : decide ((0 : Int) ≤ (i : Int)) = true := decide_eq_true (by omega)
      have d1 : decide ((i : Int) < ((l.length : Nat) : Int)) = true := decide_eq_true (by omega)
      have hG := ref07_RightGroup_is N hN (h2 _ hm)
      have hF := ref16_Find_is N hN h1 l[i].1
      simp only [d0, d1, br_true, Int.toNat_natCast, at_lt hi, Option.bind_some, hG, hF, wi (i := i) (by omega)]
      have hok : okGr N l i = (rightG N l[i] && (decide (l[i].1.size ≤ 48) && decide (fnd l l[i].1 = (i : Int)))) := by unfold okGr; rw [at_lt hi]; first | done | rfl
      cases hw : rightG N l[i]
      · rw [hw] at hok
        exact Tot.some (no (by rw [hok]; rfl) _ ⟨_, rfl⟩)
      rw [hw] at hok
      by_cases hz : l[i].1.size ≤ 48
      · have d2 : decide ((48 : Int) < ((l[i].1.size : Nat) : Int)) = false := decide_eq_false (by omega)
        rw [decide_eq_true hz] at hok
        simp only [d2, Bool.not_true, br_false]
        by_cases hf : fnd l l[i].1 = (i : Int)
        · rw [decide_eq_true hf] at hok
          simp only [decide_eq_true hf, Bool.not_true, br_false]
          exact rec (by rw [hok]; rfl) _ rfl
        · rw [decide_eq_false hf] at hok
          simp only [decide_eq_false hf, Bool.not_false, br_true]
          exact Tot.some (no (by rw [hok]; rfl) _ ⟨_, rfl⟩)
      · have d2 : decide ((48 : Int) < ((l[i].1.size : Nat) : Int)) = true := decide_eq_true (by omega)
        rw [decide_eq_false hz] at hok
        simp only [d2, Bool.not_true, br_false, br_true]
        exact Tot.some (no (by rw [hok]; rfl) _ ⟨_, rfl⟩))
    N 0 ((l, 0, ()), ()) (by omega) rfl (by omega)
  obtain ⟨o, e, ho⟩ := loop
  unfold G_ref16_Right S_ref16_Right rightGs
  simp only [e, Option.bind_some]
  by_cases h : l.length ≤ 16
  · have d1 : decide ((16 : Int) < ((l.length : Nat) : Int)) = false := decide_eq_false (by omega)
    simp only [d1, br_false, decide_eq_true h, Bool.true_and]
    rw [Nat.sub_zero] at ho
    split at ho
    · rename_i hy; obtain ⟨y, rfl⟩ := ho; rw [hy]; rfl
    · rename_i hy; obtain ⟨y, rfl⟩ := ho; rw [Bool.not_eq_true] at hy; rw [hy]; rfl
  · have d1 : decide ((16 : Int) < ((l.length : Nat) : Int)) = true := decide_eq_true (by omega)
    simp only [d1, br_true, decide_eq_false h, Bool.false_and]

end Go.Proofs.Ytiiiipdnodgkmaa.Lt
