/- TaintsRight: what the law computes is true. -/
import Derived.Test.YtfifgcaielmbiaaTaiPTrA
import Derived.Test.YtfifgcaielmbiaaTaiFTrA
import Derived.Test.YtfifgcaielmbiaaTaiLTrA
namespace Go.Proofs.Ytfifgcaielmbiaa.TrA
open Go Go.VI
set_option linter.unusedVariables false
set_option linter.unusedSimpArgs false
set_option maxRecDepth 100000

def okTolB (N : Nat) (t : Tol) : Bool := (maybeB N t.1 && maybeB N t.2.1) && ((decide (t.2.2.2 = 0) || decide (1 ≤ t.2.2.2 ∧ t.2.2.2 ≤ 3)) && ((!t.2.2.1 || decide (t.2.1 = nameless)) && (t.2.2.1 || !decide (t.1 = nameless))))
def rightBears (N : Nat) (l : List Tol) : Bool := decide (l.length ≤ 16) && l.all (okTolB N)
def okTo (l : List Tol) : Prop := l.length ≤ 140737488355328 ∧ ∀ x ∈ l, okS x.1 ∧ okS x.2.1
theorem taints_RightBears_is (N : Nat) (hN : Big N) {l : List Tol} (hl : okTo l) : G_taints_RightBears N (l, ()) = some (rightBears N l, ()) := by
  have hN' := hN
  unfold Big at hN'; obtain ⟨h1, h2⟩ := hl
  have loop := Tot.all (f := g_taints_RightBears_2 N) (Inv := fun i x => x = ((l, l, (l.length : Int), (i : Int), ()), ())) (Y := fun o => ∃ y, o = .inl ((l, ()), y)) (No := fun o => ∃ y, o = .inr ((false, ()), y)) l.length (atP (okTolB N) l)
    (fun m a ha => by
      subst ha
      rw [g_taints_RightBears_2_succ]
      unfold s_taints_RightBears_2
      exact Tot.brD (fun h => absurd h (by dsimp only; omega)) fun _ => Tot.some ⟨_, rfl⟩)
    (fun m i a Q ha hi rec no => by
      subst ha
      rw [g_taints_RightBears_2_succ]
      unfold s_taints_RightBears_2
      have hm : l[i] ∈ l := List.getElem_mem hi
      have d0 : decide ((0 : Int) ≤ (i : Int)) = true := decide_eq_true (by omega)
      have d1 : decide ((i : Int) < ((l.length : Nat) : Int)) = true := decide_eq_true (by omega)
      simp only [d0, d1, br_true, Int.toNat_natCast, at_lt hi, Option.bind_some, taints_maybe_is hN (h2 _ hm).1, taints_maybe_is hN (h2 _ hm).2, taints_known_is, wi (i := i) (by omega)]
      rw [atP_lt hi] at rec no
      have hok : okTolB N l[i] = ((maybeB N l[i].1 && maybeB N l[i].2.1) && ((decide (l[i].2.2.2 = 0) || decide (1 ≤ l[i].2.2.2 ∧ l[i].2.2.2 ≤ 3)) && ((!l[i].2.2.1 || decide (l[i].2.1 = nameless)) && (l[i].2.2.1 || !decide (l[i].1 = nameless))))) := rfl
      cases ha : maybeB N l[i].1
      · exact Tot.some (no (by rw [hok, ha]; rfl) _ ⟨_, rfl⟩)
      cases hb : maybeB N l[i].2.1
      · exact Tot.some (no (by rw [hok, ha, hb]; rfl) _ ⟨_, rfl⟩)
      simp only [Bool.not_true, br_false]
      cases hc : decide (l[i].2.2.2 = 0) <;> cases hd : decide (1 ≤ l[i].2.2.2 ∧ l[i].2.2.2 ≤ 3) <;> cases he : l[i].2.2.1 <;> cases hf : decide (l[i].2.1 = nameless) <;> cases hg : decide (l[i].1 = nameless) <;>
        rw [ha, hb, hc, hd, he, hf, hg] at hok <;> first | exact Tot.some (no hok _ ⟨_, rfl⟩) | exact rec hok _ rfl)
    N 0 ((l, l, (l.length : Int), 0, ()), ()) (by omega) rfl (by omega)
  obtain ⟨o, e, ho⟩ := loop
  rw [Nat.sub_zero, all_full] at ho
  unfold G_taints_RightBears S_taints_RightBears rightBears
  simp only [e, Option.bind_some]
  split at ho
  · rename_i hy; obtain ⟨y, rfl⟩ := ho; rw [hy, Bool.and_true]
    show some (decide (((l.length : Nat) : Int) ≤ 16), ()) = _
    congr 2; rw [decide_eq_decide]; omega
  · rename_i hy; obtain ⟨y, rfl⟩ := ho; rw [Bool.not_eq_true] at hy; rw [hy, Bool.and_false]; rfl
theorem ref06_RightBears_is (N : Nat) (hN : Big N) {l : List Tol} (hl : okTo l) : G_ref06_RightBears N (l, ()) = some (rightBears N l, ()) := by
  have hN' := hN
  unfold Big at hN'; obtain ⟨h1, h2⟩ := hl
  have loop := Tot.all (f := g_ref06_RightBears_4 N) (Inv := fun i x => x = ((l, (i : Int), ()), ())) (Y := fun o => ∃ y, o = .inl y) (No := fun o => ∃ y, o = .inr ((false, ()), y)) l.length (atP (okTolB N) l)
    (fun m a ha => by
      subst ha
      rw [g_ref06_RightBears_4_succ]
      unfold s_ref06_RightBears_4
      exact Tot.brD (fun h => absurd h (by dsimp only; omega)) fun _ => Tot.some ⟨_, rfl⟩)
    (fun m i a Q ha hi rec no => by
      subst ha
      rw [g_ref06_RightBears_4_succ]
      unfold s_ref06_RightBears_4
      have hm : l[i] ∈ l := List.getElem_mem hi
      have d0 : decide ((0 : Int) ≤ (i : Int)) = true := decide_eq_true (by omega)
      have d1 : decide ((i : Int) < ((l.length : Nat) : Int)) = true := decide_eq_true (by omega)
      simp only [d0, d1, br_true, Int.toNat_natCast, at_lt hi, Option.bind_some, ref06_maybe_is hN (h2 _ hm).1, ref06_maybe_is hN (h2 _ hm).2, ref06_effect_is, wi (i := i) (by omega)]
      rw [atP_lt hi] at rec no
      have hok : okTolB N l[i] = ((maybeB N l[i].1 && maybeB N l[i].2.1) && ((decide (l[i].2.2.2 = 0) || decide (1 ≤ l[i].2.2.2 ∧ l[i].2.2.2 ≤ 3)) && ((!l[i].2.2.1 || decide (l[i].2.1 = nameless)) && (l[i].2.2.1 || !decide (l[i].1 = nameless))))) := rfl
      cases ha : maybeB N l[i].1
      · exact Tot.some (no (by rw [hok, ha]; rfl) _ ⟨_, rfl⟩)
      cases hb : maybeB N l[i].2.1
      · exact Tot.some (no (by rw [hok, ha, hb]; rfl) _ ⟨_, rfl⟩)
      simp only [Bool.not_true, br_false]
      cases hc : decide (l[i].2.2.2 = 0) <;> cases hd : decide (1 ≤ l[i].2.2.2 ∧ l[i].2.2.2 ≤ 3) <;> cases he : l[i].2.2.1 <;> cases hf : decide (l[i].2.1 = nameless) <;> cases hg : decide (l[i].1 = nameless) <;>
        rw [ha, hb, hc, hd, he, hf, hg] at hok <;> first | exact Tot.some (no hok _ ⟨_, rfl⟩) | exact rec hok _ rfl)
    N 0 ((l, 0, ()), ()) (by omega) rfl (by omega)
  obtain ⟨o, e, ho⟩ := loop
  rw [Nat.sub_zero, all_full] at ho
  unfold G_ref06_RightBears S_ref06_RightBears rightBears
  simp only [e, Option.bind_some]
  by_cases h : l.length ≤ 16
  · have d1 : decide ((16 : Int) < ((l.length : Nat) : Int)) = false := decide_eq_false (by omega)
    simp only [d1, br_false, decide_eq_true h, Bool.true_and]
    split at ho
    · rename_i hy; obtain ⟨y, rfl⟩ := ho; rw [hy]; rfl
    · rename_i hy; obtain ⟨y, rfl⟩ := ho; rw [Bool.not_eq_true] at hy; rw [hy]; rfl
  · have d1 : decide ((16 : Int) < ((l.length : Nat) : Int)) = true := decide_eq_true (by omega)
    simp only [d1, br_true, decide_eq_false h, Bool.false_and]
theorem known_is (m : Nat) : G_law06_known (m + 300) () = some (true, ()) := by kernel_rfl
theorem pureTaintsRight (x : List Tol × List Tai × Unit) (hw : Ty.wf (.slice tyTol) x.1 ∧ Ty.wf (.slice tyTai) x.2.1 ∧ True) : ∃ N, G_law06_TaintsRight N x = some (true, ()) := by
  obtain ⟨l, xs, ⟨⟩⟩ := x
  have hl : okTo l := ⟨Nat.le_trans hw.1.1 reach_le, fun x hx => ⟨Nat.le_trans (hw.1.2 x hx).1 reach_le, Nat.le_trans (hw.1.2 x hx).2.1 reach_le⟩⟩
  have hx : okT xs := ⟨Nat.le_trans hw.2.1.1 reach_le, fun x hx => ⟨Nat.le_trans (hw.2.1.2 x hx).1 reach_le, Nat.le_trans (hw.2.1.2 x hx).2.1 reach_le⟩⟩
  clear hw
  refine ⟨281474976710656 + 300, ?_⟩
  have hk := known_is 281474976710656
  have hN := big
  generalize 281474976710656 + 300 = N at *
  obtain ⟨⟨b1, ⟨⟩⟩, e1, k1⟩ := ref06_Light_tot N hN l xs hl.1 hx.1
  unfold G_law06_TaintsRight S_law06_TaintsRight
  simp only [e1, hk, Option.bind_some]
  cases b1
  · rfl
  simp only [Bool.not_true, br_false, taints_Right_is N hN hx, ref06_Right_is N hN hx, taints_RightBears_is N hN hl, ref06_RightBears_is N hN hl, Option.bind_some, bEq_beq, beq_self_eq_true, br_true]
end Go.Proofs.Ytfifgcaielmbiaa.TrA
