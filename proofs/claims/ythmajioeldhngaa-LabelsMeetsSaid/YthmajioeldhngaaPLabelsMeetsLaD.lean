/- LabelsMeets: what the law computes is true. -/
import Derived.Test.YthmajioeldhngaaLmePLaD
import Derived.Test.YthmajioeldhngaaPLabelsRightLaD
namespace Go.Proofs.Ythmajioeldhngaa.LaD
open Go Go.VI
set_option linter.unusedVariables false
set_option linter.unusedSimpArgs false
set_option maxRecDepth 100000

def lightRight (N : Nat) (t : Term) : Bool := (match G_ref05_LightTerm N (t, ()) with
  | some v => v.1
  | none => false) && rightT N t
theorem pureLabelsMeets (x : Labels × Labels × List Term × Unit) (hw : Ty.wf (.slice tyLab) x.1 ∧ Ty.wf (.slice tyLab) x.2.1 ∧ Ty.wf (.slice tyTerm) x.2.2.1 ∧ True) : ∃ N, G_law05_LabelsMeets N x = some (true, ()) := by
  obtain ⟨l, xs, ts, ⟨⟩⟩ := x
  have hl : okL l := okL_of hw.1
  have hx : okL xs := okL_of hw.2.1
  have ht : ts.length ≤ 140737488355328 ∧ ∀ t ∈ ts, okTm t := ⟨Nat.le_trans hw.2.2.1.1 reach_le, fun t h => okTm_of (hw.2.2.1.2 t h)⟩
  clear hw
  refine ⟨281474976710656 + 300, ?_⟩
  have hk := known_is 281474976710656
  have hN := big
  generalize 281474976710656 + 300 = N at *
  obtain ⟨⟨b1, ⟨⟩⟩, e1, k1⟩ := ref05_Light_tel N hN hl
  obtain ⟨⟨b2, ⟨⟩⟩, e2, k2⟩ := ref05_Light_tel N hN hx
  unfold G_law05_LabelsMeets S_law05_LabelsMeets
  simp only [e1, e2, hk, Option.bind_some]
  cases b1
  · rfl
  cases b2
  · rfl
  simp only [Bool.not_true, br_false]
  by_cases hz : (20 : Int) < ((ts.length : Nat) : Int)
  · rw [decide_eq_true hz]; rfl
  rw [decide_eq_false hz, br_false]
  simp only [ref05_Right_is N hN hl, ref05_Right_is N hN hx, Option.bind_some]
  cases c1 : rightL N l
  · rfl
  cases c2 : rightL N xs
  · rfl
  have hs := sortL_of c1
  simp only [Bool.not_true, br_false]
  have hN' := hN
  unfold Big at hN'
  obtain ⟨o, e, ho⟩ := Tot.allL (f := g_law05_LabelsMeets_4 N) (l := ts) (q := lightRight N) (Inv := fun i x => x = ((l, xs, ts, (i : Int), ()), ())) (Y := fun o => o = .inl ((l, xs, ts, ()), ())) (No := fun o => ∃ y, o = .inr ((true, ()), y))
    (fun m a ha => by
      subst ha
      rw [g_law05_LabelsMeets_4_succ]
      unfold s_law05_LabelsMeets_4
      exact Tot.brD (fun h => absurd h (by dsimp only; omega)) fun _ => Tot.some rfl)
    (fun m i a Q hi ha rec no => by
      subst ha
      rw [g_law05_LabelsMeets_4_succ]
      unfold s_law05_LabelsMeets_4
      have q1 := ht.2 ts[i] (List.getElem_mem hi)
      have d0 : decide ((0 : Int) ≤ (i : Int)) = true := decide_eq_true (by omega)
      have d1 : decide ((i : Int) < ((ts.length : Nat) : Int)) = true := decide_eq_true (by omega)
      obtain ⟨⟨b3, ⟨⟩⟩, e3, k3⟩ := ref05_LightTerm_tot N hN q1
      have e3' : G_ref05_LightTerm N ((ts[i].1, ts[i].2.1, ts[i].2.2), ()) = _ := e3
      have e4 : G_ref05_RightTerm N ((ts[i].1, ts[i].2.1, ts[i].2.2), ()) = _ := ref05_RightTerm_is N hN q1
      have hq : lightRight N ts[i] = (b3 && rightT N ts[i]) := by unfold lightRight; rw [e3]
      simp only [d0, d1, br_true, Int.toNat_natCast, at_lt hi, Option.bind_some, wi (i := i) (by omega), e3', e4, hk]
      cases b3
      · exact Tot.some (no (by rw [hq]; rfl) _ ⟨_, rfl⟩)
      cases c3 : rightT N ts[i]
      · exact Tot.some (no (by rw [hq, c3]; rfl) _ ⟨_, rfl⟩)
      have hm : G_labels_Meets N (l, (ts[i].1, ts[i].2.1, ts[i].2.2), ()) = _ := labels_Meets_is N hN hl hs q1 c3
      have hm' : G_ref05_Meets N (l, (ts[i].1, ts[i].2.1, ts[i].2.2), ()) = _ := ref05_Meets_is N hN hl q1 c3
      simp only [hm, hm', Option.bind_some, bEq_beq, beq_self_eq_true, Bool.not_true, br_false]
      exact rec (by rw [hq, c3]; rfl) _ rfl)
    N ((l, xs, ts, 0, ()), ()) (by omega) rfl
  simp only [e, Option.bind_some]
  rcases ho with ⟨hall, rfl⟩ | ⟨_, y, rfl⟩
  · have hall : ∀ t ∈ ts, okTm t ∧ rightT N t = true := fun t h => ⟨ht.2 t h, by
      have := List.all_eq_true.1 hall t h
      unfold lightRight at this
      exact (Bool.and_eq_true _ _ ▸ this).2⟩
    simp only [Sum.elim_inl, labels_Has_is N hN hl hs hx, ref05_Has_is N hN hl hx, labels_All_is N hN hl hs ht.1 hall, ref05_All_is N hN hl ht.1 hall, Option.bind_some, bEq_beq, beq_self_eq_true, br_true]
  · rfl
end Go.Proofs.Ythmajioeldhngaa.LaD
