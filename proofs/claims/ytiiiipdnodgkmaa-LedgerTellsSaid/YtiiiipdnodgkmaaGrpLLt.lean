/- Groups that are light. -/
import Derived.Test.YtiiiipdnodgkmaaLgtCLt
import Derived.Test.YtiiiipdnodgkmaaGrpSLt
namespace Go.Proofs.Ytiiiipdnodgkmaa.Lt
open Go Go.VI
set_option linter.unusedVariables false
set_option linter.unusedSimpArgs false
set_option maxRecDepth 100000

@[reducible] def tyGrp : Ty := (.agg (.pair .str (.pair (.int .i64) (.pair (.int .i64) (.pair tyMach (.pair (.int .i64) (.int .i64)))))))
theorem okG_of {g : Grp} (h : Ty.wf tyGrp g) : okG g := by
  have h : g.1.size ≤ reachBytes ∧ _ ∧ _ ∧ Ty.wf tyMach g.2.2.2.1 ∧ _ := h
  exact ⟨Nat.le_trans h.1 reach_le, okM_of h.2.2.2.1⟩
theorem okGs_of {l : List Grp} (h : Ty.wf (.slice tyGrp) l) : okGs l := ⟨Nat.le_trans h.1 reach_le, fun g hg => okG_of (h.2 g hg)⟩

theorem ref16_Light_tot (N : Nat) (hN : Big N) {l : List Grp} (hl : okGs l) : Tot (G_ref16_Light N (l, ())) fun v => v.1 = true → l.length ≤ 20 ∧ ∀ g ∈ l, g.1.size ≤ 300 := by
  have hN' := hN
  unfold Big at hN'; obtain ⟨h1, h2⟩ := hl
  have loop := Tot.all (f := g_ref16_Light_4 N) (Inv := fun i x => x = ((l, (i : Int), ()), ()) ∧ ∀ j (hj : j < l.length), j < i → l[j].1.size ≤ 300) (Y := fun o => (∃ y, o = .inl y) ∧ ∀ g ∈ l, g.1.size ≤ 300) (No := fun o => ∃ y, o = .inr ((false, ()), y)) l.length
    (atP (fun g => decide (g.1.size ≤ 300) && match G_ref07_LightMachine N (g.2.2.2.1, ()) with
      | some v => v.1
      | none => false) l)
    (fun m a ha => by
      obtain ⟨rfl, ha⟩ := ha
      rw [g_ref16_Light_4_succ]
      unfold s_ref16_Light_4
      refine Tot.brD (fun h => absurd h (by dsimp only; omega)) fun _ => Tot.some ⟨⟨_, rfl⟩, fun g hg => ?_⟩
      obtain ⟨j, hj, rfl⟩ := List.mem_iff_getElem.1 hg
      exact ha j hj hj)
    (fun m i a Q ha hi rec no => by
      obtain ⟨rfl, ha⟩ := ha
      rw [g_ref16_Light_4_succ]
      unfold s_ref16_Light_4
      have hm : l[i] ∈ l := List.getElem_mem hi
      have d0 : decide ((0 : Int) ≤ (i : Int)) = true := decide_eq_true (by omega)
      have d1 : decide ((i : Int) < ((l.length : Nat) : Int)) = true := decide_eq_true (by omega)
      obtain ⟨⟨b, ⟨⟩⟩, e, _⟩ := LightMachine_tot N hN l[i].2.2.2.1 (h2 _ hm).2
      have e' : G_ref07_LightMachine N ((l[i].2.2.2.1.1, l[i].2.2.2.1.2.1, l[i].2.2.2.1.2.2.1, l[i].2.2.2.1.2.2.2.1, l[i].2.2.2.1.2.2.2.2.1, l[i].2.2.2.1.2.2.2.2.2), ()) = _ := e
      simp only [d0, d1, br_true, Int.toNat_natCast, at_lt hi, Option.bind_some, e', wi (i := i) (by omega)]
      rw [atP_lt hi] at rec no
      simp only [e] at rec no
      by_cases hz : l[i].1.size ≤ 300
      · have d2 : decide ((300 : Int) < ((l[i].1.size : Nat) : Int)) = false := decide_eq_false (by omega)
        rw [decide_eq_true hz] at rec no
        simp only [d2, br_false]
        cases b
        · exact Tot.some (no rfl _ ⟨_, rfl⟩)
        · refine rec rfl _ ⟨rfl, fun j hj hji => ?_⟩
          by_cases e : j = i
          · subst e; exact hz
          · exact ha j hj (by omega)
      · have d2 : decide ((300 : Int) < ((l[i].1.size : Nat) : Int)) = true := decide_eq_true (by omega)
        rw [decide_eq_false hz] at no
        simp only [d2, br_true]
        exact Tot.some (no rfl _ ⟨_, rfl⟩))
    N 0 ((l, 0, ()), ()) (by omega) ⟨rfl, fun j _ h => by omega⟩ (by omega)
  obtain ⟨o, e, ho⟩ := loop
  unfold G_ref16_Light S_ref16_Light
  simp only [e, Option.bind_some]
  refine Tot.brD (fun _ => Tot.some fun h => by cases h) fun h => ?_
  have h : ¬ ((20 : Int) < ((l.length : Nat) : Int)) := h
  split at ho
  · obtain ⟨⟨y, rfl⟩, ho⟩ := ho; exact Tot.some fun _ => ⟨by omega, ho⟩
  · obtain ⟨y, rfl⟩ := ho; exact Tot.some fun h => by cases h

end Go.Proofs.Ytiiiipdnodgkmaa.Lt
