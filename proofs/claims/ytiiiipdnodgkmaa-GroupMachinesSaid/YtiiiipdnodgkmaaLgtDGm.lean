/- A light group has few labels and taints. -/
import Derived.Test.YtiiiipdnodgkmaaGrpLGm
import Derived.Test.YtiiiipdnodgkmaaNumSGm
namespace Go.Proofs.Ytiiiipdnodgkmaa.Gm
open Go Go.VI
set_option linter.unusedVariables false
set_option linter.unusedSimpArgs false
set_option maxRecDepth 100000

theorem LightMachine_few (N : Nat) (hN : Big N) (m : Mach) (hm : okM m) : Tot (G_ref07_LightMachine N (m, ())) fun v => v.1 = true → m.2.2.2.1.length ≤ 40 ∧ m.2.2.2.2.1.length ≤ 40 := by
  obtain ⟨⟨b, ⟨⟩⟩, e, -⟩ := LightMachine_tot N hN m hm
  refine ⟨(b, ()), e, fun hb => ?_⟩
  have hb : b = true := hb
  subst hb
  unfold G_ref07_LightMachine S_ref07_LightMachine at e
  rw [br_dec, br_dec] at e
  split at e
  · split at e
    · constructor
      · refine Classical.byContradiction fun hc => ?_
        have h5 : G_ref05_Light N (m.2.2.2.1, ()) = some (false, ()) := by
          unfold G_ref05_Light S_ref05_Light
          dsimp only
          rw [decide_eq_true (show (40 : Int) < ((m.2.2.2.1.length : Nat) : Int) by omega), br_true]
        have h5' : G_ref05_Light N (((m, ()) : Mach × Unit).1.2.2.2.1, ()) = some (false, ()) := h5
        rw [h5'] at e
        simp only [Option.bind_some, br_false] at e
        cases e
      · refine Classical.byContradiction fun hc => ?_
        have h6 : G_ref06_Light N ([], m.2.2.2.2.1, ()) = some (false, ()) := by
          unfold G_ref06_Light S_ref06_Light
          dsimp only
          rw [decide_eq_false (show ¬ (40 : Int) < ((([] : List (ByteArray × ByteArray × Bool × Int)).length : Nat) : Int) by decide), br_false, decide_eq_true (show (40 : Int) < ((m.2.2.2.2.1.length : Nat) : Int) by omega), br_true]
        have h6' : G_ref06_Light N ([], ((m, ()) : Mach × Unit).1.2.2.2.2.1, ()) = some (false, ()) := h6
        rw [h6'] at e
        cases h5 : G_ref05_Light N (((m, ()) : Mach × Unit).1.2.2.2.1, ()) with
        | none => rw [h5] at e; cases e
        | some v =>
          rw [h5] at e
          obtain ⟨c, ⟨⟩⟩ := v
          simp only [Option.bind_some] at e
          cases c <;> cases e
    · cases e
  · cases e
theorem Light1_tot (N : Nat) (hN : Big N) {g : Grp} (hg : okG g) : Tot (G_ref16_Light N ([g], ())) fun v => v.1 = true → litG g := by
  have hN' := hN
  unfold Big at hN'
  obtain ⟨M, rfl⟩ : ∃ M, N = M + 2 := ⟨N - 2, by omega⟩
  obtain ⟨⟨b, ⟨⟩⟩, e, k⟩ := LightMachine_few (M + 2) hN g.2.2.2.1 hg.2
  have e' : G_ref07_LightMachine (M + 2) ((g.2.2.2.1.1, g.2.2.2.1.2.1, g.2.2.2.1.2.2.1, g.2.2.2.1.2.2.2.1, g.2.2.2.1.2.2.2.2.1, g.2.2.2.1.2.2.2.2.2), ()) = _ := e
  unfold G_ref16_Light S_ref16_Light
  refine Tot.brD (fun _ => Tot.some fun h => by cases h) fun _ => ?_
  rw [g_ref16_Light_4_succ]
  unfold s_ref16_Light_4
  have d0 : decide ((0 : Int) < ((([g] : List Grp).length : Nat) : Int)) = true := by rfl
  have d1 : decide ((0 : Int) ≤ 0) = true := rfl
  have a0 : ([g] : List Grp)[Int.toNat 0]? = some g := rfl
  simp only [d0, d1, br_true, a0, Option.bind_some, e']
  by_cases hz : g.1.size ≤ 300
  · have d2 : decide ((300 : Int) < ((g.1.size : Nat) : Int)) = false := decide_eq_false (by omega)
    simp only [d2, br_false]
    cases b
    · exact Tot.some fun h => by cases h
    · simp only [Bool.not_true, br_false]
      have hk := k rfl
      rw [g_ref16_Light_4_succ]
      unfold s_ref16_Light_4
      have d3 : decide (IntKind.i64.wrap (0 + 1) < ((([g] : List Grp).length : Nat) : Int)) = false := by rfl
      dsimp only
      rw [d3, br_false, Option.bind_some, Sum.elim_inl]
      exact Tot.some fun _ => ⟨by omega, by omega, by omega⟩
  · have d2 : decide ((300 : Int) < ((g.1.size : Nat) : Int)) = true := decide_eq_true (by omega)
    simp only [d2, br_true]
    exact Tot.some fun h => by cases h
end Go.Proofs.Ytiiiipdnodgkmaa.Gm
