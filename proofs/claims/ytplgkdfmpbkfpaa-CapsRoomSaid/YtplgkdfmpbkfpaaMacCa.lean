/- Machines: whether they are right is always told. -/
import Derived.Test.YtplgkdfmpbkfpaaLabCa
namespace Go.Proofs.Ytplgkdfmpbkfpaa.Ca
open Go Go.VI
set_option linter.unusedVariables false
set_option maxRecDepth 100000

abbrev Mach := ByteArray × ByteArray × Res × List (ByteArray × ByteArray) × List (ByteArray × ByteArray × Int) × Bool
def okM (m : Mach) : Prop := okS m.1 ∧ okS m.2.1 ∧ okL m.2.2.2.1 ∧ okT m.2.2.2.2.1

theorem RightMachine_tot (N : Nat) (hN : Big N) (m : Mach) (hm : okM m) : Tot (G_ref07_RightMachine N (m, ())) fun v => v.1 = true → okR m.2.2.1 := by
  obtain ⟨h1, h2, h3, h4⟩ := hm
  unfold G_ref07_RightMachine S_ref07_RightMachine
  refine Tot.bind (ref07_maybe_tot N hN _ h1) fun v _ => Tot.br (fun _ => ?_) fun _ => Tot.some fun h => by cases h
  refine Tot.bind (ref07_maybe_tot N hN _ h2) fun v _ => Tot.br (fun _ => ?_) fun _ => Tot.some fun h => by cases h
  refine Tot.bind (P := fun v => v.1 = decide (okR m.2.2.1)) ⟨_, ref04_Right_is N _, rfl⟩ fun v hv => Tot.br (fun hb => ?_) fun _ => Tot.some fun h => by cases h
  have hr : okR m.2.2.1 := of_decide_eq_true (hv ▸ hb)
  refine Tot.bind (ref05_Right_tot N hN _ h3) fun v _ => Tot.br (fun _ => ?_) fun _ => Tot.some fun h => by cases h
  exact Tot.bind (ref06_Right_tot N hN _ h4) fun v _ => Tot.some fun _ => hr

theorem LightMachine_tot (N : Nat) (hN : Big N) (m : Mach) (hm : okM m) : Tot (G_ref07_LightMachine N (m, ())) fun v => True := by
  obtain ⟨h1, h2, h3, h4⟩ := hm
  unfold G_ref07_LightMachine S_ref07_LightMachine
  refine Tot.brD (fun _ => Tot.brD (fun _ => ?_) fun _ => Tot.some trivial) fun _ => Tot.some trivial
  refine Tot.bind (ref05_Light_tot N hN _ h3) fun v _ => Tot.br (fun _ => ?_) fun _ => Tot.some trivial
  exact Tot.bind (ref06_Light_tot N hN [] _ (Nat.zero_le _) h4.1) fun v _ => Tot.some trivial

@[reducible] def tyMach : Ty := (.agg (.pair .str (.pair .str (.pair (.agg (.pair (.int .i64) (.pair (.int .i64) (.pair (.int .i64) (.pair (.int .i64) (.int .i64)))))) (.pair (.slice (.agg (.pair .str .str))) (.pair (.slice (.agg (.pair .str (.pair .str (.int .i64))))) .bool))))))
theorem reach_le : reachBytes ≤ 140737488355328 := by decide
theorem okM_of {m : Mach} (h : Ty.wf tyMach m) : okM m := by
  have h : m.1.size ≤ reachBytes ∧ m.2.1.size ≤ reachBytes ∧ _ ∧ (m.2.2.2.1.length ≤ reachBytes ∧ ∀ x ∈ m.2.2.2.1, x.1.size ≤ reachBytes ∧ x.2.size ≤ reachBytes) ∧ (m.2.2.2.2.1.length ≤ reachBytes ∧ ∀ x ∈ m.2.2.2.2.1, x.1.size ≤ reachBytes ∧ x.2.1.size ≤ reachBytes ∧ _) ∧ _ := h
  obtain ⟨h1, h2, _, ⟨h3, h4⟩, ⟨h5, h6⟩, _⟩ := h
  have r := reach_le
  exact ⟨Nat.le_trans h1 r, Nat.le_trans h2 r, ⟨Nat.le_trans h3 r, fun x hx => ⟨Nat.le_trans (h4 x hx).1 r, Nat.le_trans (h4 x hx).2 r⟩⟩, ⟨Nat.le_trans h5 r, fun x hx => ⟨Nat.le_trans (h6 x hx).1 r, Nat.le_trans (h6 x hx).2.1 r⟩⟩⟩
end Go.Proofs.Ytplgkdfmpbkfpaa.Ca
