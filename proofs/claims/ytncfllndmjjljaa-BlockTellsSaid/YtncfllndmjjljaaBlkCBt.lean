/- The block chapter: what its arguments are like. -/
import Derived.Test.YtncfllndmjjljaaYrdPBt
namespace Go.Proofs.Ytncfllndmjjljaa.Bt
open Go Go.VI
set_option linter.unusedVariables false
set_option linter.unusedSimpArgs false
set_option maxRecDepth 100000

@[reducible] def tyMach0 : Ty := .agg (.pair .str (.pair .str (.pair tyRes0 (.pair (.slice tyLab0) (.pair (.slice (.agg (.pair .str (.pair .str (.int .i64))))) .bool)))))
@[reducible] def tyBound : Ty := .agg (.pair tyPod .str)
@[reducible] def tyBudget : Ty := .agg (.pair .str (.pair (.slice tyLab0) (.int .i64)))
theorem okM_of0 {m : Mach} (h : Ty.wf tyMach0 m) : okM m := by
  have h : Ty.wf .str m.1 ∧ Ty.wf .str m.2.1 ∧ Ty.wf tyRes0 m.2.2.1 ∧ Ty.wf (.slice tyLab0) m.2.2.2.1 ∧ Ty.wf (.slice (.agg (.pair .str (.pair .str (.int .i64))))) m.2.2.2.2.1 ∧ _ := h
  obtain ⟨h1, h2, _, h4, h5, _⟩ := h
  exact ⟨Nat.le_trans h1 reach_le, Nat.le_trans h2 reach_le, okL_of0 h4, Nat.le_trans h5.1 reach_le, fun x hx => ⟨Nat.le_trans (h5.2 x hx).1 reach_le, Nat.le_trans (h5.2 x hx).2.1 reach_le⟩⟩
theorem okY_of {ms : List Mach} {bs : List Bound} (h1 : Ty.wf (.slice tyMach0) ms) (h2 : Ty.wf (.slice tyBound) bs) : okY ms bs :=
  ⟨Nat.le_trans h1.1 reach_le, fun m hm => okM_of0 (h1.2 m hm), Nat.le_trans h2.1 reach_le, fun b hb => ⟨okP_of (h2.2 b hb).1, Nat.le_trans (h2.2 b hb).2 reach_le⟩⟩
theorem okBgs_of {l : List Budget} (h : Ty.wf (.slice tyBudget) l) : l.length ≤ 140737488355328 ∧ ∀ b ∈ l, okBg b :=
  ⟨Nat.le_trans h.1 reach_le, fun b hb => ⟨Nat.le_trans (h.2 b hb).1 reach_le, okL_of0 (h.2 b hb).2.1⟩⟩
theorem known_is (m : Nat) : G_law25_known (m + 300) () = some (true, ()) := by kernel_rfl
theorem goodB_of {N : Nat} {ms : List Mach} {bs : List Bound} (h : okY ms bs) (hl : bs.length ≤ 40) (hf : facY N ms bs) : GoodB bs :=
  ⟨by omega, fun b hb => ⟨(h.bb b hb).1.labels, sortL_of (hf.pods b hb).labels⟩⟩
theorem goodG_of {N : Nat} {l : List Budget} (h : ∀ b ∈ l, okBg b) (hf : facB N l) : GoodG l :=
  ⟨by have := hf.len; omega, fun g hg => ⟨(hf.num g hg).1, (hf.num g hg).2.1, (h g hg).2⟩⟩
end Go.Proofs.Ytncfllndmjjljaa.Bt
