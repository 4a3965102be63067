-- PRINTED by print.py (a twelfth state) out of the translation. Not trusted: Lean checks it.
import Derived.Test.YtplgkdfmpbkfpaaHEx0
import Derived.Test.YtplgkdfmpbkfpaaOpen
namespace Go.Proofs.Ytplgkdfmpbkfpaa.HEx
open Go.RowKit Go.Proofs.YtplgkdfmpbkfpaaW.PrintWords Go.Proofs.YtplgkdfmpbkfpaaW.PrintLast Go.Proofs.YtplgkdfmpbkfpaaW.PrintMore
attribute [local go_sem] max2_int min2_int max_two min_two max_three min_three max_four min_four   -- for this text's walks alone
attribute [local go_sem] run_store_fnW fnW_nil fnW_75 fnW_76 fnW_77 fnW_78 fnW_79
set_option linter.unusedVariables false
set_option linter.unusedSimpArgs false

def B27 (x : S27) : Prop := x.f0.size ≤ 140737488351232 ∧ (Lit.int .i64 x.f1).wf = true ∧ (x.f2.length * 16 ≤ 140737488351232 ∧ ∀ yx_f2 ∈ x.f2, yx_f2.size ≤ 140737488351232) ∧ (Lit.int .i64 x.f3).wf = true ∧ (Lit.int .i64 x.f4).wf = true ∧ (Lit.int .i64 x.f5).wf = true
theorem op27 : Open.Opens Try.prog 27 k27 B27 := by
  have h := Open.opens_struct (fun x : S27 => (x.f0, x.f1, x.f2, x.f3, x.f4, x.f5)) (fun y => ⟨y.1, y.2.1, y.2.2.1, y.2.2.2.1, y.2.2.2.2.1, y.2.2.2.2.2⟩) (fun _ => rfl) Try.underlying27 (by kernel_rfl) (Open.opensFs_cons rfl (Open.opens_string (P := Try.prog) (t := 9) Try.underlying9 (by kernel_rfl)) (Open.opensFs_cons rfl (Open.opens_int (P := Try.prog) (t := 3) (k := .i64) Try.underlying3 (by kernel_rfl)) (Open.opensFs_cons rfl (Open.opens_slice (P := Try.prog) (t := 25) (e := 9) 16 (by kernel_rfl) Try.underlying25 (by kernel_rfl) (Open.opens_string (P := Try.prog) (t := 9) Try.underlying9 (by kernel_rfl))) (Open.opensFs_cons rfl (Open.opens_int (P := Try.prog) (t := 3) (k := .i64) Try.underlying3 (by kernel_rfl)) (Open.opensFs_cons rfl (Open.opens_int (P := Try.prog) (t := 3) (k := .i64) Try.underlying3 (by kernel_rfl)) (Open.opensFs_one rfl (Open.opens_int (P := Try.prog) (t := 3) (k := .i64) Try.underlying3 (by kernel_rfl))))))))
  exact h
end Go.Proofs.Ytplgkdfmpbkfpaa.HEx
