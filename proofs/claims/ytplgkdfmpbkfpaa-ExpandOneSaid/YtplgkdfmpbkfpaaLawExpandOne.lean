/- The statement ExpandOne: for every input the law returns true, and each argument reads behind the call as it read before. The pure statement is proved in YtplgkdfmpbkfpaaPureExpandOne.lean; the walk is printed by a program of mine on the kit's printer. -/
import Derived.Test.YtplgkdfmpbkfpaaRows
import Derived.Test.YtplgkdfmpbkfpaaHEx10
import Derived.Test.YtplgkdfmpbkfpaaPureExpandOne
import Derived.Test.YtplgkdfmpbkfpaaHExOp
import Derived.WalkKit
import Derived.ProofKit
import Derived.OpenShut
import Derived.ShutString
import Derived.ChangeOld
import Derived.Below
import Derived.SizedLaws
import Derived.Carry
import Derived.WideShapes
namespace Go.Proofs.Ytplgkdfmpbkfpaa.expandOne
open Go.ChangeShapes Go.WideShapes Go.ChangeAt Go.RowKit Go.Proofs.Ytplgkdfmpbkfpaa.HEx Go.Proofs.YtplgkdfmpbkfpaaW.PrintWords
open Go.ChangeMaps (open_string shut_string)
set_option linter.unusedVariables false
theorem own : ownKnob Try.prog.godebug = none := by kernel_rfl
theorem laidOut : laidOutB Try.prog = true := by kernel_rfl
set_option maxRecDepth 100000 in
theorem lifted (os : Os) (started : os.Started) (H : Type) (enc : TypeId × Value → H) :
    ReturnsInHanded {} Try.checked os 7 .any (Rows.expandOneSpec.pre6 enc Try.prog Try.f7 Rows.expandOneRow.domain false) (Rows.expandOneSpec.post enc Try.prog Try.f7 false true false false) := by
  refine returnsInHanded_of_change_sized (C := Try.checked) own started (by kernel_rfl) Try.func7
    (ChangeSpec.witness6 (enc := enc) (C := Try.checked) false ⟨#[], #[.slice none 0 0, .agg #[.string ByteArray.empty, .int .i64 0, .slice none 0 0, .int .i64 0, .int .i64 0, .int .i64 0], .int .u8 0], []⟩ 8 (by kernel_rfl) (by kernel_rfl) (by kernel_rfl) (by kernel_rfl)) ?_
  intro W base args ds gs before hval0 hW hcnd hsz0 _
  have hsz : (DataW.weightsEach Try.prog (Try.f7.params.toList ++ Rows.expandOneSpec.plain.varTypes Try.prog) (ds ++ gs)).all (· ≤ reachBytes) = true := hsz0
  have hval : ∀ (j : Nat) t v, Try.f7.params[j]? = some t → args[j]? = some v → Value.okWide Try.prog W .any base t v := hval0
  have hW' := hW
  obtain ⟨p, q, hA0, hV, rfl, hfz, hnd⟩ := hW
  have hA : DataW.TrodAll enc Try.prog W 0 (fun _ => true) true Try.f7.params.toList args.toList ds p := hA0
  rw [Try.params7] at hA hval hsz
  obtain ⟨v0, vs0, d0, ds0, p0, q0, hargs, rfl, rfl, h0, r0⟩ := trodAll_cons hA
  obtain ⟨v1, vs1, d1, ds1, p1, q1, rfl, rfl, rfl, h1, r1⟩ := trodAll_cons r0
  obtain ⟨v2, vs2, d2, ds2, p2, q2, rfl, rfl, rfl, h2, r2⟩ := trodAll_cons r1
  obtain ⟨rfl, rfl, rfl⟩ := trodAll_nil r2
  obtain rfl : args = #[v0, v1, v2] := by cases args; simp_all
  obtain ⟨rfl, rfl⟩ := trodVars_none hV
  have k0 := h0
  have lt0 : ∀ x ∈ p0, x.block < W.heap.size := by obtain ⟨m, hm⟩ := k0; exact DataW.trod_lt m _ _ _ hm
  obtain ⟨a0, len0, cap0, rfl⟩ := okWide_slice Try.underlying22 (hval 0 22 v0 rfl rfl)
  obtain ⟨x0, K0, B0_⟩ := Open.opens_arg (Open.opens_slice (P := Try.prog) (t := 22) (e := 27) 72 (by kernel_rfl) Try.underlying22 (by kernel_rfl) op27) hsz (j := 0) (t := 22) rfl rfl h0
  obtain ⟨A0, c0, e0, hc0, hr0⟩ : ∃ A c, [Value.slice a0 len0 cap0] = [.slice A x0.length c] ∧ x0.length ≤ c ∧ Kd.C k27 W A x0.length x0 := K0
  obtain ⟨rfl, rfl, rfl⟩ : a0 = A0 ∧ len0 = x0.length ∧ cap0 = c0 := by simpa using e0
  have k1 := h1
  have lt1 : ∀ x ∈ p1, x.block < W.heap.size := by obtain ⟨m, hm⟩ := k1; exact DataW.trod_lt m _ _ _ hm
  obtain ⟨cs1, rfl, _⟩ := okWide_struct Try.underlying27 (hval 1 27 v1 rfl rfl)
  obtain ⟨x1, K1, B1_⟩ := Open.opens_arg op27 hsz (j := 1) (t := 27) rfl rfl h1
  obtain ⟨A1_2, c1_2, e1, hc1_2, hr1_2⟩ := k27_open K1
  obtain rfl : cs1 = #[.string x1.f0, .int .i64 x1.f1, .slice A1_2 x1.f2.length c1_2, .int .i64 x1.f3, .int .i64 x1.f4, .int .i64 x1.f5] := by cases cs1; simpa [Value.cells] using e1
  obtain ⟨x2, rfl, rfl, rfl, w2⟩ := open_int Try.underlying5 (hval 2 5 v2 rfl rfl) h2
  clear hA0 hval0 hsz0 hsz
  refine (HEx.triremelaw21_ExpandOne.walk Pure.ExpandOne x0 a0 cap0 x1 A1_2 c1_2 x2 W hr0 hc0 B0_ hr1_2 hc1_2 B1_ w2).mono fun e W' ⟨he, bel⟩ => ?_
  subst he
  exact ⟨_, rfl, _, _, _, [], _, [], hW', trodAll_mk1 (shut_bool Try.underlying4 _), (trodAll_cons_mk (Below.trod laidOut (by kernel_rfl) (of_decide_eq_true (by kernel_rfl)) k0 bel lt0) (trodAll_cons_mk (Below.trod laidOut (by kernel_rfl) (of_decide_eq_true (by kernel_rfl)) k1 bel lt1) (trodAll_cons_mk (shut_int Try.underlying5 w2) trodAll_mk0))), rfl, bel.frame _, fun h => by cases h⟩
theorem over : Rows.expandOneRow.holds Try.pinned (OpenSpec.ofChange Rows.expandOneSpec) :=
  OpenClaim.holds_of_wide 7 Try.f7 rfl rfl rfl rfl rfl rfl rfl ⟨rfl, rfl, rfl, rfl, rfl⟩ rfl rfl rfl rfl rfl (by kernel_rfl) Try.func7 (by kernel_rfl)
    (of_decide_eq_true (by kernel_rfl)) (by unfold Func.isWrapper; first | (rw [if_pos (by decide +kernel)]; kernel_rfl) | (rw [if_neg (by decide +kernel)]; exact ⟨rfl, rfl⟩))
    (fun os started H enc _ => lifted os started H enc)
theorem proved : Rows.ExpandOneSaid := over
#print axioms proved
end Go.Proofs.Ytplgkdfmpbkfpaa.expandOne
namespace Go.Proofs.Ytplgkdfmpbkfpaa
/-- The row, under a short name, for the claim. -/
theorem expandOne_holds : Rows.ExpandOneSaid := expandOne.proved
end Go.Proofs.Ytplgkdfmpbkfpaa
