/- The statement LedgerTells: for every input the law returns true, and each argument reads behind the call as it read before. The walk is one run of an interpreter that is proved right (the texts VIa..); what is computed is reasoned about in YtiiiipdnodgkmaaPLedgerTells. -/
import Derived.Test.YtiiiipdnodgkmaaRows
import Derived.Test.YtiiiipdnodgkmaaPLedgerTellsLt
import Derived.WalkKit
import Derived.ProofKit
import Derived.OpenShut
import Derived.ShutString
import Derived.ChangeOld
import Derived.Below
import Derived.SizedLaws
import Derived.Carry
import Derived.WideShapes
namespace Go.Proofs.Ytiiiipdnodgkmaa.ledgerTells
open Go.ChangeShapes Go.WideShapes Go.ChangeAt Go.RowKit Go.VI Go.Proofs.Ytiiiipdnodgkmaa.Lt
open Go.ChangeMaps (open_string shut_string)
set_option linter.unusedVariables false
theorem own : ownKnob Try.prog.godebug = none := by kernel_rfl
theorem laidOut : laidOutB Try.prog = true := by kernel_rfl
set_option maxRecDepth 100000 in
theorem lifted (os : Os) (started : os.Started) (H : Type) (enc : TypeId × Value → H) :
    ReturnsInHanded {} Try.checked os 7 .any (Rows.ledgerTellsSpec.pre6 enc Try.prog Try.f7 Rows.ledgerTellsRow.domain false) (Rows.ledgerTellsSpec.post enc Try.prog Try.f7 false true false false) := by
  refine returnsInHanded_of_change_sized (C := Try.checked) own started (by kernel_rfl) Try.func7
    (ChangeSpec.witness6 (enc := enc) (C := Try.checked) false ⟨#[], #[.slice none 0 0, .slice none 0 0, .int .u8 0], []⟩ 8 (by kernel_rfl) (by kernel_rfl) (by kernel_rfl) (by kernel_rfl)) ?_
  intro W base args ds gs before hval0 hW hcnd hsz0 _
  have hsz : (DataW.weightsEach Try.prog (Try.f7.params.toList ++ Rows.ledgerTellsSpec.plain.varTypes Try.prog) (ds ++ gs)).all (· ≤ reachBytes) = true := hsz0
  have hval : ∀ (j : Nat) t v, Try.f7.params[j]? = some t → args[j]? = some v → Value.okWide Try.prog W .any base t v := hval0
  have hW' := hW
  obtain ⟨p, q, hA0, hV, rfl, hfz, hnd⟩ := hW
  have hA : DataW.TrodAll enc Try.prog W 0 (fun _ => true) true Try.f7.params.toList args.toList ds p := hA0
  obtain ⟨rfl, rfl⟩ := trodVars_none hV
  have hv : Rows.ledgerTellsSpec.plain.varTypes Try.prog = [] := by kernel_rfl
  rw [hv, List.append_nil, List.append_nil] at hsz
  obtain ⟨args⟩ := args
  obtain ⟨x, hx, hw⟩ := args_open (tys := [T22, T51, T5]) (d := 40) (by kernel_rfl) hA (fun j t v h1 h2 => hval j t v (by rw [← Array.getElem?_toList]; exact h1) (by simpa using h2)) (fun k hk => by simpa using List.all_eq_true.1 hsz k hk)
  obtain ⟨N, hN⟩ := pureLedgerTells x hw
  have hA' := hA
  rw [Try.params7] at hA'
  obtain ⟨v0, vs0, d0, ds0, p0, q0, rfl, rfl, rfl, h0, r0⟩ := trodAll_cons hA'
  obtain ⟨v1, vs1, d1, ds1, p1, q1, rfl, rfl, rfl, h1, r1⟩ := trodAll_cons r0
  obtain ⟨v2, vs2, d2, ds2, p2, q2, rfl, rfl, rfl, h2, r2⟩ := trodAll_cons r1
  obtain ⟨rfl, rfl, rfl⟩ := trodAll_nil r2
  refine (law_calls (holds_law35_LedgerTells N) hx hN).mono fun e W' ⟨he, bel⟩ => ?_
  subst he
  exact ⟨_, rfl, _, _, _, [], _, [], hW', trodAll_mk1 (shut_bool Try.underlying4 _), args_below laidOut bel (by kernel_rfl) hA, rfl, bel.frame _, fun h => by cases h⟩
theorem over : Rows.ledgerTellsRow.holds Try.pinned (OpenSpec.ofChange Rows.ledgerTellsSpec) :=
  OpenClaim.holds_of_wide 7 Try.f7 rfl rfl rfl rfl rfl rfl rfl ⟨rfl, rfl, rfl, rfl, rfl⟩ rfl rfl rfl rfl rfl (by kernel_rfl) Try.func7 (by kernel_rfl)
    (of_decide_eq_true (by kernel_rfl)) (by unfold Func.isWrapper; first | (rw [if_pos (by decide +kernel)]; kernel_rfl) | (rw [if_neg (by decide +kernel)]; exact ⟨rfl, rfl⟩))
    (fun os started H enc _ => lifted os started H enc)
theorem proved : Rows.LedgerTellsSaid := over
#print axioms proved
end Go.Proofs.Ytiiiipdnodgkmaa.ledgerTells
namespace Go.Proofs.Ytiiiipdnodgkmaa
/-- The row, under a short name, for the claim. -/
theorem ledgerTells_holds : Rows.LedgerTellsSaid := ledgerTells.proved
end Go.Proofs.Ytiiiipdnodgkmaa
