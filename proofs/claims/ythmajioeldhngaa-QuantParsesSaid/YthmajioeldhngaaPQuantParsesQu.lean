/- QuantParses: what the law computes is true. -/
import Derived.Test.YthmajioeldhngaaAmtGQu
namespace Go.Proofs.Ythmajioeldhngaa.Qu
open Go Go.VI
set_option linter.unusedVariables false
set_option linter.unusedSimpArgs false
set_option maxRecDepth 100000

theorem known_is (m : Nat) : G_law03_known (m + 300) () = some (true, ()) := by kernel_rfl
theorem pureQuantParses (x : ByteArray × Unit) (hw : Ty.wf .str x.1 ∧ True) : ∃ N, G_law03_QuantParses N x = some (true, ()) := by
  obtain ⟨s, ⟨⟩⟩ := x
  clear hw
  refine ⟨281474976710656 + 300, ?_⟩
  have hk := known_is 281474976710656
  have hN := big
  have hP := quant_Parse_is 281474976710656 hN
  have hM := quant_Milli_is 281474976710656 hN
  generalize 281474976710656 + 300 = N at *
  unfold G_law03_QuantParses S_law03_QuantParses
  obtain ⟨l, rfl⟩ : ∃ l, s = ByteArray.mk (List.toArray l) := ⟨_, bs_eq s⟩
  simp only [hk, Option.bind_some, bs_size]
  by_cases c0 : 300 < l.length
  · rw [decide_eq_true (show (300 : Int) < ((l.length : Nat) : Int) by omega), br_true]
  rw [decide_eq_false (show ¬ (300 : Int) < ((l.length : Nat) : Int) by omega), br_false]
  have hok : okS (ByteArray.mk (List.toArray l)) := by unfold okS; rw [bs_size]; omega
  simp only [hP l (by omega), hM l (by omega), ref03_Parse_is N hN l (by omega), ref03_Milli_is N hN l (by omega), quant_Number_is N hN hok, ref03_Number_is N hN hok, Option.bind_some, decide_true, br_true]
end Go.Proofs.Ythmajioeldhngaa.Qu
