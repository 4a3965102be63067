/- SimilarShares: what the law computes is true. -/
import Derived.Test.YtfifgcaielmbiaaSimSPSlB
import Derived.Test.YtfifgcaielmbiaaSimSFSlB
import Derived.Test.YtfifgcaielmbiaaSimISlB
namespace Go.Proofs.Ytfifgcaielmbiaa.SlB
open Go Go.VI
set_option linter.unusedVariables false
set_option linter.unusedSimpArgs false
set_option maxRecDepth 100000

theorem known_is (m : Nat) : G_law22_known (m + 300) () = some (true, ()) := by kernel_rfl
theorem shareF_len {mx : List Int} : ∀ {n : Nat} {cur out : List Int}, (shareF mx n cur out).length = out.length
  | 0, cur, out => rfl
  | n + 1, cur, out => by
    simp only [shareF]
    split
    · rfl
    · rw [shareF_len, List.length_set]
theorem shareD_len {n : Int} {sz mx : List Int} : (shareD n sz mx).length ≤ sz.length := by
  unfold shareD
  split
  · exact Nat.zero_le _
  · split
    · exact Nat.zero_le _
    · split
      · exact Nat.zero_le _
      · split
        · exact Nat.zero_le _
        · rw [shareF_len, List.length_replicate]; exact Nat.le_refl _
theorem pureSimilarShares (x : Int × List Int × List Int × Unit) (hw : Ty.wf (.int .i64) x.1 ∧ Ty.wf (.slice (.int .i64)) x.2.1 ∧ Ty.wf (.slice (.int .i64)) x.2.2.1 ∧ True) : ∃ N, G_law22_SimilarShares N x = some (true, ()) := by
  obtain ⟨n, sz, mx, ⟨⟩⟩ := x
  refine ⟨281474976710656 + 300, ?_⟩
  have hk := known_is 281474976710656
  have hN := big
  generalize 281474976710656 + 300 = N at *
  unfold G_law22_SimilarShares S_law22_SimilarShares
  simp only [hk, Option.bind_some]
  by_cases c1 : (10000 : Int) < n
  · rw [decide_eq_true c1]; rfl
  rw [decide_eq_false c1, br_false]
  by_cases c2 : (40 : Int) < ((sz.length : Nat) : Int)
  · rw [decide_eq_true c2]; rfl
  rw [decide_eq_false c2, br_false]
  by_cases c3 : (40 : Int) < ((mx.length : Nat) : Int)
  · rw [decide_eq_true c3]; rfl
  rw [decide_eq_false c3, br_false]
  have b1 : Nat.ble (0 + sz.length) maxElems = true := Nat.ble_eq_true_of_le (by unfold maxElems; omega)
  have hle := shareD_len (n := n) (sz := sz) (mx := mx)
  simp only [b1, br_true, List.nil_append, similar_Share_is N hN (n := n) (by omega) (sz := sz) (mx := mx) (by omega) (by omega), ref22_Share_is N hN (n := n) (by omega) (sz := sz) (mx := mx) (by omega) (by omega), Option.bind_some, Ints_same N hN (l := shareD n sz mx) (by omega), Ints_same N hN (l := sz) (by omega)]
end Go.Proofs.Ytfifgcaielmbiaa.SlB
