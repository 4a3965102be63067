/- Ledger: a mean of so many equal ticks is one tick's: by all of them. -/
import Derived.Test.YtiiiipdnodgkmaaBaseLw
namespace Go.Proofs.Ytiiiipdnodgkmaa.Lw
open Go Go.VI
set_option linter.unusedVariables false
set_option maxRecDepth 100000
def meanOk (n c : Nat) : Bool := match fDiv (fOf ((n * c : Nat) : Int)) (fOf (n : Int)), fDiv (fOf (c : Int)) (fOf 1) with
  | some a, some b => fEq a b
  | _, _ => false
def allB (p : Nat → Bool) : Nat → Bool
  | 0 => true
  | n + 1 => p n && allB p n
theorem allB_spec {p : Nat → Bool} : ∀ {n : Nat}, allB p n = true → ∀ i, i < n → p i = true
  | 0, _, i, h => by omega
  | n + 1, h, i, hi => by
    rw [allB, Bool.and_eq_true] at h
    by_cases e : i = n
    · rw [e]; exact h.1
    · exact allB_spec h.2 i (by omega)
theorem means : allB (fun n => allB (fun c => meanOk (n + 1) c) 61) 20 = true := by kernel_rfl
theorem mean_is {n c : Nat} (h0 : 1 ≤ n) (h1 : n ≤ 20) (h2 : c ≤ 60) : ∃ a b, fDiv (fOf ((n : Int) * (c : Int))) (fOf (n : Int)) = some a ∧ fDiv (fOf (c : Int)) (fOf 1) = some b ∧ fEq a b = true := by
  have h := allB_spec (allB_spec means (n - 1) (by omega)) c (by omega)
  rw [Nat.sub_add_cancel h0] at h
  unfold meanOk at h
  rw [Int.natCast_mul] at h
  split at h
  · rename_i a b e1 e2
    exact ⟨a, b, e1, e2, h⟩
  · cases h
end Go.Proofs.Ytiiiipdnodgkmaa.Lw
