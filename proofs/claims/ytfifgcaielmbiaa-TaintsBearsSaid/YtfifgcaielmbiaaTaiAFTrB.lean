/- The document: whether taints are allowed, and preferred. -/
import Derived.Test.YtfifgcaielmbiaaTaiUFTrB
import Derived.Test.YtfifgcaielmbiaaTaiAPTrB
namespace Go.Proofs.Ytfifgcaielmbiaa.TrB
open Go Go.VI
set_option linter.unusedVariables false
set_option linter.unusedSimpArgs false
set_option maxRecDepth 100000

theorem ref06_hard_is (N : Nat) (e : Int) : G_ref06_hard N (e, ()) = some (hardB e, ()) := by
  unfold G_ref06_hard S_ref06_hard hardB
  dsimp only
  cases decide (e = 1) <;> rfl
theorem ref06_Prefers_is (N : Nat) (hN : Big N) {l : List Tol} {xs : List Tai} (hl : l.length ≤ 1000000) (hx : xs.length ≤ 1000000) : G_ref06_Prefers N (l, xs, ()) = some ((((xs.filter (unbB l 2)).length : Nat) : Int), ()) := by
  unfold G_ref06_Prefers S_ref06_Prefers
  simp only [ref06_Unborne_is N hN hl hx, Option.bind_some]
theorem ref06_Allows_is (N : Nat) (hN : Big N) {l : List Tol} {xs : List Tai} (hl : l.length ≤ 1000000) (hx : xs.length ≤ 1000000) : G_ref06_Allows N (l, xs, ()) = some (allowsB l xs, ()) := by
  have hN' := hN
  unfold Big at hN'
  have hlen : (xs.filter (unbB l 0)).length ≤ xs.length := List.length_filter_le _ _
  unfold G_ref06_Allows S_ref06_Allows
  simp only [ref06_Unborne_is N hN hl hx, Option.bind_some]
  have hk : allowsB l xs = (xs.filter (unbB l 0)).all (fun x => !hardB x.2.2) := by
    unfold allowsB
    rw [Bool.eq_iff_iff, Bool.not_eq_true', List.any_eq_false, List.all_eq_true]
    constructor
    · intro h x hx
      obtain ⟨h1, h2⟩ := List.mem_filter.1 hx
      have h2 : (true && !borneB l x) = true := h2
      have := h x h1
      cases hh : hardB x.2.2
      · rfl
      · rw [hh] at this; exact absurd h2 this
    · intro h x hx hh
      rw [Bool.and_eq_true] at hh
      have := h x (List.mem_filter.2 ⟨hx, by show (true && !borneB l x) = true; rw [hh.2]; rfl⟩)
      rw [hh.1] at this; cases this
  generalize xs.filter (unbB l 0) = u at hk hlen ⊢
  have loop := Tot.all (f := g_ref06_Allows_3 N) (Inv := fun i y => y = ((u, (i : Int), ()), ())) (Y := fun o => ∃ y, o = .inl y) (No := fun o => ∃ y, o = .inr ((false, ()), y)) u.length (atP (fun x : Tai => !hardB x.2.2) u)
    (fun m a ha => by
      subst ha
      rw [g_ref06_Allows_3_succ]
      unfold s_ref06_Allows_3
      exact Tot.brD (fun h => absurd h (by dsimp only; omega)) fun _ => Tot.some ⟨_, rfl⟩)
    (fun m i a Q ha hi rec no => by
      subst ha
      rw [g_ref06_Allows_3_succ]
      unfold s_ref06_Allows_3
      have d0 : decide ((0 : Int) ≤ (i : Int)) = true := decide_eq_true (by omega)
      have d1 : decide ((i : Int) < ((u.length : Nat) : Int)) = true := decide_eq_true (by omega)
      simp only [d0, d1, br_true, Int.toNat_natCast, at_lt hi, Option.bind_some, wi (i := i) (by omega), ref06_hard_is]
      rw [atP_lt hi] at rec no
      cases hb : hardB u[i].2.2
      · rw [hb] at rec; exact rec rfl _ rfl
      · rw [hb] at no; exact Tot.some (no rfl _ ⟨_, rfl⟩))
    N 0 ((u, 0, ()), ()) (by omega) rfl (by omega)
  obtain ⟨o, e, ho⟩ := loop
  rw [Nat.sub_zero, all_full, ← hk] at ho
  simp only [e, Option.bind_some]
  split at ho
  · rename_i hy; obtain ⟨y, rfl⟩ := ho; rw [hy]; rfl
  · rename_i hy; obtain ⟨y, rfl⟩ := ho; rw [Bool.not_eq_true] at hy; rw [hy]; rfl
end Go.Proofs.Ytfifgcaielmbiaa.TrB
