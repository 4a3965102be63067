/- TaintsBears: what the law computes is true. -/
import Derived.Test.YtfifgcaielmbiaaTaiPPTrB
import Derived.Test.YtfifgcaielmbiaaTaiAPTrB
import Derived.Test.YtfifgcaielmbiaaTaiAFTrB
namespace Go.Proofs.Ytfifgcaielmbiaa.TrB
open Go Go.VI
set_option linter.unusedVariables false
set_option linter.unusedSimpArgs false
set_option maxRecDepth 100000

theorem known_is (m : Nat) : G_law06_known (m + 300) () = some (true, ()) := by kernel_rfl
theorem law_Unborne (N : Nat) (hN : Big N) {l : List Tol} {xs : List Tai} (hl : l.length ≤ 1000000) (hx : xs.length ≤ 1000000) (e : Int) : Tot (gx_law06_TaintsBears_0 N N (((e, l, ()), xs, (xs.length : Int), 0, ()), [], ())) fun o => ∃ y, o = .inl (y, xs.filter (unbB l e), ()) := by
  have hN' := hN
  unfold Big at hN'
  exact Tot.filt (f := gx_law06_TaintsBears_0 N) (l := xs) (p := unbB l e) (mk := fun i out => (((e, l, ()), xs, (xs.length : Int), (i : Int), ()), out, ())) (Y := fun out o => ∃ y, o = .inl (y, out, ()))
    (fun m => by
      rw [gx_law06_TaintsBears_0_succ]
      unfold sx_law06_TaintsBears_0
      exact Tot.brD (fun h => absurd h (by dsimp only; omega)) fun _ => Tot.some ⟨_, rfl⟩)
    (fun m i Q hi yes no => by
      rw [gx_law06_TaintsBears_0_succ]
      unfold sx_law06_TaintsBears_0
      have d0 : decide ((0 : Int) ≤ (i : Int)) = true := decide_eq_true (by omega)
      have d1 : decide ((i : Int) < ((xs.length : Nat) : Int)) = true := decide_eq_true (by omega)
      simp only [d0, d1, br_true, Int.toNat_natCast, at_lt hi, Option.bind_some, wi (i := i) (by omega), taints_of_is, taints_borne_is N hN hl, ble_filt hx]
      have hp : unbB l e xs[i] = (ofB e xs[i] && !borneB l xs[i]) := rfl
      cases h1 : ofB e xs[i]
      · exact no (by rw [hp, h1]; rfl)
      · cases h2 : borneB l xs[i]
        · exact yes (by rw [hp, h1, h2]; rfl)
        · exact no (by rw [hp, h1, h2]; rfl))
    N (by omega)
theorem pureTaintsBears (x : List Tol × List Tai × Int × Unit) (hw : Ty.wf (.slice tyTol) x.1 ∧ Ty.wf (.slice tyTai) x.2.1 ∧ Ty.wf (.int .i64) x.2.2.1 ∧ True) : ∃ N, G_law06_TaintsBears N x = some (true, ()) := by
  obtain ⟨l, xs, e, ⟨⟩⟩ := x
  have hl : l.length ≤ 140737488355328 := Nat.le_trans hw.1.1 reach_le
  have hx : xs.length ≤ 140737488355328 := Nat.le_trans hw.2.1.1 reach_le
  clear hw
  refine ⟨281474976710656 + 300, ?_⟩
  have hk := known_is 281474976710656
  have hN := big
  generalize 281474976710656 + 300 = N at *
  have hN' := hN
  unfold Big at hN'
  obtain ⟨⟨b1, ⟨⟩⟩, e1, k1⟩ := ref06_Light_tot N hN l xs hl hx
  unfold G_law06_TaintsBears S_law06_TaintsBears
  simp only [e1, hk, Option.bind_some]
  cases b1
  · rfl
  obtain ⟨hl40, hx40⟩ := k1 rfl
  have loop : ∀ m (i : Nat) y, i ≤ l.length → y = ((l, xs, e, (i : Int), ()), ()) → l.length - i < m → Tot (g_law06_TaintsBears_4 N m y) fun o => o = .inl ((l, xs, e, ()), ()) := by
    refine Tot.range l.length fun m i y hy hi rec => ?_
    subst hy
    rw [g_law06_TaintsBears_4_succ]
    unfold s_law06_TaintsBears_4
    by_cases hlt : i < l.length
    · have d0 : decide ((0 : Int) ≤ (i : Int)) = true := decide_eq_true (by omega)
      have d1 : decide ((i : Int) < ((l.length : Nat) : Int)) = true := decide_eq_true (by omega)
      by_cases hz : xs.length = 0
      · have d2 : decide ((0 : Int) < ((xs.length : Nat) : Int)) = false := decide_eq_false (by omega)
        simp only [d1, d2, br_true, br_false]
        exact Tot.some rfl
      · have d2 : decide ((0 : Int) < ((xs.length : Nat) : Int)) = true := decide_eq_true (by omega)
        have d3 : decide (((xs.length : Nat) : Int) = 0) = false := decide_eq_false (by omega)
        have t0 : Int.tmod (i : Int) ((xs.length : Nat) : Int) = ((i % xs.length : Nat) : Int) := by
          rw [Int.ofNat_tmod]
        have d4 : decide ((0 : Int) ≤ ((i % xs.length : Nat) : Int)) = true := decide_eq_true (by omega)
        have hm : i % xs.length < xs.length := Nat.mod_lt _ (by omega)
        simp only [d0, d1, d2, d3, t0, d4, br_true, br_false, Int.toNat_natCast, at_lt hlt, at_lt hm, Option.bind_some, taints_Bears_is, ref06_Bears_is, wi (i := i) (by omega), bEq_beq, beq_self_eq_true, Bool.not_true]
        exact rec (i + 1) _ (by omega) (by omega) rfl
    · have d1 : decide ((i : Int) < ((l.length : Nat) : Int)) = false := decide_eq_false (by omega)
      simp only [d1, br_false]
      exact Tot.some rfl
  obtain ⟨o0, a0, rfl⟩ := loop N 0 _ (by omega) rfl (by omega)
  have a0 : g_law06_TaintsBears_4 N N ((l, xs, e, 0, ()), ()) = _ := a0
  have hb : Nat.ble (0 + xs.length) maxElems = true := Nat.ble_eq_true_of_le (by unfold maxElems; omega)
  obtain ⟨o1, a1, y1, rfl⟩ := law_Unborne N hN (l := l) (xs := xs) (by omega) (by omega) e
  have hf := List.length_filter_le (unbB l e) xs
  have s1 := ref06_Same_is N hN (a := xs.filter (unbB l e)) (b := xs.filter (unbB l e)) (by omega)
  have s3 := ref06_Same_is N hN (a := xs) (b := xs) (by omega)
  rw [decide_eq_true rfl] at s1 s3
  have l12 : ∀ (ok : Bool) (n : Nat), n ≤ 100 → ∀ m (i : Nat) y, i ≤ n → (∃ a : List Tai, a.length = n ∧ y = ((xs, ok, xs, (i : Int), ()), a, ())) → n - i < m → Tot (g_law06_TaintsBears_12 N m y) fun o => ∃ a, o = .inl ((xs, ok, xs, ()), a, ()) := by
    intro ok n hn
    refine Tot.range n fun m i y hy hi rec => ?_
    obtain ⟨a, ha, rfl⟩ := hy
    rw [g_law06_TaintsBears_12_succ]
    unfold s_law06_TaintsBears_12
    by_cases hlt : i < n
    · have d0 : decide ((0 : Int) ≤ (i : Int)) = true := decide_eq_true (by omega)
      have d1 : decide ((i : Int) < ((a.length : Nat) : Int)) = true := decide_eq_true (by omega)
      have hi' : i < a.length := by omega
      simp only [d0, d1, br_true, Bool.and_true, Int.toNat_natCast, at_lt hi', Option.bind_some, wi (i := i) (by omega)]
      exact rec (i + 1) _ (by omega) (by omega) ⟨_, by rw [List.length_set]; exact ha, rfl⟩
    · have d1 : decide ((i : Int) < ((a.length : Nat) : Int)) = false := decide_eq_false (by omega)
      simp only [d1, br_false]
      exact Tot.some ⟨_, rfl⟩
  obtain ⟨o4, a4, r4, rfl⟩ := l12 true (xs.filter (unbB l e)).length (by omega) N 0 _ (by omega) ⟨_, rfl, rfl⟩ (by omega)
  have a4 : g_law06_TaintsBears_12 N N ((xs, true, xs, 0, ()), xs.filter (unbB l e), ()) = _ := a4
  simp only [Bool.not_true, br_false, hb, br_true, List.nil_append, a0, a1, a4, Option.bind_some, Sum.elim_inl, ref06_Unborne_is N hN (l := l) (xs := xs) (by omega) (by omega), s1, taints_Allows_is N hN (l := l) (xs := xs) (by omega) (by omega), ref06_Allows_is N hN (l := l) (xs := xs) (by omega) (by omega), bEq_beq, beq_self_eq_true,
    taints_Prefers_is N hN (l := l) (xs := xs) (by omega) (by omega), ref06_Prefers_is N hN (l := l) (xs := xs) (by omega) (by omega), decide_true, s3]
end Go.Proofs.Ytfifgcaielmbiaa.TrB
