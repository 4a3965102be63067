/- TaintsAdd: what the law computes is true. -/
import Derived.Test.YtfifgcaielmbiaaTaiDPTrC
import Derived.Test.YtfifgcaielmbiaaTaiDFTrC
namespace Go.Proofs.Ytfifgcaielmbiaa.TrC
open Go Go.VI
set_option linter.unusedVariables false
set_option linter.unusedSimpArgs false
set_option maxRecDepth 100000

theorem x_law06_TaintsAdd_0_filt (N : Nat) (hN : Big N) {l : List Tai} (hl : l.length ≤ 1000000) (x : Tai) : Tot (gx_law06_TaintsAdd_0 N N (((x, ()), l, (l.length : Int), 0, ()), [], ())) fun o => ∃ y, o = .inl (y, l.filter (addB x), ()) := by
  unfold Big at hN
  exact Tot.filt (f := gx_law06_TaintsAdd_0 N) (l := l) (p := addB x) (mk := fun i out => (((x, ()), l, (l.length : Int), (i : Int), ()), out, ())) (Y := fun out o => ∃ y, o = .inl (y, out, ()))
    (fun m => by
      rw [gx_law06_TaintsAdd_0_succ]
      unfold sx_law06_TaintsAdd_0
      exact Tot.brD (fun h => absurd h (by dsimp only; omega)) fun _ => Tot.some ⟨_, rfl⟩)
    (fun m i Q hi yes no => by
      rw [gx_law06_TaintsAdd_0_succ]
      unfold sx_law06_TaintsAdd_0
      have d0 : decide ((0 : Int) ≤ (i : Int)) = true := decide_eq_true (by omega)
      have d1 : decide ((i : Int) < ((l.length : Nat) : Int)) = true := decide_eq_true (by omega)
      simp only [d0, d1, br_true, Int.toNat_natCast, at_lt hi, Option.bind_some, wi (i := i) (by omega), G_taints_like, S_taints_like, ble_filt hl, decide_true, Bool.true_and, Bool.and_true]
      have hp : addB x l[i] = !(decide (x.1 = l[i].1) && decide (x.2.2 = l[i].2.2)) := rfl
      cases h : addB x l[i]
      · rw [h] at hp
        rw [show Bool.not (decide (x.1 = l[i].1) && decide (x.2.2 = l[i].2.2)) = false from hp.symm]
        exact no h
      · rw [h] at hp
        rw [show Bool.not (decide (x.1 = l[i].1) && decide (x.2.2 = l[i].2.2)) = true from hp.symm]
        exact yes h)
    N (by omega)
theorem x_law06_TaintsAdd_1_filt (N : Nat) (hN : Big N) {l : List Tai} (hl : l.length ≤ 1000000) (key : ByteArray) (e : Int) : Tot (gx_law06_TaintsAdd_1 N N (((key, e, ()), l, (l.length : Int), 0, ()), [], ())) fun o => ∃ y, o = .inl (y, l.filter (dropB' key e), ()) := by
  unfold Big at hN
  exact Tot.filt (f := gx_law06_TaintsAdd_1 N) (l := l) (p := dropB' key e) (mk := fun i out => (((key, e, ()), l, (l.length : Int), (i : Int), ()), out, ())) (Y := fun out o => ∃ y, o = .inl (y, out, ()))
    (fun m => by
      rw [gx_law06_TaintsAdd_1_succ]
      unfold sx_law06_TaintsAdd_1
      exact Tot.brD (fun h => absurd h (by dsimp only; omega)) fun _ => Tot.some ⟨_, rfl⟩)
    (fun m i Q hi yes no => by
      rw [gx_law06_TaintsAdd_1_succ]
      unfold sx_law06_TaintsAdd_1
      have d0 : decide ((0 : Int) ≤ (i : Int)) = true := decide_eq_true (by omega)
      have d1 : decide ((i : Int) < ((l.length : Nat) : Int)) = true := decide_eq_true (by omega)
      simp only [d0, d1, br_true, Int.toNat_natCast, at_lt hi, Option.bind_some, wi (i := i) (by omega), taints_of_is, ble_filt hl]
      have hp : dropB' key e l[i] = (!decide (l[i].1 = key) || !ofB e l[i]) := rfl
      cases h1 : decide (l[i].1 = key) <;> cases h2 : ofB e l[i] <;> rw [h1, h2] at hp <;> first | exact yes hp | exact no hp)
    N (by omega)
theorem known_is (m : Nat) : G_law06_known (m + 300) () = some (true, ()) := by kernel_rfl
theorem pureTaintsAdd (x : List Tai × Tai × Int × Unit) (hw : Ty.wf (.slice tyTai) x.1 ∧ Ty.wf tyTai x.2.1 ∧ Ty.wf (.int .i64) x.2.2.1 ∧ True) : ∃ N, G_law06_TaintsAdd N x = some (true, ()) := by
  obtain ⟨l, x, e, ⟨⟩⟩ := x
  have hl : l.length ≤ 140737488355328 := Nat.le_trans hw.1.1 reach_le
  clear hw
  refine ⟨281474976710656 + 300, ?_⟩
  have hk := known_is 281474976710656
  have hN := big
  generalize 281474976710656 + 300 = N at *
  have hN' := hN
  unfold Big at hN'
  obtain ⟨⟨b1, ⟨⟩⟩, e1, k1⟩ := ref06_Light_tot N hN [] l (by simp) hl
  obtain ⟨⟨b2, ⟨⟩⟩, e2, k2⟩ := ref06_Light_tot N hN [] [x] (by simp) (by simp)
  unfold G_law06_TaintsAdd S_law06_TaintsAdd
  simp only [e1, e2, hk, Option.bind_some]
  cases b1
  · rfl
  cases b2
  · rfl
  have hl40 := (k1 rfl).2
  have hb : Nat.ble (0 + l.length) maxElems = true := Nat.ble_eq_true_of_le (by unfold maxElems; omega)
  have hb2 : Nat.ble ((l.filter (addB x)).length + 1) maxElems = true := Nat.ble_eq_true_of_le (by
    have := List.length_filter_le (addB x) l
    unfold maxElems; omega)
  obtain ⟨o1, a1, y1, rfl⟩ := x_law06_TaintsAdd_0_filt N hN (l := l) (by omega) x
  obtain ⟨o2, a2, y2, rfl⟩ := x_law06_TaintsAdd_1_filt N hN (l := l) (by omega) x.1 e
  have s1 := ref06_Same_is N hN (a := l.filter (addB x) ++ [x]) (b := l.filter (addB x) ++ [x]) (by have := List.length_filter_le (addB x) l; rw [List.length_append]; simp only [List.length_singleton]; omega)
  have s2 := ref06_Same_is N hN (a := l.filter (dropB' x.1 e)) (b := l.filter (dropB' x.1 e)) (by have := List.length_filter_le (dropB' x.1 e) l; omega)
  have s3 := ref06_Same_is N hN (a := l) (b := l) (by omega)
  rw [decide_eq_true rfl] at s1 s2 s3
  have l8 : ∀ (ok : Bool) (b : List Tai) (n : Nat), n ≤ 100 → ∀ m (i : Nat) y, i ≤ n → (∃ a : List Tai, a.length = n ∧ y = ((l, l, ok, (i : Int), ()), a, b, ())) → n - i < m → Tot (g_law06_TaintsAdd_8 N m y) fun o => ∃ a, o = .inl ((l, l, ok, ()), a, b, ()) := by
    intro ok b n hn
    refine Tot.range n fun m i y hy hi rec => ?_
    obtain ⟨a, ha, rfl⟩ := hy
    rw [g_law06_TaintsAdd_8_succ]
    unfold s_law06_TaintsAdd_8
    by_cases hlt : i < n
    · have d0 : decide ((0 : Int) ≤ (i : Int)) = true := decide_eq_true (by omega)
      have d1 : decide ((i : Int) < ((a.length : Nat) : Int)) = true := decide_eq_true (by omega)
      have hi' : i < a.length := by omega
      simp only [d0, d1, br_true, Bool.and_true, Int.toNat_natCast, at_lt hi', Option.bind_some, wi (i := i) (by omega)]
      exact rec (i + 1) _ (by omega) (by omega) ⟨_, by rw [List.length_set]; exact ha, rfl⟩
    · have d1 : decide ((i : Int) < ((a.length : Nat) : Int)) = false := decide_eq_false (by omega)
      simp only [d1, br_false]
      exact Tot.some ⟨_, rfl⟩
  have l12 : ∀ (ok : Bool) (n : Nat), n ≤ 100 → ∀ m (i : Nat) y, i ≤ n → (∃ a : List Tai, a.length = n ∧ y = ((l, l, ok, (i : Int), ()), a, ())) → n - i < m → Tot (g_law06_TaintsAdd_12 N m y) fun o => ∃ a, o = .inl ((l, l, ok, ()), a, ()) := by
    intro ok n hn
    refine Tot.range n fun m i y hy hi rec => ?_
    obtain ⟨a, ha, rfl⟩ := hy
    rw [g_law06_TaintsAdd_12_succ]
    unfold s_law06_TaintsAdd_12
    by_cases hlt : i < n
    · have d0 : decide ((0 : Int) ≤ (i : Int)) = true := decide_eq_true (by omega)
      have d1 : decide ((i : Int) < ((a.length : Nat) : Int)) = true := decide_eq_true (by omega)
      have hi' : i < a.length := by omega
      simp only [d0, d1, br_true, Bool.and_true, Int.toNat_natCast, at_lt hi', Option.bind_some, wi (i := i) (by omega)]
      exact rec (i + 1) _ (by omega) (by omega) ⟨_, by rw [List.length_set]; exact ha, rfl⟩
    · have d1 : decide ((i : Int) < ((a.length : Nat) : Int)) = false := decide_eq_false (by omega)
      simp only [d1, br_false]
      exact Tot.some ⟨_, rfl⟩
  have hf1 := List.length_filter_le (addB x) l
  have hf2 := List.length_filter_le (dropB' x.1 e) l
  have hlen : (l.filter (addB x) ++ [x]).length ≤ 100 := by rw [List.length_append]; simp only [List.length_singleton]; omega
  obtain ⟨o3, a3, r3, rfl⟩ := l8 true (l.filter (dropB' x.1 e)) (l.filter (addB x) ++ [x]).length hlen N 0 _ (by omega) ⟨_, rfl, rfl⟩ (by omega)
  obtain ⟨o4, a4, r4, rfl⟩ := l12 true (l.filter (dropB' x.1 e)).length (by omega) N 0 _ (by omega) ⟨_, rfl, rfl⟩ (by omega)
  have a3 : g_law06_TaintsAdd_8 N N ((l, l, true, 0, ()), l.filter (addB x) ++ [x], l.filter (dropB' x.1 e), ()) = _ := a3
  have a4 : g_law06_TaintsAdd_12 N N ((l, l, true, 0, ()), l.filter (dropB' x.1 e), ()) = _ := a4
  simp only [Bool.not_true, br_false, hb, hb2, br_true, List.nil_append, a1, a2, Option.bind_some, Sum.elim_inl, ref06_Add_is N hN (l := l) (by omega), ref06_Drop_is N hN (l := l) (by omega), s1, s2, a3, a4, s3]
end Go.Proofs.Ytfifgcaielmbiaa.TrC
