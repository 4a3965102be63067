/- TaintsOrder: what the law computes is true. -/
import Derived.Test.YtfifgcaielmbiaaTaiPPTrE
import Derived.Test.YtfifgcaielmbiaaTaiAPTrE
namespace Go.Proofs.Ytfifgcaielmbiaa.TrE
open Go Go.VI
set_option linter.unusedVariables false
set_option linter.unusedSimpArgs false
set_option maxRecDepth 100000

theorem known_is (m : Nat) : G_law06_known (m + 300) () = some (true, ()) := by kernel_rfl
theorem borne_rev (l : List Tol) (x : Tai) : borneB l.reverse x = borneB l x := List.any_reverse
theorem unb_rev (l : List Tol) (e : Int) : unbB l.reverse e = unbB l e := funext fun x => by unfold unbB; rw [borne_rev]
theorem pureTaintsOrder (x : List Tol × List Tai × Int × Unit) (hw : Ty.wf (.slice tyTol) x.1 ∧ Ty.wf (.slice tyTai) x.2.1 ∧ Ty.wf (.int .i64) x.2.2.1 ∧ True) : ∃ N, G_law06_TaintsOrder N x = some (true, ()) := by
  obtain ⟨l, xs, e, ⟨⟩⟩ := x
  have hl : l.length ≤ 140737488355328 := Nat.le_trans hw.1.1 reach_le
  have hx : xs.length ≤ 140737488355328 := Nat.le_trans hw.2.1.1 reach_le
  clear hw
  refine ⟨281474976710656 + 300, ?_⟩
  have hk := known_is 281474976710656
  have hN := big
  generalize 281474976710656 + 300 = N at *
  have hN' := hN
  unfold Big at hN'
  obtain ⟨⟨b1, ⟨⟩⟩, e1, k1⟩ := ref06_Light_tot N hN l xs hl hx
  unfold G_law06_TaintsOrder S_law06_TaintsOrder
  simp only [e1, hk, Option.bind_some]
  cases b1
  · rfl
  obtain ⟨hl40, hx40⟩ := k1 rfl
  have l5 : ∀ (k m : Nat), k < m → k ≤ l.length → Tot (g_law06_TaintsOrder_5 N m ((l, xs, e, (k : Int) - 1, ()), (l.drop k).reverse, ())) fun o => o = .inl ((l, xs, e, ()), l.reverse, ()) := by
    intro k
    induction k with
    | zero =>
      intro m hm hk
      obtain ⟨m, rfl⟩ : ∃ j, m = j + 1 := ⟨m - 1, by omega⟩
      rw [g_law06_TaintsOrder_5_succ]
      unfold s_law06_TaintsOrder_5
      exact Tot.some rfl
    | succ k ih =>
      intro m hm hk
      obtain ⟨m, rfl⟩ : ∃ j, m = j + 1 := ⟨m - 1, by omega⟩
      rw [g_law06_TaintsOrder_5_succ]
      unfold s_law06_TaintsOrder_5
      have e0 : ((k + 1 : Nat) : Int) - 1 = (k : Int) := by omega
      have d0 : decide ((0 : Int) ≤ (k : Int)) = true := decide_eq_true (by omega)
      have hlt : k < l.length := by omega
      have w1 : IntKind.i64.wrap ((k : Int) - 1) = (k : Int) - 1 := w64 (by omega) (by omega)
      have hb : Nat.ble (((l.drop (k + 1)).reverse).length + 1) maxElems = true := Nat.ble_eq_true_of_le (by rw [List.length_reverse, List.length_drop]; unfold maxElems; omega)
      simp only [e0, d0, br_true, Int.toNat_natCast, at_lt hlt, Option.bind_some, w1, hb]
      have := ih m (by omega) (by omega)
      rw [List.drop_eq_getElem_cons hlt, List.reverse_cons] at this
      exact this
  have l10 : ∀ (k m : Nat), k < m → k ≤ xs.length → Tot (g_law06_TaintsOrder_10 N m ((l, xs, e, l.reverse, (k : Int) - 1, ()), (xs.drop k).reverse, ())) fun o => o = .inl ((l, xs, e, l.reverse, ()), xs.reverse, ()) := by
    intro k
    induction k with
    | zero =>
      intro m hm hk
      obtain ⟨m, rfl⟩ : ∃ j, m = j + 1 := ⟨m - 1, by omega⟩
      rw [g_law06_TaintsOrder_10_succ]
      unfold s_law06_TaintsOrder_10
      exact Tot.some rfl
    | succ k ih =>
      intro m hm hk
      obtain ⟨m, rfl⟩ : ∃ j, m = j + 1 := ⟨m - 1, by omega⟩
      rw [g_law06_TaintsOrder_10_succ]
      unfold s_law06_TaintsOrder_10
      have e0 : ((k + 1 : Nat) : Int) - 1 = (k : Int) := by omega
      have d0 : decide ((0 : Int) ≤ (k : Int)) = true := decide_eq_true (by omega)
      have hlt : k < xs.length := by omega
      have w1 : IntKind.i64.wrap ((k : Int) - 1) = (k : Int) - 1 := w64 (by omega) (by omega)
      have hb : Nat.ble (((xs.drop (k + 1)).reverse).length + 1) maxElems = true := Nat.ble_eq_true_of_le (by rw [List.length_reverse, List.length_drop]; unfold maxElems; omega)
      simp only [e0, d0, br_true, Int.toNat_natCast, at_lt hlt, Option.bind_some, w1, hb]
      have := ih m (by omega) (by omega)
      rw [List.drop_eq_getElem_cons hlt, List.reverse_cons] at this
      exact this
  obtain ⟨o5, a5, rfl⟩ := l5 l.length N (by omega) (by omega)
  obtain ⟨o10, a10, rfl⟩ := l10 xs.length N (by omega) (by omega)
  rw [List.drop_length, List.reverse_nil] at a5 a10
  have w1 : IntKind.i64.wrap (((l.length : Nat) : Int) - 1) = ((l.length : Nat) : Int) - 1 := w64 (by omega) (by omega)
  have w2 : IntKind.i64.wrap (((xs.length : Nat) : Int) - 1) = ((xs.length : Nat) : Int) - 1 := w64 (by omega) (by omega)
  have hlr : l.reverse.length ≤ 1000000 := by rw [List.length_reverse]; omega
  have hxr : xs.reverse.length ≤ 1000000 := by rw [List.length_reverse]; omega
  have hf := List.length_filter_le (unbB l e) xs
  have s1 := ref06_Same_is N hN (a := xs.filter (unbB l e)) (b := xs.filter (unbB l e)) (by omega)
  rw [decide_eq_true rfl] at s1
  have al : allowsB l.reverse xs.reverse = allowsB l xs := by
    unfold allowsB
    rw [List.any_reverse]
    congr 2
    funext x
    rw [borne_rev]
  have pr : (xs.reverse.filter (unbB l.reverse 2)).length = (xs.filter (unbB l 2)).length := by
    rw [unb_rev, List.filter_reverse, List.length_reverse]
  simp only [Bool.not_true, br_false, w1, w2, a5, a10, Option.bind_some, Sum.elim_inl, taints_Unborne_is N hN (l := l) (xs := xs) (by omega) (by omega), taints_Unborne_is N hN (l := l.reverse) (xs := xs) hlr (by omega), unb_rev, s1, br_true,
    taints_Allows_is N hN (l := l) (xs := xs) (by omega) (by omega), taints_Allows_is N hN (l := l.reverse) (xs := xs.reverse) hlr hxr, al, bEq_beq, beq_self_eq_true,
    taints_Prefers_is N hN (l := l) (xs := xs) (by omega) (by omega), taints_Prefers_is N hN (l := l.reverse) (xs := xs.reverse) hlr hxr, List.filter_reverse, List.length_reverse, decide_true]
end Go.Proofs.Ytfifgcaielmbiaa.TrE
