/- GroupMachines: what the law computes is true. -/
import Derived.Test.YtiiiipdnodgkmaaLgtDGm
import Derived.Test.YtiiiipdnodgkmaaNumGGm
import Derived.Test.YtiiiipdnodgkmaaNumFGm
import Derived.Test.YtiiiipdnodgkmaaMacEGm
namespace Go.Proofs.Ytiiiipdnodgkmaa.Gm
open Go Go.VI
set_option linter.unusedVariables false
set_option linter.unusedSimpArgs false
set_option maxRecDepth 100000

theorem known_is (m : Nat) : G_law16_known (m + 300) () = some (true, ()) := by kernel_rfl
theorem eta2 {α β : Type} (p : α × β) : (p.1, p.2) = p := rfl
theorem pureGroupMachines (x : Grp × Int × ByteArray × Unit) (hw : Ty.wf tyGrp x.1 ∧ Ty.wf (.int .i64) x.2.1 ∧ Ty.wf .str x.2.2.1 ∧ True) : ∃ N, G_law16_GroupMachines N x = some (true, ()) := by
  obtain ⟨g, n, name, ⟨⟩⟩ := x
  have hg : okG g := okG_of hw.1
  clear hw
  refine ⟨281474976710656 + 300, ?_⟩
  have hk := known_is 281474976710656
  have hN := big
  generalize 281474976710656 + 300 = N at *
  have hN' := hN
  unfold Big at hN'
  obtain ⟨⟨b1, ⟨⟩⟩, e1, k1⟩ := Light1_tot N hN hg
  unfold G_law16_GroupMachines S_law16_GroupMachines
  simp only [eta2, e1, hk, Option.bind_some]
  cases b1
  · rfl
  have hl := k1 rfl
  simp only [Bool.not_true, br_false]
  by_cases hz : (400 : Int) < ((name.size : Nat) : Int)
  · rw [decide_eq_true hz]; rfl
  rw [decide_eq_false hz, br_false]
  have M1 := group_Machine_is N hN hl n
  have M2 := ref16_Machine_is N hN hl n
  have U1 := group_Number_is N hN hl (name := name) (by omega)
  have U2 := ref16_Number_is N hN hl (name := name) (by omega)
  have hml : (machB g n).2.2.2.1.length ≤ 1000000 ∧ (machB g n).2.2.2.2.1.length ≤ 1000000 := by
    unfold machB
    split
    · exact ⟨by decide, by decide⟩
    · obtain ⟨h1, h2, h3⟩ := hl
      exact ⟨by dsimp only; omega, by dsimp only; omega⟩
  have SM := SameMachine_same N hN (machB g n) hml.1 hml.2
  simp only [M1, M2, U1, U2, SM, Option.bind_some, decide_true, br_true]
  by_cases a : n < 1
  · have e : machB g n = zeroM := by unfold machB; rw [if_pos (.inl a)]
    rw [e] at SM
    have SM' : G_ref07_SameMachine N ((ByteArray.mk (List.toArray []), ByteArray.mk (List.toArray []), (0, 0, 0, 0, 0), [], [], false), zeroM, ()) = some (true, ()) := SM
    rw [decide_eq_true a, br_true, e]
    simp only [SM', Option.bind_some, br_true]
  rw [decide_eq_false a, br_false]
  by_cases b : 999999999 < n
  · have e : machB g n = zeroM := by unfold machB; rw [if_pos (.inr b)]
    rw [e] at SM
    have SM' : G_ref07_SameMachine N ((ByteArray.mk (List.toArray []), ByteArray.mk (List.toArray []), (0, 0, 0, 0, 0), [], [], false), zeroM, ()) = some (true, ()) := SM
    rw [decide_eq_true b, br_true, e]
    simp only [SM', Option.bind_some, br_true]
  rw [decide_eq_false b, br_false]
  obtain ⟨k, rfl⟩ : ∃ k : Nat, n = (k : Int) := ⟨n.toNat, by omega⟩
  have e : machB g (k : Int) = ((g.1 ++ dash) ++ numS k, g.2.2.2.1.2) := by unfold machB; rw [if_neg (by omega), Int.toNat_natCast]
  obtain ⟨h1, h2, h3⟩ := hl
  have hd := dec_len 9 k (by omega) (by omega)
  have c1 : Nat.ble (g.1.size + (ByteArray.mk (List.toArray [45])).size) 140737488355328 = true := Nat.ble_eq_true_of_le (by show _ + 1 ≤ _; omega)
  have c2 : Nat.ble ((g.1 ++ ByteArray.mk (List.toArray [45])).size + (numS k).size) 140737488355328 = true := Nat.ble_eq_true_of_le (by
    rw [ByteArray.size_append, numS_size]
    show _ + 1 + _ ≤ _; omega)
  have c3 : Nat.ble g.2.2.2.1.2.2.2.1.length maxElems = true := Nat.ble_eq_true_of_le (by unfold maxElems; omega)
  have c4 : Nat.ble g.2.2.2.1.2.2.2.2.1.length maxElems = true := Nat.ble_eq_true_of_le (by unfold maxElems; omega)
  have SM' : G_ref07_SameMachine N (((g.1 ++ ByteArray.mk (List.toArray [45])) ++ numS k, g.2.2.2.1.2), machB g (k : Int), ()) = some (true, ()) := by
    have : (((g.1 ++ ByteArray.mk (List.toArray [45])) ++ numS k, g.2.2.2.1.2) : Mach) = machB g (k : Int) := e.symm
    rw [this]; exact SM
  have loop : ∀ (L : Nat) (b : Bool) m (i : Nat) x, i ≤ L → (∃ bx, ∃ ls : Labels, ∃ ts, x = (((k : Int), b, (i : Int), ()), (g, ()), bx, ls, ts, ()) ∧ ls.length = L) → L ≤ 1000 → L - i < m →
      Tot (g_law16_GroupMachines_6 N m x) fun o => ∃ y, o = .inl (((k : Int), b, ()), (g, ()), y) := by
    intro L b m i x hi hx hL hm
    refine Tot.range (Inv := fun i x => ∃ bx, ∃ ls : Labels, ∃ ts, x = (((k : Int), b, (i : Int), ()), (g, ()), bx, ls, ts, ()) ∧ ls.length = L) L (fun m i x hx hi rec => ?_) m i x hi hx hm
    obtain ⟨bx, ls, ts, rfl, hls⟩ := hx
    rw [g_law16_GroupMachines_6_succ]
    unfold s_law16_GroupMachines_6
    dsimp only
    by_cases hlt : i < L
    · have d0 : decide ((0 : Int) ≤ (i : Int)) = true := decide_eq_true (by omega)
      have d1 : decide ((i : Int) < ((ls.length : Nat) : Int)) = true := decide_eq_true (by omega)
      have hi' : i < ls.length := by omega
      rw [d0, d1, br_true, Int.toNat_natCast, at_lt hi', Option.bind_some, wi (i := i) (by omega)]
      exact rec (i + 1) _ (by omega) (by omega) ⟨_, _, _, rfl, by rw [List.length_set]; exact hls⟩
    · have d1 : decide ((i : Int) < ((ls.length : Nat) : Int)) = false := decide_eq_false (by omega)
      rw [d1, br_false]
      exact Tot.some ⟨_, rfl⟩
  obtain ⟨o, eo, y, rfl⟩ := loop _ true N 0 _ (by omega) ⟨((g.1 ++ ByteArray.mk (List.toArray [45])) ++ numS k, g.2.2.2.1.2.1, g.2.2.2.1.2.2.1.1, g.2.2.2.1.2.2.1.2.1, g.2.2.2.1.2.2.1.2.2.1, g.2.2.2.1.2.2.1.2.2.2.1, g.2.2.2.1.2.2.1.2.2.2.2, g.2.2.2.1.2.2.2.2.2, ()), g.2.2.2.1.2.2.2.1, g.2.2.2.1.2.2.2.2.1, rfl, rfl⟩ (by omega) (by omega)
  have eo : g_law16_GroupMachines_6 N N (((k : Int), true, 0, ()), (g, ()), ((g.1 ++ ByteArray.mk (List.toArray [45])) ++ numS k, g.2.2.2.1.2.1, g.2.2.2.1.2.2.1.1, g.2.2.2.1.2.2.1.2.1, g.2.2.2.1.2.2.1.2.2.1, g.2.2.2.1.2.2.1.2.2.2.1, g.2.2.2.1.2.2.1.2.2.2.2, g.2.2.2.1.2.2.2.2.2, ()), g.2.2.2.1.2.2.2.1, g.2.2.2.1.2.2.2.2.1, ()) = _ := eo
  simp only [c1, c2, c3, c4, br_true, group_decimal_is N hN (n := k) (by omega), Option.bind_some, SM', eo, Sum.elim_inl, eta2, M1, M2, SM, hk, decide_true]
end Go.Proofs.Ytiiiipdnodgkmaa.Gm
