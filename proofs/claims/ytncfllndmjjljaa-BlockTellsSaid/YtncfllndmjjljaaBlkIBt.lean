/- How much of a machine is in use: the functions. -/
import Derived.Test.YtncfllndmjjljaaBlkCBt
import Derived.Test.YtncfllndmjjljaaResPBt
namespace Go.Proofs.Ytncfllndmjjljaa.Bt
open Go Go.VI
set_option linter.unusedVariables false
set_option linter.unusedSimpArgs false
set_option maxRecDepth 100000

theorem res_row_is (N : Nat) (a : Res) : G_res_row N (a, ()) = some (a, ()) := rfl
theorem res_back_is (N : Nat) (a : Res) : G_res_back N (a, ()) = some (a, ()) := rfl
theorem res_Add_1_is (N : Nat) (a b : Int) : G_res_Add_1 N (a, b, ()) = some (IntKind.i64.wrap (a + b), ()) := rfl
theorem res_Add_tot (N : Nat) (a b : Res) : Tot (G_res_Add N (a, b, ())) fun _ => True := by
  unfold G_res_Add S_res_Add
  simp only [res_Right_is, res_row_is, res_back_is, res_Add_1_is, Option.bind_some]
  cases resB a
  · exact Tot.some trivial
  cases resB b
  · exact Tot.some trivial
  simp only [Bool.not_true, br_false]
  cases resB _ <;> exact Tot.some trivial
theorem res_part_tot (N : Nat) {a b : Int} (ha : okB a = true) (hb : okB b = true) : Tot (G_res_part N (a, b, ())) fun v => 0 ≤ v.1 := by
  unfold okB at ha hb
  have ha := of_decide_eq_true ha
  have hb := of_decide_eq_true hb
  unfold G_res_part S_res_part
  simp only []
  refine Tot.brD (fun c => ?_) fun c => ?_
  · rw [decide_eq_false (show ¬ b = 0 by omega)]
    refine Tot.some ?_
    have e1 : IntKind.i64.wrap (1000 * a) = 1000 * a := w64 (by omega) (by omega)
    have h0 : 0 ≤ (1000 * a).tdiv b := Int.tdiv_nonneg (by omega) (by omega)
    have h1 : (1000 * a).tdiv b ≤ 1000 * a := by
      rw [Int.tdiv_eq_ediv_of_nonneg (by omega)]
      exact Int.ediv_le_self _ (by omega)
    have e2 : IntKind.i64.wrap ((1000 * a).tdiv b) = (1000 * a).tdiv b := w64 (by omega) (by omega)
    show 0 ≤ List.foldl Min.min (IntKind.i64.wrap (Int.tdiv (IntKind.i64.wrap (1000 * a)) b)) [1000000]
    rw [e1, e2]
    show 0 ≤ min ((1000 * a).tdiv b) 1000000
    omega
  · refine Tot.brD (fun c => ?_) fun c => ?_
    · exact Tot.some (show (0 : Int) ≤ 1000000 by decide)
    · exact Tot.some (show (0 : Int) ≤ 0 by decide)
theorem res_Share_tot (N : Nat) (a b : Res) : Tot (G_res_Share N (a, b, ())) fun v => 0 ≤ v.1 := by
  unfold G_res_Share S_res_Share
  simp only [res_Right_is, Option.bind_some]
  cases ha : resB a
  · exact Tot.some (show (0 : Int) ≤ 0 by decide)
  cases hb : resB b
  · exact Tot.some (show (0 : Int) ≤ 0 by decide)
  unfold resB at ha hb
  simp only [Bool.and_eq_true] at ha hb
  obtain ⟨v, e1, h1⟩ := res_part_tot N ha.1 hb.1
  obtain ⟨w, e2, h2⟩ := res_part_tot N ha.2.1 hb.2.1
  simp only [Bool.not_true, br_false, e1, e2, Option.bind_some]
  refine Tot.some ?_
  show 0 ≤ max v.1 w.1
  omega
theorem yard_Used_tot (N : Nat) (hN : Big N) {bs : List Bound} (hl : bs.length ≤ 1000000) (on : ByteArray) : Tot (G_yard_Used N (bs, on, ())) fun _ => True := by
  have hN' := hN
  unfold Big at hN'
  have hl' := Nat.le_trans (onB_len bs on) hl
  generalize hps : onB bs on = ps at hl'
  obtain ⟨o, e, ho⟩ := Tot.findI (f := gx_yard_Used_0 N) (l := ps) (q := fun p => !resB p.2.1) (Inv := fun i x => x = (((ps.length : Int), (i : Int), ()), (ps, ()), ())) (Y := fun o => ∃ y, o = .inl ((), (ps, ()), y)) (No := fun i x o => ∃ y, o = .inr (((i : Int), ()), y))
    (fun m a ha => by
      subst ha
      rw [gx_yard_Used_0_succ]
      unfold sx_yard_Used_0
      exact Tot.brD (fun h => absurd h (by dsimp only; omega)) fun _ => Tot.some ⟨_, rfl⟩)
    (fun m i a Q hi ha rec no => by
      subst ha
      rw [gx_yard_Used_0_succ]
      unfold sx_yard_Used_0
      have d0 : decide ((0 : Int) ≤ (i : Int)) = true := decide_eq_true (by omega)
      have d1 : decide ((i : Int) < ((ps.length : Nat) : Int)) = true := decide_eq_true (by omega)
      simp only [d0, d1, br_true, Int.toNat_natCast, at_lt hi, Option.bind_some, res_Right_is, wi (i := i) (by omega)]
      exact Tot.br (fun c => Tot.some (no c _ ⟨_, rfl⟩)) fun c => rec c _ rfl)
    N (((ps.length : Int), 0, ()), (ps, ()), ()) (by omega) rfl
  have loop : ∀ m (i : Nat) x, i ≤ ps.length → (∃ a b, x = ((ps, (ps.length : Int), (i : Int), ()), a, b)) → ps.length - i < m → Tot (g_yard_Used_6 N m x) fun _ => True := by
    refine Tot.range ps.length fun m i x ha hi rec => ?_
    obtain ⟨a, b, rfl⟩ := ha
    rw [g_yard_Used_6_succ]
    unfold s_yard_Used_6
    by_cases hlt : i < ps.length
    · have d0 : decide ((0 : Int) ≤ (i : Int)) = true := decide_eq_true (by omega)
      have d1 : decide ((i : Int) < ((ps.length : Nat) : Int)) = true := decide_eq_true (by omega)
      obtain ⟨v, ev, _⟩ := res_Add_tot N b.1.1 ps[i].2.1
      simp only [d0, d1, br_true, Int.toNat_natCast, at_lt hlt, Option.bind_some, ev, wi (i := i) (by omega)]
      exact Tot.br (fun _ => Tot.some trivial) fun _ => rec (i + 1) _ (by omega) (by omega) ⟨_, _, rfl⟩
    · have d1 : decide ((i : Int) < ((ps.length : Nat) : Int)) = false := decide_eq_false (by omega)
      simp only [d1, br_false]
      exact Tot.some trivial
  unfold G_yard_Used S_yard_Used
  simp only [yard_On_is N hN hl, hps, e, Option.bind_some]
  rcases ho with ⟨_, y, rfl⟩ | ⟨i, _, _, _, y, rfl⟩
  · obtain ⟨o6, e6, _⟩ := loop N 0 _ (by omega) ⟨((0, 0, 0, 0, 0), ()), (((0, 0, 0, 0, 0), ()), ()), rfl⟩ (by omega)
    have e6 : g_yard_Used_6 N N ((ps, (ps.length : Int), 0, ()), ((0, 0, 0, 0, 0), ()), ((0, 0, 0, 0, 0), ()), ()) = _ := e6
    simp only [Sum.elim_inl, e6, Option.bind_some]
    exact Tot.elim (fun _ _ => Tot.some trivial) fun _ _ => Tot.some trivial
  · simp only [Sum.elim_inr]
    rw [decide_eq_false (show ¬ (i : Int) = -1 by omega)]
    exact Tot.some trivial
theorem block_Use_tot (N : Nat) (hN : Big N) {bs : List Bound} (hl : bs.length ≤ 1000000) (m : Mach) : Tot (G_block_Use N (m, bs, ())) fun v => 0 ≤ v.1 := by
  obtain ⟨v, e, _⟩ := yard_Used_tot N hN hl m.1
  unfold G_block_Use S_block_Use
  simp only [e, Option.bind_some]
  refine Tot.br (fun _ => Tot.some (show (0 : Int) ≤ 1000000 by decide)) fun _ => ?_
  obtain ⟨w, e2, h2⟩ := res_Share_tot N v.1 m.2.2.1
  simp only [e2, Option.bind_some]
  exact Tot.some h2
/-- What is in use. -/
theorem use_fun (N : Nat) (hN : Big N) {bs : List Bound} (hl : bs.length ≤ 1000000) : ∃ u : Mach → Int, ∀ m, 0 ≤ u m ∧ G_block_Use N (m, bs, ()) = some (u m, ()) := by
  have h : ∀ m : Mach, ∃ v : Int, 0 ≤ v ∧ G_block_Use N (m, bs, ()) = some (v, ()) := fun m => by
    obtain ⟨⟨v, ⟨⟩⟩, e, h⟩ := block_Use_tot N hN hl m
    exact ⟨v, h, e⟩
  exact ⟨fun m => (h m).choose, fun m => (h m).choose_spec⟩
end Go.Proofs.Ytncfllndmjjljaa.Bt
