/- How much of a machine is in use: the program and the document say the same. -/
import Derived.Test.YtncfllndmjjljaaBlkIBt
import Derived.Test.YtncfllndmjjljaaResFBt
namespace Go.Proofs.Ytncfllndmjjljaa.Bt
open Go Go.VI
set_option linter.unusedVariables false
set_option linter.unusedSimpArgs false
set_option maxRecDepth 100000

theorem ref04_Add_eq (N : Nat) (a b : Res) : G_ref04_Add N (a, b, ()) = G_res_Add N (a, b, ()) := by
  unfold G_res_Add S_res_Add G_ref04_Add S_ref04_Add
  simp only [res_Right_is, ref04_Right_is, res_row_is, res_back_is, res_Add_1_is, Option.bind_some]
  cases resB a
  · rfl
  cases resB b
  · rfl
  simp only [Bool.not_true, br_false]
  cases resB _ <;> rfl
theorem ref04_part_eq (N : Nat) {a b : Int} (ha : okB a = true) (hb : okB b = true) : G_ref04_part N (a, b, ()) = G_res_part N (a, b, ()) := by
  unfold okB at ha hb
  have ha := of_decide_eq_true ha
  have hb := of_decide_eq_true hb
  unfold G_res_part S_res_part G_ref04_part S_ref04_part
  dsimp only
  by_cases c : b = 0
  · rw [decide_eq_true c, br_true, decide_eq_false (show ¬ 0 < b by omega), br_false]
    by_cases d : a = 0
    · rw [decide_eq_true d, br_true, decide_eq_false (show ¬ 0 < a by omega), br_false]
    · rw [decide_eq_false d, br_false, decide_eq_true (show 0 < a by omega), br_true]
  · rw [decide_eq_false c, br_false, br_false, decide_eq_true (show 0 < b by omega), br_true]
theorem ref04_Share_eq (N : Nat) (a b : Res) : G_ref04_Share N (a, b, ()) = G_res_Share N (a, b, ()) := by
  unfold G_res_Share S_res_Share G_ref04_Share S_ref04_Share
  simp only [res_Right_is, ref04_Right_is, Option.bind_some]
  cases ha : resB a
  · rfl
  cases hb : resB b
  · rfl
  unfold resB at ha hb
  simp only [Bool.and_eq_true] at ha hb
  simp only [Bool.not_true, br_false, ref04_part_eq N ha.1 hb.1, ref04_part_eq N ha.2.1 hb.2.1]
theorem ref09_On_is (N : Nat) (hN : Big N) {bs : List Bound} (hl : bs.length ≤ 1000000) (on : ByteArray) : G_ref09_On N (bs, on, ()) = some (onB bs on, ()) := by
  have hN' := hN
  unfold Big at hN'
  have loop : ∀ m (i : Nat) x, i ≤ bs.length → x = ((bs, on, (i : Int), ()), ((bs.take i).filter fun b => decide (b.2 = on)).map (·.1), ()) → bs.length - i < m → Tot (g_ref09_On_3 N m x) fun o => o = .inl ((), onB bs on, ()) := by
    refine Tot.range bs.length fun m i x ha hi rec => ?_
    subst ha
    rw [g_ref09_On_3_succ]
    unfold s_ref09_On_3
    by_cases hlt : i < bs.length
    · have d0 : decide ((0 : Int) ≤ (i : Int)) = true := decide_eq_true (by omega)
      have d1 : decide ((i : Int) < ((bs.length : Nat) : Int)) = true := decide_eq_true (by omega)
      have hb : Nat.ble ((((bs.take i).filter fun b => decide (b.2 = on)).map (·.1)).length + 1) maxElems = true := by rw [List.length_map]; exact ble_filt hl
      simp only [d0, d1, br_true, Int.toNat_natCast, at_lt hlt, Option.bind_some, hb, eta2, wi (i := i) (by omega)]
      refine Tot.brD (fun c => rec (i + 1) _ (by omega) (by omega) ?_) fun c => rec (i + 1) _ (by omega) (by omega) ?_
      · rw [take_filt hlt, decide_eq_true c, List.map_append]; rfl
      · rw [take_filt hlt, decide_eq_false c, List.map_append]; simp only [Bool.false_eq_true, if_false, List.map_nil, List.append_nil]
    · have d1 : decide ((i : Int) < ((bs.length : Nat) : Int)) = false := decide_eq_false (by omega)
      simp only [d1, br_false]
      have e : i = bs.length := by omega
      subst e
      rw [List.take_length]
      exact Tot.some rfl
  obtain ⟨o, e, ho⟩ := loop N 0 _ (by omega) rfl (by omega)
  have e : g_ref09_On_3 N N ((bs, on, 0, ()), [], ()) = _ := e
  unfold G_ref09_On S_ref09_On
  simp only [e, Option.bind_some, ho, Sum.elim_inl]
/-- What some pods need, one behind the other. -/
def sumQ (N : Nat) : Res → List Pod → Res × Int
  | s, [] => (s, 0)
  | s, p :: l => match G_res_Add N (s, p.2.1, ()) with
    | some v => if v.2.1 = 0 then sumQ N v.1 l else ((0, 0, 0, 0, 0), v.2.1)
    | none => ((0, 0, 0, 0, 0), 1)
def usedQ (N : Nat) (ps : List Pod) : Res × Int := if ps.all fun p => resB p.2.1 then sumQ N (0, 0, 0, 0, 0) ps else ((0, 0, 0, 0, 0), 12)
theorem sumQ_cons {N : Nat} {s : Res} {p : Pod} {l : List Pod} {v : Res × Int × Unit} (h : G_res_Add N (s, p.2.1, ()) = some v) : sumQ N s (p :: l) = if v.2.1 = 0 then sumQ N v.1 l else ((0, 0, 0, 0, 0), v.2.1) := by
  unfold sumQ
  rw [h]
  dsimp only
  cases l <;> rfl
theorem yard_Used_is (N : Nat) (hN : Big N) {bs : List Bound} (hl : bs.length ≤ 1000000) (on : ByteArray) : G_yard_Used N (bs, on, ()) = some ((usedQ N (onB bs on)).1, (usedQ N (onB bs on)).2, ()) := by
  have hN' := hN
  unfold Big at hN'
  have hl' := Nat.le_trans (onB_len bs on) hl
  generalize hps : onB bs on = ps at hl'
  obtain ⟨o, e, ho⟩ := Tot.findI (f := gx_yard_Used_0 N) (l := ps) (q := fun p => !resB p.2.1) (Inv := fun i x => x = (((ps.length : Int), (i : Int), ()), (ps, ()), ())) (Y := fun o => ∃ y, o = .inl ((), (ps, ()), y)) (No := fun i x o => ∃ y, o = .inr (((i : Int), ()), y))
    (fun m a ha => by
      subst ha
      rw [gx_yard_Used_0_succ]
      unfold sx_yard_Used_0
      exact Tot.brD (fun h => absurd h (by dsimp only; omega)) fun _ => Tot.some ⟨_, rfl⟩)
    (fun m i a Q hi ha rec no => by
      subst ha
      rw [gx_yard_Used_0_succ]
      unfold sx_yard_Used_0
      have d0 : decide ((0 : Int) ≤ (i : Int)) = true := decide_eq_true (by omega)
      have d1 : decide ((i : Int) < ((ps.length : Nat) : Int)) = true := decide_eq_true (by omega)
      simp only [d0, d1, br_true, Int.toNat_natCast, at_lt hi, Option.bind_some, res_Right_is, wi (i := i) (by omega)]
      exact Tot.br (fun c => Tot.some (no c _ ⟨_, rfl⟩)) fun c => rec c _ rfl)
    N (((ps.length : Int), 0, ()), (ps, ()), ()) (by omega) rfl
  have loop : ∀ m (i : Nat) x, i ≤ ps.length → (∃ a, ∃ b : Res, x = ((ps, (ps.length : Int), (i : Int), ()), a, (b, ()), ()) ∧ sumQ N (0, 0, 0, 0, 0) ps = sumQ N b (ps.drop i)) → ps.length - i < m →
      Tot (g_yard_Used_6 N m x) fun o => (∃ y r, o = .inl ((), y, (r, ()), ()) ∧ sumQ N (0, 0, 0, 0, 0) ps = (r, 0)) ∨ ∃ c y, o = .inr ((c, ()), ((0, 0, 0, 0, 0), ()), y) ∧ sumQ N (0, 0, 0, 0, 0) ps = ((0, 0, 0, 0, 0), c) := by
    refine Tot.range ps.length fun m i x ha hi rec => ?_
    obtain ⟨a, b, rfl, hs⟩ := ha
    rw [g_yard_Used_6_succ]
    unfold s_yard_Used_6
    by_cases hlt : i < ps.length
    · have d0 : decide ((0 : Int) ≤ (i : Int)) = true := decide_eq_true (by omega)
      have d1 : decide ((i : Int) < ((ps.length : Nat) : Int)) = true := decide_eq_true (by omega)
      obtain ⟨v, ev, _⟩ := res_Add_tot N b ps[i].2.1
      rw [List.drop_eq_getElem_cons hlt, sumQ_cons ev] at hs
      simp only [d0, d1, br_true, Int.toNat_natCast, at_lt hlt, Option.bind_some, ev, wi (i := i) (by omega)]
      by_cases c : v.2.1 = 0
      · rw [if_pos c] at hs
        rw [decide_eq_true c, Bool.not_true, br_false]
        exact rec (i + 1) _ (by omega) (by omega) ⟨_, _, rfl, hs⟩
      · rw [if_neg c] at hs
        rw [decide_eq_false c, Bool.not_false, br_true]
        exact Tot.some (.inr ⟨_, _, rfl, hs⟩)
    · have d1 : decide ((i : Int) < ((ps.length : Nat) : Int)) = false := decide_eq_false (by omega)
      simp only [d1, br_false]
      rw [List.drop_eq_nil_of_le (by omega)] at hs
      exact Tot.some (.inl ⟨_, _, rfl, hs⟩)
  unfold G_yard_Used S_yard_Used usedQ
  simp only [yard_On_is N hN hl, hps, e, Option.bind_some]
  rcases ho with ⟨h, y, rfl⟩ | ⟨i, hi, h1, _, y, rfl⟩
  · have hall : (ps.all fun p => resB p.2.1) = true := by simpa using h
    rw [if_pos hall]
    obtain ⟨o6, e6, h6⟩ := loop N 0 _ (by omega) ⟨((0, 0, 0, 0, 0), ()), (0, 0, 0, 0, 0), rfl, rfl⟩ (by omega)
    have e6 : g_yard_Used_6 N N ((ps, (ps.length : Int), 0, ()), ((0, 0, 0, 0, 0), ()), ((0, 0, 0, 0, 0), ()), ()) = _ := e6
    simp only [Sum.elim_inl, e6, Option.bind_some]
    rcases h6 with ⟨y, r, rfl, h6⟩ | ⟨c, y, rfl, h6⟩
    · rw [h6]; rfl
    · rw [h6]; rfl
  · have hall : ¬ (ps.all fun p => resB p.2.1) = true := fun h => by
      have := List.all_eq_true.1 h _ (List.getElem_mem hi)
      simp only [this, Bool.not_true] at h1
      cases h1
    rw [if_neg hall]
    simp only [Sum.elim_inr]
    rw [decide_eq_false (show ¬ (i : Int) = -1 by omega)]
    rfl
theorem ref09_Used_is (N : Nat) (hN : Big N) {bs : List Bound} (hl : bs.length ≤ 1000000) (on : ByteArray) : G_ref09_Used N (bs, on, ()) = some ((usedQ N (onB bs on)).1, (usedQ N (onB bs on)).2, ()) := by
  have hN' := hN
  unfold Big at hN'
  have hl' := Nat.le_trans (onB_len bs on) hl
  generalize hps : onB bs on = ps at hl'
  obtain ⟨o, e, ho⟩ := Tot.allL (f := g_ref09_Used_3 N) (l := ps) (q := fun p => resB p.2.1) (Inv := fun i x => ∃ z, x = ((ps, (i : Int), ()), (z, ()), ()) ∧ z = ((0, 0, 0, 0, 0) : Res)) (Y := fun o => ∃ y, o = .inl ((ps, ()), y)) (No := fun o => ∃ y, o = .inr ((12, ()), ((0, 0, 0, 0, 0), ()), y))
    (fun m a ha => by
      obtain ⟨z, rfl, rfl⟩ := ha
      rw [g_ref09_Used_3_succ]
      unfold s_ref09_Used_3
      exact Tot.brD (fun h => absurd h (by dsimp only; omega)) fun _ => Tot.some ⟨_, rfl⟩)
    (fun m i a Q hi ha rec no => by
      obtain ⟨z, rfl, rfl⟩ := ha
      rw [g_ref09_Used_3_succ]
      unfold s_ref09_Used_3
      have d0 : decide ((0 : Int) ≤ (i : Int)) = true := decide_eq_true (by omega)
      have d1 : decide ((i : Int) < ((ps.length : Nat) : Int)) = true := decide_eq_true (by omega)
      simp only [d0, d1, br_true, Int.toNat_natCast, at_lt hi, Option.bind_some, ref04_Right_is, wi (i := i) (by omega)]
      cases c : resB ps[i].2.1
      · exact Tot.some (no c _ ⟨_, rfl⟩)
      · exact rec c _ ⟨_, rfl, rfl⟩)
    N ((ps, 0, ()), ((0, 0, 0, 0, 0), ()), ()) (by omega) ⟨_, rfl, rfl⟩
  have loop : ∀ m (i : Nat) x, i ≤ ps.length → (∃ a, ∃ b : Res, x = ((ps, (i : Int), ()), a, (b, ()), ()) ∧ sumQ N (0, 0, 0, 0, 0) ps = sumQ N b (ps.drop i)) → ps.length - i < m →
      Tot (g_ref09_Used_9 N m x) fun o => (∃ y r, o = .inl ((), y, (r, ()), ()) ∧ sumQ N (0, 0, 0, 0, 0) ps = (r, 0)) ∨ ∃ c y, o = .inr ((c, ()), ((0, 0, 0, 0, 0), ()), y) ∧ sumQ N (0, 0, 0, 0, 0) ps = ((0, 0, 0, 0, 0), c) := by
    refine Tot.range ps.length fun m i x ha hi rec => ?_
    obtain ⟨a, b, rfl, hs⟩ := ha
    rw [g_ref09_Used_9_succ]
    unfold s_ref09_Used_9
    by_cases hlt : i < ps.length
    · have d0 : decide ((0 : Int) ≤ (i : Int)) = true := decide_eq_true (by omega)
      have d1 : decide ((i : Int) < ((ps.length : Nat) : Int)) = true := decide_eq_true (by omega)
      obtain ⟨v, ev, _⟩ := res_Add_tot N b ps[i].2.1
      rw [List.drop_eq_getElem_cons hlt, sumQ_cons ev] at hs
      simp only [d0, d1, br_true, Int.toNat_natCast, at_lt hlt, Option.bind_some, ref04_Add_eq, ev, wi (i := i) (by omega)]
      by_cases c : v.2.1 = 0
      · rw [if_pos c] at hs
        rw [decide_eq_true c, Bool.not_true, br_false]
        exact rec (i + 1) _ (by omega) (by omega) ⟨_, _, rfl, hs⟩
      · rw [if_neg c] at hs
        rw [decide_eq_false c, Bool.not_false, br_true]
        exact Tot.some (.inr ⟨_, _, rfl, hs⟩)
    · have d1 : decide ((i : Int) < ((ps.length : Nat) : Int)) = false := decide_eq_false (by omega)
      simp only [d1, br_false]
      rw [List.drop_eq_nil_of_le (by omega)] at hs
      exact Tot.some (.inl ⟨_, _, rfl, hs⟩)
  unfold G_ref09_Used S_ref09_Used usedQ
  simp only [ref09_On_is N hN hl, hps, e, Option.bind_some]
  rcases ho with ⟨h, ⟨y1, y2⟩, rfl⟩ | ⟨h, y, rfl⟩
  · rw [if_pos h]
    obtain ⟨o6, e6, h6⟩ := loop N 0 _ (by omega) ⟨(y1.1, ()), (0, 0, 0, 0, 0), rfl, rfl⟩ (by omega)
    have e6 : g_ref09_Used_9 N N ((ps, 0, ()), (y1.1, ()), ((0, 0, 0, 0, 0), ()), ()) = _ := e6
    simp only [Sum.elim_inl, e6, Option.bind_some]
    rcases h6 with ⟨y, r, rfl, h6⟩ | ⟨c, y, rfl, h6⟩
    · rw [h6]; rfl
    · rw [h6]; rfl
  · rw [if_neg (by rw [h]; decide)]
    rfl
theorem ref25_Use_eq (N : Nat) (hN : Big N) {bs : List Bound} (hl : bs.length ≤ 1000000) (m : Mach) : G_ref25_Use N (m, bs, ()) = G_block_Use N (m, bs, ()) := by
  unfold G_ref25_Use S_ref25_Use G_block_Use S_block_Use
  simp only [yard_Used_is N hN hl, ref09_Used_is N hN hl, Option.bind_some, ref04_Share_eq]
end Go.Proofs.Ytncfllndmjjljaa.Bt
