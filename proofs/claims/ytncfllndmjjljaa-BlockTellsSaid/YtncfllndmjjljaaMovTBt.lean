/- Which pods would move, what keeps a machine, which are hardly in use: the program and the document. -/
import Derived.Test.YtncfllndmjjljaaUseTBt
import Derived.Test.YtncfllndmjjljaaYrdQBt
namespace Go.Proofs.Ytncfllndmjjljaa.Bt
open Go Go.VI
set_option linter.unusedVariables false
set_option linter.unusedSimpArgs false
set_option maxRecDepth 100000

theorem ref25_Movable_is (N : Nat) (hN : Big N) {bs : List Bound} (hl : bs.length ≤ 1000000) (on : ByteArray) : G_ref25_Movable N (bs, on, ()) = some (movB bs on, ()) := by
  have hN' := hN
  unfold Big at hN'
  have hl' := Nat.le_trans (onB_len bs on) hl
  generalize hps : onB bs on = ps at hl'
  obtain ⟨o, e, ho⟩ := Tot.filt (f := g_ref25_Movable_4 N) (l := ps) (p := fun p => !staysB p) (mk := fun i acc => ((ps, (i : Int), ()), acc, ())) (Y := fun r o => o = .inl ((), r, ()))
    (fun m => by
      rw [g_ref25_Movable_4_succ]
      unfold s_ref25_Movable_4
      exact Tot.brD (fun h => absurd h (by dsimp only; omega)) fun _ => Tot.some rfl)
    (fun m i Q hi yes no => by
      rw [g_ref25_Movable_4_succ]
      unfold s_ref25_Movable_4
      have d0 : decide ((0 : Int) ≤ (i : Int)) = true := decide_eq_true (by omega)
      have d1 : decide ((i : Int) < ((ps.length : Nat) : Int)) = true := decide_eq_true (by omega)
      simp only [d0, d1, br_true, Int.toNat_natCast, at_lt hi, Option.bind_some, eta2, ble_filt hl', wi (i := i) (by omega)]
      exact Tot.br (fun c => yes c) fun c => no c)
    N (by omega)
  have e : g_ref25_Movable_4 N N ((ps, 0, ()), [], ()) = _ := e
  unfold G_ref25_Movable S_ref25_Movable movB
  simp only [ref09_On_is N hN hl, hps, e, Option.bind_some, ho, Sum.elim_inl]
theorem keepsB_or (p : Pod) : keepsB p = (p.2.2.2.2.2.2.2.2.2.2.2.2.2.2.1 || (p.2.2.2.2.2.2.2.2.2.2.2.2.2.2.2 || decide (p.2.2.2.2.2.2.2.2.2.2.2.2.1 = nameless))) := by
  unfold keepsB
  simp only [List.any_cons, List.any_nil, Bool.or_false, id]
theorem ref25_Why_is (N : Nat) (hN : Big N) {l : List Budget} {bs : List Bound} (hb : GoodB bs) (hg : GoodG l) (on : ByteArray) : G_ref25_Why N (bs, l, on, ()) = some ((whyB bs l on).1, (whyB bs l on).2, ()) := by
  have hN' := hN
  unfold Big at hN'
  have hl := hb.len
  have hml := Nat.le_trans (movB_len bs on) hl
  unfold G_ref25_Why S_ref25_Why whyB
  simp only [ref25_Movable_is N hN hl, Option.bind_some]
  generalize movB bs on = ps at hml
  obtain ⟨o, e, ho⟩ := Tot.findI (f := g_ref25_Why_3 N) (l := ps) (q := keepsB) (Inv := fun i x => x = ((bs, l, ps, (i : Int), ()), ())) (Y := fun o => ∃ y, o = .inl ((bs, l, ps, ()), y)) (No := fun i p o => ∃ y, o = .inr ((p.1, 22, ()), y))
    (fun m a ha => by
      subst ha
      rw [g_ref25_Why_3_succ]
      unfold s_ref25_Why_3
      exact Tot.brD (fun h => absurd h (by dsimp only; omega)) fun _ => Tot.some ⟨_, rfl⟩)
    (fun m i a Q hi ha rec no => by
      subst ha
      rw [g_ref25_Why_3_succ]
      unfold s_ref25_Why_3
      have d0 : decide ((0 : Int) ≤ (i : Int)) = true := decide_eq_true (by omega)
      have d1 : decide ((i : Int) < ((ps.length : Nat) : Int)) = true := decide_eq_true (by omega)
      simp only [d0, d1, br_true, Int.toNat_natCast, at_lt hi, Option.bind_some, eta2, wi (i := i) (by omega)]
      have hk := keepsB_or ps[i]
      cases c1 : ps[i].2.2.2.2.2.2.2.2.2.2.2.2.2.2.1
      · cases c2 : ps[i].2.2.2.2.2.2.2.2.2.2.2.2.2.2.2
        · rw [c1, c2, Bool.false_or, Bool.false_or] at hk
          simp only [br_false]
          cases c3 : decide (ps[i].2.2.2.2.2.2.2.2.2.2.2.2.1 = (ByteArray.mk (List.toArray [])))
          · exact rec (hk.trans c3) _ rfl
          · exact Tot.some (no (hk.trans c3) _ ⟨_, rfl⟩)
        · rw [c1, c2] at hk
          exact Tot.some (no hk _ ⟨_, rfl⟩)
      · rw [c1] at hk
        exact Tot.some (no hk _ ⟨_, rfl⟩))
    N ((bs, l, ps, 0, ()), ()) (by omega) rfl
  simp only [e, Option.bind_some]
  rcases ho with ⟨h, y, rfl⟩ | ⟨i, hi, h1, h2, y, rfl⟩
  · rw [find_none h]
    simp only [Sum.elim_inl]
    have loop : ∀ m (i : Nat) x, i ≤ ps.length → (∃ bs', x = ((bs', l, ps, (i : Int), ()), ()) ∧ GoodB bs' ∧ goB l ps bs = goB l (ps.drop i) bs') → ps.length - i < m → Tot (g_ref25_Why_8 N m x) fun o => (goB l ps bs = (nameless, 0) ∧ ∃ y, o = .inl y) ∨ ∃ nm c y, goB l ps bs = (nm, c) ∧ o = .inr ((nm, c, ()), y) := by
      refine Tot.range ps.length fun m i x ha hi rec => ?_
      obtain ⟨bs', rfl, hb', hgo⟩ := ha
      rw [g_ref25_Why_8_succ]
      unfold s_ref25_Why_8
      by_cases hlt : i < ps.length
      · have d0 : decide ((0 : Int) ≤ (i : Int)) = true := decide_eq_true (by omega)
        have d1 : decide ((i : Int) < ((ps.length : Nat) : Int)) = true := decide_eq_true (by omega)
        rw [List.drop_eq_getElem_cons hlt] at hgo
        simp only [d0, d1, br_true, Int.toNat_natCast, at_lt hlt, Option.bind_some, ref15_Evict_is N hN hb' hg, wi (i := i) (by omega)]
        by_cases c : mayB l bs' ps[i].1 = 0
        · simp only [decide_eq_true c, Bool.not_true, br_false, if_pos c]
          exact rec (i + 1) _ (by omega) (by omega) ⟨_, rfl, offB_good hb' _, by rw [hgo, goB, if_pos c]⟩
        · simp only [decide_eq_false c, Bool.not_false, br_true]
          exact Tot.some (.inr ⟨_, _, _, by rw [hgo, goB, if_neg c], rfl⟩)
      · have d1 : decide ((i : Int) < ((ps.length : Nat) : Int)) = false := decide_eq_false (by omega)
        simp only [d1, br_false]
        exact Tot.some (.inl ⟨by rw [hgo, List.drop_eq_nil_of_le (by omega)]; rfl, _, rfl⟩)
    obtain ⟨o, e, ho⟩ := loop N 0 _ (by omega) ⟨bs, rfl, hb, rfl⟩ (by omega)
    have e : g_ref25_Why_8 N N ((bs, l, ps, 0, ()), ()) = _ := e
    simp only [e, Option.bind_some]
    rcases ho with ⟨hg, y, rfl⟩ | ⟨nm, c, y, hg, rfl⟩ <;> rw [hg] <;> rfl
  · rw [find_at hi h1 h2]
    rfl
def idleQ (u : Mach → Int) (p : Int) (m : Mach) : Bool := !decide (m.2.1 = nameless) && (m.2.2.2.2.2 && decide (u m < p))
def idleB (u : Mach → Int) (ms : List Mach) (p : Int) : List ByteArray := (ms.filter (idleQ u p)).map (·.1)
theorem block_Idle_is (N : Nat) (hN : Big N) {bs : List Bound} {u : Mach → Int} (hu : ∀ m, 0 ≤ u m ∧ G_block_Use N (m, bs, ()) = some (u m, ())) {ms : List Mach} (hl : ms.length ≤ 1000000) (p : Int) : G_block_Idle N (ms, bs, p, ()) = some (idleB u ms p, ()) := by
  have hN' := hN
  unfold Big at hN'
  have loop : ∀ m (i : Nat) x, i ≤ ms.length → x = ((ms, (ms.length : Int), (i : Int), ()), (bs, ()), (p, ()), ((ms.take i).filter (idleQ u p)).map (·.1), ()) → ms.length - i < m → Tot (gx_block_Idle_0 N m x) fun o => ∃ y z, o = .inl ((), y, z, idleB u ms p, ()) := by
    refine Tot.range ms.length fun m i x ha hi rec => ?_
    subst ha
    rw [gx_block_Idle_0_succ]
    unfold sx_block_Idle_0
    by_cases hlt : i < ms.length
    · have d0 : decide ((0 : Int) ≤ (i : Int)) = true := decide_eq_true (by omega)
      have d1 : decide ((i : Int) < ((ms.length : Nat) : Int)) = true := decide_eq_true (by omega)
      have hb : Nat.ble ((((ms.take i).filter (idleQ u p)).map (·.1)).length + 1) maxElems = true := by rw [List.length_map]; exact ble_filt hl
      have yes : idleQ u p ms[i] = true → ((ms.take i).filter (idleQ u p)).map (·.1) ++ [ms[i].1] = ((ms.take (i + 1)).filter (idleQ u p)).map (·.1) := fun c => by
        rw [take_filt hlt, c, List.map_append]; rfl
      have no : idleQ u p ms[i] = false → ((ms.take i).filter (idleQ u p)).map (·.1) = ((ms.take (i + 1)).filter (idleQ u p)).map (·.1) := fun c => by
        rw [take_filt hlt, c, List.map_append]; simp only [Bool.false_eq_true, if_false, List.map_nil, List.append_nil]
      have go := rec (i + 1) _ (by omega) (by omega) rfl
      simp only [d0, d1, br_true, Int.toNat_natCast, at_lt hlt, Option.bind_some, hb, eta2, (hu _).2, wi (i := i) (by omega)]
      cases c1 : decide (ms[i].2.1 = (ByteArray.mk (List.toArray [])))
      · cases c2 : ms[i].2.2.2.2.2
        · rw [no (by unfold idleQ; rw [c2]; simp)]
          exact go
        · cases c3 : decide (u ms[i] < p)
          · rw [no (by unfold idleQ; rw [c3]; simp)]
            exact go
          · simp only [Bool.not_false, br_true, Option.bind_some]
            rw [yes (by unfold idleQ nameless; rw [c1, c2, c3]; rfl)]
            exact go
      · rw [no (by unfold idleQ nameless; rw [c1]; rfl)]
        exact go
    · have d1 : decide ((i : Int) < ((ms.length : Nat) : Int)) = false := decide_eq_false (by omega)
      simp only [d1, br_false]
      have e : i = ms.length := by omega
      subst e
      rw [List.take_length]
      exact Tot.some ⟨_, _, rfl⟩
  obtain ⟨o, e, y, z, rfl⟩ := loop N 0 _ (by omega) rfl (by omega)
  have e : gx_block_Idle_0 N N ((ms, (ms.length : Int), 0, ()), (bs, ()), (p, ()), [], ()) = _ := e
  unfold G_block_Idle S_block_Idle
  simp only [e, Option.bind_some, Sum.elim_inl]
theorem ref25_Idle_is (N : Nat) (hN : Big N) {bs : List Bound} (hbl : bs.length ≤ 1000000) {u : Mach → Int} (hu : ∀ m, 0 ≤ u m ∧ G_block_Use N (m, bs, ()) = some (u m, ())) {ms : List Mach} (hl : ms.length ≤ 1000000) (p : Int) : G_ref25_Idle N (ms, bs, p, ()) = some (idleB u ms p, ()) := by
  have hN' := hN
  unfold Big at hN'
  have loop : ∀ m (i : Nat) x, i ≤ ms.length → x = ((ms, bs, p, (i : Int), ()), ((ms.take i).filter (idleQ u p)).map (·.1), ()) → ms.length - i < m → Tot (g_ref25_Idle_3 N m x) fun o => o = .inl ((), idleB u ms p, ()) := by
    refine Tot.range ms.length fun m i x ha hi rec => ?_
    subst ha
    rw [g_ref25_Idle_3_succ]
    unfold s_ref25_Idle_3
    by_cases hlt : i < ms.length
    · have d0 : decide ((0 : Int) ≤ (i : Int)) = true := decide_eq_true (by omega)
      have d1 : decide ((i : Int) < ((ms.length : Nat) : Int)) = true := decide_eq_true (by omega)
      have hb : Nat.ble ((((ms.take i).filter (idleQ u p)).map (·.1)).length + 1) maxElems = true := by rw [List.length_map]; exact ble_filt hl
      have yes : idleQ u p ms[i] = true → ((ms.take i).filter (idleQ u p)).map (·.1) ++ [ms[i].1] = ((ms.take (i + 1)).filter (idleQ u p)).map (·.1) := fun c => by
        rw [take_filt hlt, c, List.map_append]; rfl
      have no : idleQ u p ms[i] = false → ((ms.take i).filter (idleQ u p)).map (·.1) = ((ms.take (i + 1)).filter (idleQ u p)).map (·.1) := fun c => by
        rw [take_filt hlt, c, List.map_append]; simp only [Bool.false_eq_true, if_false, List.map_nil, List.append_nil]
      have go := rec (i + 1) _ (by omega) (by omega) rfl
      simp only [d0, d1, br_true, Int.toNat_natCast, at_lt hlt, Option.bind_some, hb, eta2, ref25_Use_eq N hN hbl, (hu _).2, wi (i := i) (by omega)]
      cases c1 : decide (ms[i].2.1 = (ByteArray.mk (List.toArray [])))
      · cases c2 : ms[i].2.2.2.2.2
        · rw [no (by unfold idleQ; rw [c2]; simp)]
          exact go
        · cases c3 : decide (u ms[i] < p)
          · rw [no (by unfold idleQ; rw [c3]; simp)]
            exact go
          · simp only [Bool.not_false, br_true, Option.bind_some]
            rw [yes (by unfold idleQ nameless; rw [c1, c2, c3]; rfl)]
            exact go
      · rw [no (by unfold idleQ nameless; rw [c1]; rfl)]
        exact go
    · have d1 : decide ((i : Int) < ((ms.length : Nat) : Int)) = false := decide_eq_false (by omega)
      simp only [d1, br_false]
      have e : i = ms.length := by omega
      subst e
      rw [List.take_length]
      exact Tot.some rfl
  obtain ⟨o, e, rfl⟩ := loop N 0 _ (by omega) rfl (by omega)
  have e : g_ref25_Idle_3 N N ((ms, bs, p, 0, ()), [], ()) = _ := e
  unfold G_ref25_Idle S_ref25_Idle
  simp only [e, Option.bind_some, Sum.elim_inl]
def emptyQ (bs : List Bound) (m : Mach) : Bool := !decide (m.2.1 = nameless) && decide (((movB bs m.1).length : Int) = 0)
def emptyB (bs : List Bound) (ms : List Mach) : List ByteArray := (ms.filter (emptyQ bs)).map (·.1)
theorem block_Empty_is (N : Nat) (hN : Big N) {bs : List Bound} (hbl : bs.length ≤ 1000000) {ms : List Mach} (hl : ms.length ≤ 1000000) : G_block_Empty N (ms, bs, ()) = some (emptyB bs ms, ()) := by
  have hN' := hN
  unfold Big at hN'
  have loop : ∀ m (i : Nat) x, i ≤ ms.length → x = ((ms, (ms.length : Int), (i : Int), ()), (bs, ()), ((ms.take i).filter (emptyQ bs)).map (·.1), ()) → ms.length - i < m → Tot (gx_block_Empty_0 N m x) fun o => ∃ y, o = .inl ((), y, emptyB bs ms, ()) := by
    refine Tot.range ms.length fun m i x ha hi rec => ?_
    subst ha
    rw [gx_block_Empty_0_succ]
    unfold sx_block_Empty_0
    by_cases hlt : i < ms.length
    · have d0 : decide ((0 : Int) ≤ (i : Int)) = true := decide_eq_true (by omega)
      have d1 : decide ((i : Int) < ((ms.length : Nat) : Int)) = true := decide_eq_true (by omega)
      have hb : Nat.ble ((((ms.take i).filter (emptyQ bs)).map (·.1)).length + 1) maxElems = true := by rw [List.length_map]; exact ble_filt hl
      have yes : emptyQ bs ms[i] = true → ((ms.take i).filter (emptyQ bs)).map (·.1) ++ [ms[i].1] = ((ms.take (i + 1)).filter (emptyQ bs)).map (·.1) := fun c => by
        rw [take_filt hlt, c, List.map_append]; rfl
      have no : emptyQ bs ms[i] = false → ((ms.take i).filter (emptyQ bs)).map (·.1) = ((ms.take (i + 1)).filter (emptyQ bs)).map (·.1) := fun c => by
        rw [take_filt hlt, c, List.map_append]; simp only [Bool.false_eq_true, if_false, List.map_nil, List.append_nil]
      have go := rec (i + 1) _ (by omega) (by omega) rfl
      simp only [d0, d1, br_true, Int.toNat_natCast, at_lt hlt, Option.bind_some, hb, eta2, block_Movable_is N hN hbl, wi (i := i) (by omega)]
      cases c1 : decide (ms[i].2.1 = (ByteArray.mk (List.toArray [])))
      · cases c2 : decide (((movB bs ms[i].1).length : Int) = 0)
        · rw [no (by unfold emptyQ; rw [c2]; simp)]
          exact go
        · simp only [Bool.not_false, br_true]
          rw [yes (by unfold emptyQ nameless; rw [c1, c2]; rfl)]
          exact go
      · rw [no (by unfold emptyQ nameless; rw [c1]; rfl)]
        exact go
    · have d1 : decide ((i : Int) < ((ms.length : Nat) : Int)) = false := decide_eq_false (by omega)
      simp only [d1, br_false]
      have e : i = ms.length := by omega
      subst e
      rw [List.take_length]
      exact Tot.some ⟨_, rfl⟩
  obtain ⟨o, e, y, rfl⟩ := loop N 0 _ (by omega) rfl (by omega)
  have e : gx_block_Empty_0 N N ((ms, (ms.length : Int), 0, ()), (bs, ()), [], ()) = _ := e
  unfold G_block_Empty S_block_Empty
  simp only [e, Option.bind_some, Sum.elim_inl]
theorem ref25_Empty_is (N : Nat) (hN : Big N) {bs : List Bound} (hbl : bs.length ≤ 1000000) {ms : List Mach} (hl : ms.length ≤ 1000000) : G_ref25_Empty N (ms, bs, ()) = some (emptyB bs ms, ()) := by
  have hN' := hN
  unfold Big at hN'
  have loop : ∀ m (i : Nat) x, i ≤ ms.length → x = ((ms, bs, (i : Int), ()), ((ms.take i).filter (emptyQ bs)).map (·.1), ()) → ms.length - i < m → Tot (g_ref25_Empty_3 N m x) fun o => o = .inl ((), emptyB bs ms, ()) := by
    refine Tot.range ms.length fun m i x ha hi rec => ?_
    subst ha
    rw [g_ref25_Empty_3_succ]
    unfold s_ref25_Empty_3
    by_cases hlt : i < ms.length
    · have d0 : decide ((0 : Int) ≤ (i : Int)) = true := decide_eq_true (by omega)
      have d1 : decide ((i : Int) < ((ms.length : Nat) : Int)) = true := decide_eq_true (by omega)
      have hb : Nat.ble ((((ms.take i).filter (emptyQ bs)).map (·.1)).length + 1) maxElems = true := by rw [List.length_map]; exact ble_filt hl
      have yes : emptyQ bs ms[i] = true → ((ms.take i).filter (emptyQ bs)).map (·.1) ++ [ms[i].1] = ((ms.take (i + 1)).filter (emptyQ bs)).map (·.1) := fun c => by
        rw [take_filt hlt, c, List.map_append]; rfl
      have no : emptyQ bs ms[i] = false → ((ms.take i).filter (emptyQ bs)).map (·.1) = ((ms.take (i + 1)).filter (emptyQ bs)).map (·.1) := fun c => by
        rw [take_filt hlt, c, List.map_append]; simp only [Bool.false_eq_true, if_false, List.map_nil, List.append_nil]
      have go := rec (i + 1) _ (by omega) (by omega) rfl
      simp only [d0, d1, br_true, Int.toNat_natCast, at_lt hlt, Option.bind_some, hb, eta2, ref25_Movable_is N hN hbl, wi (i := i) (by omega)]
      cases c1 : decide (ms[i].2.1 = (ByteArray.mk (List.toArray [])))
      · cases c2 : decide (((movB bs ms[i].1).length : Int) = 0)
        · rw [no (by unfold emptyQ; rw [c2]; simp)]
          exact go
        · simp only [Bool.not_false, br_true]
          rw [yes (by unfold emptyQ nameless; rw [c1, c2]; rfl)]
          exact go
      · rw [no (by unfold emptyQ nameless; rw [c1]; rfl)]
        exact go
    · have d1 : decide ((i : Int) < ((ms.length : Nat) : Int)) = false := decide_eq_false (by omega)
      simp only [d1, br_false]
      have e : i = ms.length := by omega
      subst e
      rw [List.take_length]
      exact Tot.some rfl
  obtain ⟨o, e, rfl⟩ := loop N 0 _ (by omega) rfl (by omega)
  have e : g_ref25_Empty_3 N N ((ms, bs, 0, ()), [], ()) = _ := e
  unfold G_ref25_Empty S_ref25_Empty
  simp only [e, Option.bind_some, Sum.elim_inl]
end Go.Proofs.Ytncfllndmjjljaa.Bt
