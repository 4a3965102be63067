/- Yards, budgets, and what keeps a machine: the functions. -/
import Derived.Test.YtncfllndmjjljaaYrdFBt
import Derived.Test.YtncfllndmjjljaaLhaPBt
namespace Go.Proofs.Ytncfllndmjjljaa.Bt
open Go Go.VI
set_option linter.unusedVariables false
set_option linter.unusedSimpArgs false
set_option maxRecDepth 100000

theorem eta2 {α β : Type} (p : α × β) : (p.1, p.2) = p := rfl
theorem take_filt {α : Type} {l : List α} {p : α → Bool} {i : Nat} (hi : i < l.length) : (l.take (i + 1)).filter p = (l.take i).filter p ++ (if p l[i] then [l[i]] else []) := by
  rw [List.take_add_one, List.getElem?_eq_getElem hi, List.filter_append]
  simp only [Option.toList_some, List.filter_cons, List.filter_nil]
def onB (bs : List Bound) (on : ByteArray) : List Pod := (bs.filter fun b => decide (b.2 = on)).map (·.1)
theorem yard_On_is (N : Nat) (hN : Big N) {bs : List Bound} (hl : bs.length ≤ 1000000) (on : ByteArray) : G_yard_On N (bs, on, ()) = some (onB bs on, ()) := by
  have hN' := hN
  unfold Big at hN'
  have loop : ∀ m (i : Nat) x, i ≤ bs.length → x = ((on, bs, (bs.length : Int), (i : Int), ()), ((bs.take i).filter fun b => decide (b.2 = on)).map (·.1), ()) → bs.length - i < m → Tot (g_yard_On_3 N m x) fun o => o = .inl ((), onB bs on, ()) := by
    refine Tot.range bs.length fun m i x ha hi rec => ?_
    subst ha
    rw [g_yard_On_3_succ]
    unfold s_yard_On_3
    by_cases hlt : i < bs.length
    · have d0 : decide ((0 : Int) ≤ (i : Int)) = true := decide_eq_true (by omega)
      have d1 : decide ((i : Int) < ((bs.length : Nat) : Int)) = true := decide_eq_true (by omega)
      have hb : Nat.ble ((((bs.take i).filter fun b => decide (b.2 = on)).map (·.1)).length + 1) maxElems = true := by rw [List.length_map]; exact ble_filt hl
      simp only [d0, d1, br_true, Int.toNat_natCast, at_lt hlt, Option.bind_some, hb, eta2, wi (i := i) (by omega)]
      refine Tot.brD (fun c => rec (i + 1) _ (by omega) (by omega) ?_) fun c => rec (i + 1) _ (by omega) (by omega) ?_
      · rw [take_filt hlt, decide_eq_true c, List.map_append]; rfl
      · rw [take_filt hlt, decide_eq_false c, List.map_append]; simp only [Bool.false_eq_true, if_false, List.map_nil, List.append_nil]
    · have d1 : decide ((i : Int) < ((bs.length : Nat) : Int)) = false := decide_eq_false (by omega)
      simp only [d1, br_false]
      have e : i = bs.length := by omega
      subst e
      rw [List.take_length]
      exact Tot.some rfl
  obtain ⟨o, e, ho⟩ := loop N 0 _ (by omega) rfl (by omega)
  have e : g_yard_On_3 N N ((on, bs, (bs.length : Int), 0, ()), [], ()) = _ := e
  unfold G_yard_On S_yard_On
  simp only [e, Option.bind_some, ho, Sum.elim_inl]
theorem yard_Place_is (N : Nat) (hN : Big N) {bs : List Bound} (hl : bs.length ≤ 1000000) (name : ByteArray) : G_yard_Place N (bs, name, ()) = some (plI (plB bs name), ()) := by
  have hN' := hN
  unfold Big at hN'
  obtain ⟨o, e, ho⟩ := Tot.findI (f := gx_yard_Place_0 N) (l := bs) (q := fun b => decide (b.1.1 = name)) (Inv := fun i x => x = (((bs.length : Int), (i : Int), ()), (bs, ()), (name, ()), ())) (Y := fun o => ∃ y, o = .inl y) (No := fun i x o => ∃ y, o = .inr (((i : Int), ()), y))
    (fun m a ha => by
      subst ha
      rw [gx_yard_Place_0_succ]
      unfold sx_yard_Place_0
      exact Tot.brD (fun h => absurd h (by dsimp only; omega)) fun _ => Tot.some ⟨_, rfl⟩)
    (fun m i a Q hi ha rec no => by
      subst ha
      rw [gx_yard_Place_0_succ]
      unfold sx_yard_Place_0
      have d0 : decide ((0 : Int) ≤ (i : Int)) = true := decide_eq_true (by omega)
      have d1 : decide ((i : Int) < ((bs.length : Nat) : Int)) = true := decide_eq_true (by omega)
      simp only [d0, d1, br_true, Int.toNat_natCast, at_lt hi, Option.bind_some, wi (i := i) (by omega)]
      refine Tot.brD (fun c => Tot.some (no (decide_eq_true c) _ ⟨_, rfl⟩)) fun c => rec (decide_eq_false c) _ rfl)
    N (((bs.length : Int), 0, ()), (bs, ()), (name, ()), ()) (by omega) rfl
  unfold G_yard_Place S_yard_Place plB plI
  simp only [e, Option.bind_some]
  rcases ho with ⟨h, y, rfl⟩ | ⟨i, hi, h1, h2, y, rfl⟩
  · rw [findIdx_none h]; rfl
  · rw [findIdx_at hi h1 h2]; rfl
def staysB (p : Pod) : Bool := p.2.2.2.2.2.2.2.2.2.2.2.2.2.1
def movB (bs : List Bound) (on : ByteArray) : List Pod := (onB bs on).filter fun p => !staysB p
theorem onB_len (bs : List Bound) (on : ByteArray) : (onB bs on).length ≤ bs.length := by
  unfold onB
  rw [List.length_map]
  exact List.length_filter_le _ _
theorem block_Movable_is (N : Nat) (hN : Big N) {bs : List Bound} (hl : bs.length ≤ 1000000) (on : ByteArray) : G_block_Movable N (bs, on, ()) = some (movB bs on, ()) := by
  have hN' := hN
  unfold Big at hN'
  have hl' := Nat.le_trans (onB_len bs on) hl
  generalize hps : onB bs on = ps at hl'
  obtain ⟨o, e, ho⟩ := Tot.filt (f := g_block_Movable_3 N) (l := ps) (p := fun p => !staysB p) (mk := fun i acc => ((ps, (ps.length : Int), (i : Int), ()), acc, ())) (Y := fun r o => o = .inl ((), r, ()))
    (fun m => by
      rw [g_block_Movable_3_succ]
      unfold s_block_Movable_3
      exact Tot.brD (fun h => absurd h (by dsimp only; omega)) fun _ => Tot.some rfl)
    (fun m i Q hi yes no => by
      rw [g_block_Movable_3_succ]
      unfold s_block_Movable_3
      have d0 : decide ((0 : Int) ≤ (i : Int)) = true := decide_eq_true (by omega)
      have d1 : decide ((i : Int) < ((ps.length : Nat) : Int)) = true := decide_eq_true (by omega)
      simp only [d0, d1, br_true, Int.toNat_natCast, at_lt hi, Option.bind_some, eta2, ble_filt hl', wi (i := i) (by omega)]
      exact Tot.br (fun c => yes c) fun c => no c)
    N (by omega)
  have e : g_block_Movable_3 N N ((ps, (ps.length : Int), 0, ()), [], ()) = _ := e
  unfold G_block_Movable S_block_Movable movB
  simp only [yard_On_is N hN hl, hps, e, Option.bind_some, ho, Sum.elim_inl]
theorem block_one_is (N : Nat) (hN : Big N) {l : List Bool} (hl : l.length ≤ 1000000) : G_block_one N (l, ()) = some (l.any id, ()) := by
  have hN' := hN
  unfold Big at hN'
  obtain ⟨o, e, ho⟩ := Tot.allL (f := g_block_one_2 N) (l := l) (q := fun x => !x) (Inv := fun i x => x = ((l, (l.length : Int), (i : Int), ()), ())) (Y := fun o => ∃ y, o = .inl y) (No := fun o => ∃ y, o = .inr ((true, ()), y))
    (fun m a ha => by
      subst ha
      rw [g_block_one_2_succ]
      unfold s_block_one_2
      exact Tot.brD (fun h => absurd h (by dsimp only; omega)) fun _ => Tot.some ⟨_, rfl⟩)
    (fun m i a Q hi ha rec no => by
      subst ha
      rw [g_block_one_2_succ]
      unfold s_block_one_2
      have d0 : decide ((0 : Int) ≤ (i : Int)) = true := decide_eq_true (by omega)
      have d1 : decide ((i : Int) < ((l.length : Nat) : Int)) = true := decide_eq_true (by omega)
      simp only [d0, d1, br_true, Int.toNat_natCast, at_lt hi, Option.bind_some, wi (i := i) (by omega)]
      exact Tot.br (fun c => Tot.some (no (by rw [c]; rfl) _ ⟨_, rfl⟩)) fun c => rec (by rw [c]; rfl) _ rfl)
    N ((l, (l.length : Int), 0, ()), ()) (by omega) rfl
  have ea : l.any id = !(l.all fun x => !x) := by
    rw [List.not_all_eq_any_not]
    simp only [Bool.not_not]
    rfl
  unfold G_block_one S_block_one
  rw [ea]
  simp only [e, Option.bind_some]
  rcases ho with ⟨h, y, rfl⟩ | ⟨h, y, rfl⟩ <;> rw [h] <;> rfl
def keepsB (p : Pod) : Bool := [p.2.2.2.2.2.2.2.2.2.2.2.2.2.2.1, p.2.2.2.2.2.2.2.2.2.2.2.2.2.2.2, decide (p.2.2.2.2.2.2.2.2.2.2.2.2.1 = nameless)].any id
theorem block_blocks_is (N : Nat) (hN : Big N) (p : Pod) : G_block_blocks N (p, ()) = some (keepsB p, ()) := by
  unfold G_block_blocks S_block_blocks
  have e := block_one_is N hN (l := [p.2.2.2.2.2.2.2.2.2.2.2.2.2.2.1, p.2.2.2.2.2.2.2.2.2.2.2.2.2.2.2, decide (p.2.2.2.2.2.2.2.2.2.2.2.2.1 = nameless)]) (by show 3 ≤ _; decide)
  have e : G_block_one N ([p.2.2.2.2.2.2.2.2.2.2.2.2.2.2.1, p.2.2.2.2.2.2.2.2.2.2.2.2.2.2.2, decide (p.2.2.2.2.2.2.2.2.2.2.2.2.1 = (ByteArray.mk (List.toArray [])))], ()) = _ := e
  simp only [e, Option.bind_some]
  rfl
/-- Yards whose pods have right labels. -/
structure GoodB (bs : List Bound) : Prop where
  len : bs.length ≤ 1000000
  lab : ∀ b ∈ bs, okL b.1.2.2.1 ∧ SortL b.1.2.2.1
structure GoodG (l : List Budget) : Prop where
  len : l.length ≤ 1000000
  num : ∀ g ∈ l, 0 ≤ g.2.2 ∧ g.2.2 ≤ 400 ∧ okL g.2.1
theorem budget_counts_is (N : Nat) (hN : Big N) {g : Budget} {p : Pod} (h1 : okL p.2.2.1) (h2 : SortL p.2.2.1) (h3 : okL g.2.1) : G_budget_counts N (g, p, ()) = some (hasB p.2.2.1 g.2.1, ()) := by
  unfold G_budget_counts S_budget_counts
  simp only [labels_Has_is N hN h1 h2 h3, Option.bind_some]
def cntB (g : Budget) (b : Bound) : Bool := !decide (b.2 = nameless) && hasB b.1.2.2.1 g.2.1
def spareB (g : Budget) (bs : List Bound) : Int := ((bs.filter (cntB g)).length : Int) - g.2.2
theorem budget_Spare_is (N : Nat) (hN : Big N) {g : Budget} {bs : List Bound} (hb : GoodB bs) (h3 : okL g.2.1) (h0 : 0 ≤ g.2.2) (h4 : g.2.2 ≤ 400) : G_budget_Spare N (g, bs, ()) = some (spareB g bs, ()) := by
  have hN' := hN
  unfold Big at hN'
  have hl := hb.len
  have hf : ∀ i, ((bs.take i).filter (cntB g)).length ≤ 1000000 := fun i => Nat.le_trans (List.length_filter_le _ _) (by rw [List.length_take]; omega)
  have loop : ∀ m (i : Nat) x, i ≤ bs.length → x = (((((bs.take i).filter (cntB g)).length : Int) - g.2.2, bs, (bs.length : Int), (i : Int), ()), (g, ()), ()) → bs.length - i < m → Tot (g_budget_Spare_3 N m x) fun o => ∃ y, o = .inl ((spareB g bs, ()), y) := by
    refine Tot.range bs.length fun m i x ha hi rec => ?_
    subst ha
    rw [g_budget_Spare_3_succ]
    unfold s_budget_Spare_3
    by_cases hlt : i < bs.length
    · have d0 : decide ((0 : Int) ≤ (i : Int)) = true := decide_eq_true (by omega)
      have d1 : decide ((i : Int) < ((bs.length : Nat) : Int)) = true := decide_eq_true (by omega)
      obtain ⟨k1, k2⟩ := hb.lab _ (List.getElem_mem hlt)
      have hc := hf i
      have hw : IntKind.i64.wrap ((((bs.take i).filter (cntB g)).length : Int) - g.2.2 + 1) = (((bs.take i).filter (cntB g)).length : Int) - g.2.2 + 1 := w64 (by omega) (by omega)
      simp only [d0, d1, br_true, Int.toNat_natCast, at_lt hlt, Option.bind_some, eta2, budget_counts_is N hN k1 k2 h3, hw, wi (i := i) (by omega)]
      have no : cntB g bs[i] = false → ((((bs.take i).filter (cntB g)).length : Int) - g.2.2, bs, (bs.length : Int), ((i + 1 : Nat) : Int), ()) = ((((bs.take (i + 1)).filter (cntB g)).length : Int) - g.2.2, bs, (bs.length : Int), ((i + 1 : Nat) : Int), ()) := fun c => by
        rw [take_filt hlt, c]; simp only [Bool.false_eq_true, if_false, List.append_nil]
      cases c1 : decide (bs[i].2 = (ByteArray.mk (List.toArray [])))
      · cases c2 : hasB bs[i].1.2.2.1 g.2.1
        · refine rec (i + 1) _ (by omega) (by omega) ?_
          rw [no (by unfold cntB nameless; rw [c1, c2]; rfl)]
        · refine rec (i + 1) _ (by omega) (by omega) ?_
          have c : cntB g bs[i] = true := by unfold cntB nameless; rw [c1, c2]; rfl
          rw [take_filt hlt, c]
          simp only [if_true, List.length_append, List.length_singleton]
          congr 2
          omega
      · refine rec (i + 1) _ (by omega) (by omega) ?_
        rw [no (by unfold cntB nameless; rw [c1]; rfl)]
    · have d1 : decide ((i : Int) < ((bs.length : Nat) : Int)) = false := decide_eq_false (by omega)
      simp only [d1, br_false]
      have e : i = bs.length := by omega
      subst e
      rw [List.take_length]
      exact Tot.some ⟨_, rfl⟩
  obtain ⟨o, e, y, ho⟩ := loop N 0 _ (by omega) rfl (by omega)
  have hw : IntKind.i64.wrap (0 - g.2.2) = ((((bs.take 0).filter (cntB g)).length : Nat) : Int) - g.2.2 := by rw [w64 (by omega) (by omega)]; rfl
  have e : g_budget_Spare_3 N N ((((((bs.take 0).filter (cntB g)).length : Nat) : Int) - g.2.2, bs, (bs.length : Int), 0, ()), (g, ()), ()) = _ := e
  unfold G_budget_Spare S_budget_Spare
  simp only [hw, e, Option.bind_some, ho, Sum.elim_inl]
def barB (l : List Budget) (bs : List Bound) (p : Pod) : Bool := l.any fun g => hasB p.2.2.1 g.2.1 && decide (spareB g bs ≤ 0)
def mayB (l : List Budget) (bs : List Bound) (name : ByteArray) : Int := match plB bs name with
  | none => 16
  | some i => match bs[i]? with
    | none => 16
    | some b => if b.2 = nameless then 22 else if barB l bs b.1 then 20 else 0
theorem plB_some {bs : List Bound} {name : ByteArray} {i : Nat} (h : plB bs name = some i) : ∃ hi : i < bs.length, bs[i].1.1 = name := by
  unfold plB at h
  obtain ⟨hi, h1, _⟩ := List.findIdx?_eq_some_iff_getElem.1 h
  exact ⟨hi, of_decide_eq_true h1⟩
theorem budget_May_is (N : Nat) (hN : Big N) {l : List Budget} {bs : List Bound} (hb : GoodB bs) (hg : GoodG l) (name : ByteArray) : G_budget_May N (l, bs, name, ()) = some (mayB l bs name, ()) := by
  have hN' := hN
  unfold Big at hN'
  unfold G_budget_May S_budget_May mayB
  simp only [yard_Place_is N hN hb.len, Option.bind_some]
  cases hp : plB bs name with
  | none => rfl
  | some i =>
    obtain ⟨hi, _⟩ := plB_some hp
    have hll := hg.len
    obtain ⟨k1, k2⟩ := hb.lab _ (List.getElem_mem hi)
    have d0 : decide ((0 : Int) ≤ (i : Int)) = true := decide_eq_true (by omega)
    have d1 : decide ((i : Int) < 0) = false := decide_eq_false (by omega)
    obtain ⟨o, e, ho⟩ := Tot.allL (f := g_budget_May_7 N) (l := l) (q := fun g => !(hasB bs[i].1.2.2.1 g.2.1 && decide (spareB g bs ≤ 0))) (Inv := fun k x => x = ((bs, (i : Int), l, (l.length : Int), (k : Int), ()), ())) (Y := fun o => ∃ y, o = .inl y) (No := fun o => ∃ y, o = .inr ((20, ()), y))
      (fun m a ha => by
        subst ha
        rw [g_budget_May_7_succ]
        unfold s_budget_May_7
        exact Tot.brD (fun h => absurd h (by dsimp only; omega)) fun _ => Tot.some ⟨_, rfl⟩)
      (fun m k a Q hk ha rec no => by
        subst ha
        rw [g_budget_May_7_succ]
        unfold s_budget_May_7
        have d2 : decide ((0 : Int) ≤ (k : Int)) = true := decide_eq_true (by omega)
        have d3 : decide ((k : Int) < ((l.length : Nat) : Int)) = true := decide_eq_true (by omega)
        obtain ⟨n1, n2, n3⟩ := hg.num _ (List.getElem_mem hk)
        simp only [d0, d2, d3, br_true, Int.toNat_natCast, at_lt hk, at_lt hi, Option.bind_some, eta2, budget_counts_is N hN k1 k2 n3, budget_Spare_is N hN hb n3 n1 n2, wi (i := k) (by omega)]
        cases c1 : hasB bs[i].1.2.2.1 l[k].2.1
        · exact rec (by rw [c1]; rfl) _ rfl
        · refine Tot.brD (fun c => Tot.some (no ?_ _ ⟨_, rfl⟩)) fun c => rec ?_ _ rfl
          · rw [c1, decide_eq_true c]; rfl
          · rw [c1, decide_eq_false c]; rfl)
      N ((bs, (i : Int), l, (l.length : Int), 0, ()), ()) (by omega) rfl
    have ea : barB l bs bs[i].1 = !(l.all fun g => !(hasB bs[i].1.2.2.1 g.2.1 && decide (spareB g bs ≤ 0))) := by
      unfold barB
      rw [List.not_all_eq_any_not]
      simp only [Bool.not_not]
    simp only [plI, d0, d1, br_false, br_true, Int.toNat_natCast, at_lt hi, Option.bind_some, e]
    by_cases c : bs[i].2 = nameless
    · have c' : decide (bs[i].2 = (ByteArray.mk (List.toArray []))) = true := decide_eq_true c
      rw [c', if_pos c]; rfl
    · have c' : decide (bs[i].2 = (ByteArray.mk (List.toArray []))) = false := decide_eq_false c
      rw [c', if_neg c, ea]
      rcases ho with ⟨h, y, rfl⟩ | ⟨h, y, rfl⟩ <;> rw [h] <;> rfl
def offB (bs : List Bound) (name : ByteArray) : List Bound := match plB bs name with
  | none => bs
  | some i => match bs[i]? with
    | none => bs
    | some b => bs.set i (b.1, nameless)
theorem mayB_some {l : List Budget} {bs : List Bound} {name : ByteArray} (h : mayB l bs name = 0) : ∃ i, ∃ hi : i < bs.length, plB bs name = some i ∧ bs[i].2 ≠ nameless ∧ barB l bs bs[i].1 = false := by
  unfold mayB at h
  cases hp : plB bs name with
  | none => rw [hp] at h; exact absurd h (by show ¬ ((16 : Int) = 0); decide)
  | some i =>
    obtain ⟨hi, _⟩ := plB_some hp
    rw [hp] at h
    simp only [at_lt hi] at h
    by_cases c : bs[i].2 = nameless
    · rw [if_pos c] at h; exact absurd h (by decide)
    · rw [if_neg c] at h
      cases c2 : barB l bs bs[i].1
      · exact ⟨i, hi, rfl, c, c2⟩
      · rw [c2] at h; exact absurd h (by decide)
theorem budget_Evict_is (N : Nat) (hN : Big N) {l : List Budget} {bs : List Bound} (hb : GoodB bs) (hg : GoodG l) (name : ByteArray) : G_budget_Evict N (l, bs, name, ()) = some (if mayB l bs name = 0 then offB bs name else [], mayB l bs name, ()) := by
  unfold G_budget_Evict S_budget_Evict
  simp only [budget_May_is N hN hb hg, Option.bind_some]
  by_cases c : mayB l bs name = 0
  · obtain ⟨i, hi, hp, _, _⟩ := mayB_some c
    have d0 : decide ((0 : Int) ≤ (i : Int)) = true := decide_eq_true (by omega)
    have d1 : decide ((i : Int) < ((bs.length : Nat) : Int)) = true := decide_eq_true (by omega)
    have hble : Nat.ble bs.length maxElems = true := Nat.ble_eq_true_of_le (Nat.le_trans hb.len (by decide))
    simp only [c, decide_true, Bool.not_true, br_false, hble, br_true, yard_Place_is N hN hb.len, hp, plI, d0, d1, Bool.and_self, Option.bind_some, Int.toNat_natCast, at_lt hi, if_true, offB]
  · simp only [decide_eq_false c, Bool.not_false, br_true, if_neg c]
theorem offB_good {bs : List Bound} (h : GoodB bs) (name : ByteArray) : GoodB (offB bs name) := by
  unfold offB
  cases hp : plB bs name with
  | none => exact h
  | some i =>
    obtain ⟨hi, _⟩ := plB_some hp
    simp only [at_lt hi]
    refine ⟨by rw [List.length_set]; exact h.len, fun b hb => ?_⟩
    rcases List.mem_or_eq_of_mem_set hb with hb | e
    · exact h.lab b hb
    · subst e; have := h.lab _ (List.getElem_mem hi); exact this
/-- Pods go, one by one, as long as they may. -/
def goB (l : List Budget) : List Pod → List Bound → ByteArray × Int
  | [], _ => (nameless, 0)
  | p :: ps, bs => if mayB l bs p.1 = 0 then goB l ps (offB bs p.1) else (p.1, mayB l bs p.1)
def whyB (bs : List Bound) (l : List Budget) (on : ByteArray) : ByteArray × Int := match (movB bs on).find? keepsB with
  | some p => (p.1, 22)
  | none => goB l (movB bs on) bs
theorem movB_len (bs : List Bound) (on : ByteArray) : (movB bs on).length ≤ bs.length := Nat.le_trans (List.length_filter_le _ _) (onB_len bs on)
theorem block_Why_is (N : Nat) (hN : Big N) {l : List Budget} {bs : List Bound} (hb : GoodB bs) (hg : GoodG l) (on : ByteArray) : G_block_Why N (bs, l, on, ()) = some ((whyB bs l on).1, (whyB bs l on).2, ()) := by
  have hN' := hN
  unfold Big at hN'
  have hl := hb.len
  have hml := Nat.le_trans (movB_len bs on) hl
  unfold G_block_Why S_block_Why whyB
  simp only [block_Movable_is N hN hl, Option.bind_some]
  generalize movB bs on = ps at hml
  obtain ⟨o, e, ho⟩ := Tot.findI (f := g_block_Why_3 N) (l := ps) (q := keepsB) (Inv := fun i x => x = ((bs, l, ps, ps, (ps.length : Int), (i : Int), ()), ())) (Y := fun o => ∃ y, o = .inl ((bs, l, ps, ()), y)) (No := fun i p o => ∃ y, o = .inr ((p.1, 22, ()), y))
    (fun m a ha => by
      subst ha
      rw [g_block_Why_3_succ]
      unfold s_block_Why_3
      exact Tot.brD (fun h => absurd h (by dsimp only; omega)) fun _ => Tot.some ⟨_, rfl⟩)
    (fun m i a Q hi ha rec no => by
      subst ha
      rw [g_block_Why_3_succ]
      unfold s_block_Why_3
      have d0 : decide ((0 : Int) ≤ (i : Int)) = true := decide_eq_true (by omega)
      have d1 : decide ((i : Int) < ((ps.length : Nat) : Int)) = true := decide_eq_true (by omega)
      simp only [d0, d1, br_true, Int.toNat_natCast, at_lt hi, Option.bind_some, eta2, block_blocks_is N hN, wi (i := i) (by omega)]
      exact Tot.br (fun c => Tot.some (no c _ ⟨_, rfl⟩)) fun c => rec c _ rfl)
    N ((bs, l, ps, ps, (ps.length : Int), 0, ()), ()) (by omega) rfl
  simp only [e, Option.bind_some]
  rcases ho with ⟨h, y, rfl⟩ | ⟨i, hi, h1, h2, y, rfl⟩
  · rw [find_none h]
    simp only [Sum.elim_inl]
    have loop : ∀ m (i : Nat) x, i ≤ ps.length → (∃ bs', x = ((l, bs', ps, (ps.length : Int), (i : Int), ()), ()) ∧ GoodB bs' ∧ goB l ps bs = goB l (ps.drop i) bs') → ps.length - i < m → Tot (g_block_Why_10 N m x) fun o => (goB l ps bs = (nameless, 0) ∧ ∃ y, o = .inl y) ∨ ∃ nm c y, goB l ps bs = (nm, c) ∧ o = .inr ((nm, c, ()), y) := by
      refine Tot.range ps.length fun m i x ha hi rec => ?_
      obtain ⟨bs', rfl, hb', hgo⟩ := ha
      rw [g_block_Why_10_succ]
      unfold s_block_Why_10
      by_cases hlt : i < ps.length
      · have d0 : decide ((0 : Int) ≤ (i : Int)) = true := decide_eq_true (by omega)
        have d1 : decide ((i : Int) < ((ps.length : Nat) : Int)) = true := decide_eq_true (by omega)
        rw [List.drop_eq_getElem_cons hlt] at hgo
        simp only [d0, d1, br_true, Int.toNat_natCast, at_lt hlt, Option.bind_some, budget_Evict_is N hN hb' hg, wi (i := i) (by omega)]
        by_cases c : mayB l bs' ps[i].1 = 0
        · simp only [decide_eq_true c, Bool.not_true, br_false, if_pos c]
          exact rec (i + 1) _ (by omega) (by omega) ⟨_, rfl, offB_good hb' _, by rw [hgo, goB, if_pos c]⟩
        · simp only [decide_eq_false c, Bool.not_false, br_true]
          exact Tot.some (.inr ⟨_, _, _, by rw [hgo, goB, if_neg c], rfl⟩)
      · have d1 : decide ((i : Int) < ((ps.length : Nat) : Int)) = false := decide_eq_false (by omega)
        simp only [d1, br_false]
        exact Tot.some (.inl ⟨by rw [hgo, List.drop_eq_nil_of_le (by omega)]; rfl, _, rfl⟩)
    obtain ⟨o, e, ho⟩ := loop N 0 _ (by omega) ⟨bs, rfl, hb, rfl⟩ (by omega)
    have e : g_block_Why_10 N N ((l, bs, ps, (ps.length : Int), 0, ()), ()) = _ := e
    simp only [e, Option.bind_some]
    rcases ho with ⟨hg, y, rfl⟩ | ⟨nm, c, y, hg, rfl⟩ <;> rw [hg] <;> rfl
  · rw [find_at hi h1 h2]
    rfl
end Go.Proofs.Ytncfllndmjjljaa.Bt
