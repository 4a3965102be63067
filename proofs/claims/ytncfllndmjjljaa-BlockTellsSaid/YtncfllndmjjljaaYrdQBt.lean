/- Budgets: the document. -/
import Derived.Test.YtncfllndmjjljaaYrdPBt
import Derived.Test.YtncfllndmjjljaaLhaFBt
namespace Go.Proofs.Ytncfllndmjjljaa.Bt
open Go Go.VI
set_option linter.unusedVariables false
set_option linter.unusedSimpArgs false
set_option maxRecDepth 100000

theorem ref15_Spare_is (N : Nat) (hN : Big N) {g : Budget} {bs : List Bound} (hb : GoodB bs) (h3 : okL g.2.1) (h0 : 0 ≤ g.2.2) (h4 : g.2.2 ≤ 400) : G_ref15_Spare N (g, bs, ()) = some (spareB g bs, ()) := by
  have hN' := hN
  unfold Big at hN'
  have hl := hb.len
  have hf : ∀ i, ((bs.take i).filter (cntB g)).length ≤ 1000000 := fun i => Nat.le_trans (List.length_filter_le _ _) (by rw [List.length_take]; omega)
  have loop : ∀ m (i : Nat) x, i ≤ bs.length → x = ((bs, (((bs.take i).filter (cntB g)).length : Int), (i : Int), ()), (g, ()), ()) → bs.length - i < m → Tot (g_ref15_Spare_3 N m x) fun o => ∃ y, o = .inl (((((bs.filter (cntB g)).length : Nat) : Int), ()), (g, ()), y) := by
    refine Tot.range bs.length fun m i x ha hi rec => ?_
    subst ha
    rw [g_ref15_Spare_3_succ]
    unfold s_ref15_Spare_3
    by_cases hlt : i < bs.length
    · have d0 : decide ((0 : Int) ≤ (i : Int)) = true := decide_eq_true (by omega)
      have d1 : decide ((i : Int) < ((bs.length : Nat) : Int)) = true := decide_eq_true (by omega)
      obtain ⟨k1, k2⟩ := hb.lab _ (List.getElem_mem hlt)
      have hc := hf i
      have hw : IntKind.i64.wrap ((((bs.take i).filter (cntB g)).length : Int) + 1) = (((bs.take i).filter (cntB g)).length : Int) + 1 := w64 (by omega) (by omega)
      simp only [d0, d1, br_true, Int.toNat_natCast, at_lt hlt, Option.bind_some, eta2, ref05_Has_is N hN k1 h3, hw, wi (i := i) (by omega)]
      have no : cntB g bs[i] = false → (bs, (((bs.take i).filter (cntB g)).length : Int), ((i + 1 : Nat) : Int), ()) = (bs, (((bs.take (i + 1)).filter (cntB g)).length : Int), ((i + 1 : Nat) : Int), ()) := fun c => by
        rw [take_filt hlt, c]; simp only [Bool.false_eq_true, if_false, List.append_nil]
      cases c1 : decide (bs[i].2 = (ByteArray.mk (List.toArray [])))
      · cases c2 : hasB bs[i].1.2.2.1 g.2.1
        · refine rec (i + 1) _ (by omega) (by omega) ?_
          rw [no (by unfold cntB nameless; rw [c1, c2]; rfl)]
        · refine rec (i + 1) _ (by omega) (by omega) ?_
          have c : cntB g bs[i] = true := by unfold cntB nameless; rw [c1, c2]; rfl
          rw [take_filt hlt, c]
          simp only [if_true, List.length_append, List.length_singleton]
          congr 3
      · refine rec (i + 1) _ (by omega) (by omega) ?_
        rw [no (by unfold cntB nameless; rw [c1]; rfl)]
    · have d1 : decide ((i : Int) < ((bs.length : Nat) : Int)) = false := decide_eq_false (by omega)
      simp only [d1, br_false]
      have e : i = bs.length := by omega
      subst e
      rw [List.take_length]
      exact Tot.some ⟨_, rfl⟩
  obtain ⟨o, e, y, ho⟩ := loop N 0 _ (by omega) rfl (by omega)
  have e : g_ref15_Spare_3 N N ((bs, 0, 0, ()), (g, ()), ()) = _ := e
  have hc := hf bs.length
  rw [List.take_length] at hc
  have hw : IntKind.i64.wrap (((bs.filter (cntB g)).length : Int) - g.2.2) = spareB g bs := by rw [w64 (by omega) (by omega)]; rfl
  unfold G_ref15_Spare S_ref15_Spare
  simp only [e, Option.bind_some, ho, Sum.elim_inl, hw]
theorem ref15_May_is (N : Nat) (hN : Big N) {l : List Budget} {bs : List Bound} (hb : GoodB bs) (hg : GoodG l) (name : ByteArray) : G_ref15_May N (l, bs, name, ()) = some (mayB l bs name, ()) := by
  have hN' := hN
  unfold Big at hN'
  have hl := hb.len
  unfold G_ref15_May S_ref15_May mayB
  simp only [ref09_Place_is N hN (Nat.le_trans hl (by decide)), Option.bind_some]
  cases hp : plB bs name with
  | none => rfl
  | some i =>
    obtain ⟨hi, _⟩ := plB_some hp
    have hll := hg.len
    obtain ⟨k1, k2⟩ := hb.lab _ (List.getElem_mem hi)
    have d0 : decide ((0 : Int) ≤ (i : Int)) = true := decide_eq_true (by omega)
    have d1 : decide ((i : Int) < 0) = false := decide_eq_false (by omega)
    obtain ⟨o, e, ho⟩ := Tot.allL (f := g_ref15_May_7 N) (l := l) (q := fun g => !(hasB bs[i].1.2.2.1 g.2.1 && decide (spareB g bs ≤ 0))) (Inv := fun k x => x = ((l, bs, (i : Int), (k : Int), ()), ())) (Y := fun o => ∃ y, o = .inl y) (No := fun o => ∃ y, o = .inr ((20, ()), y))
      (fun m a ha => by
        subst ha
        rw [g_ref15_May_7_succ]
        unfold s_ref15_May_7
        exact Tot.brD (fun h => absurd h (by dsimp only; omega)) fun _ => Tot.some ⟨_, rfl⟩)
      (fun m k a Q hk ha rec no => by
        subst ha
        rw [g_ref15_May_7_succ]
        unfold s_ref15_May_7
        have d2 : decide ((0 : Int) ≤ (k : Int)) = true := decide_eq_true (by omega)
        have d3 : decide ((k : Int) < ((l.length : Nat) : Int)) = true := decide_eq_true (by omega)
        obtain ⟨n1, n2, n3⟩ := hg.num _ (List.getElem_mem hk)
        simp only [d0, d2, d3, br_true, Int.toNat_natCast, at_lt hk, at_lt hi, Option.bind_some, eta2, ref05_Has_is N hN k1 n3, ref15_Spare_is N hN hb n3 n1 n2, wi (i := k) (by omega)]
        cases c1 : hasB bs[i].1.2.2.1 l[k].2.1
        · exact rec (by rw [c1]; rfl) _ rfl
        · refine Tot.brD (fun c => Tot.some (no ?_ _ ⟨_, rfl⟩)) fun c => rec ?_ _ rfl
          · rw [c1, decide_eq_true c]; rfl
          · rw [c1, decide_eq_false c]; rfl)
      N ((l, bs, (i : Int), 0, ()), ()) (by omega) rfl
    have ea : barB l bs bs[i].1 = !(l.all fun g => !(hasB bs[i].1.2.2.1 g.2.1 && decide (spareB g bs ≤ 0))) := by
      unfold barB
      rw [List.not_all_eq_any_not]
      simp only [Bool.not_not]
    simp only [plI, d0, d1, br_false, br_true, Int.toNat_natCast, at_lt hi, Option.bind_some, e]
    by_cases c : bs[i].2 = nameless
    · have c' : decide (bs[i].2 = (ByteArray.mk (List.toArray []))) = true := decide_eq_true c
      rw [c', if_pos c]; rfl
    · have c' : decide (bs[i].2 = (ByteArray.mk (List.toArray []))) = false := decide_eq_false c
      rw [c', if_neg c, ea]
      rcases ho with ⟨h, y, rfl⟩ | ⟨h, y, rfl⟩ <;> rw [h] <;> rfl
theorem ref15_Evict_is (N : Nat) (hN : Big N) {l : List Budget} {bs : List Bound} (hb : GoodB bs) (hg : GoodG l) (name : ByteArray) : G_ref15_Evict N (l, bs, name, ()) = some (if mayB l bs name = 0 then offB bs name else [], mayB l bs name, ()) := by
  have hl := hb.len
  unfold G_ref15_Evict S_ref15_Evict
  simp only [ref15_May_is N hN hb hg, Option.bind_some]
  by_cases c : mayB l bs name = 0
  · obtain ⟨i, hi, hp, _, _⟩ := mayB_some c
    have d0 : decide ((0 : Int) ≤ (i : Int)) = true := decide_eq_true (by omega)
    have d1 : decide ((i : Int) < ((bs.length : Nat) : Int)) = true := decide_eq_true (by omega)
    have hble : Nat.ble bs.length maxElems = true := Nat.ble_eq_true_of_le (Nat.le_trans hb.len (by decide))
    simp only [c, decide_true, Bool.not_true, br_false, hble, br_true, ref09_Place_is N hN (Nat.le_trans hl (by decide)), hp, plI, d0, d1, Bool.and_self, Option.bind_some, Int.toNat_natCast, at_lt hi, if_true, offB]
  · simp only [decide_eq_false c, Bool.not_false, br_true, if_neg c]
end Go.Proofs.Ytncfllndmjjljaa.Bt
