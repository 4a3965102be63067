/- BlockFree: what the law computes is true. -/
import Derived.Test.YtncfllndmjjljaaBlkCBf
import Derived.Test.YtncfllndmjjljaaYrdQBf
namespace Go.Proofs.Ytncfllndmjjljaa.Bf
open Go Go.VI
set_option linter.unusedVariables false
set_option linter.unusedSimpArgs false
set_option maxRecDepth 100000

theorem plB_map {bs bs' : List Bound} (h : bs'.map (·.1) = bs.map (·.1)) (n : ByteArray) : plB bs' n = plB bs n := by
  have e : ∀ l : List Bound, plB l n = (l.map (·.1)).findIdx? fun p => decide (p.1 = n) := fun l => by
    unfold plB
    rw [List.findIdx?_map]
    rfl
  rw [e, e, h]
theorem off_map (bs : List Bound) (n : ByteArray) : (offB bs n).map (·.1) = bs.map (·.1) := by
  unfold offB
  cases hp : plB bs n with
  | none => rfl
  | some i =>
    obtain ⟨hi, _⟩ := plB_some hp
    simp only [at_lt hi]
    rw [List.map_set]
    apply List.ext_getElem?
    intro k
    rw [List.getElem?_set]
    by_cases e : i = k
    · subst e
      rw [if_pos rfl, List.length_map, if_pos hi, List.getElem?_map, at_lt hi]
      rfl
    · rw [if_neg e]
/-- What stands at a place when a pod is gone. -/
theorem off_at (bs : List Bound) (n : ByteArray) (k : Nat) (hk : k < bs.length) : ∃ b, (offB bs n)[k]? = some b ∧ b.1 = bs[k].1 ∧ (b.2 = bs[k].2 ∨ b.2 = nameless) ∧ ((bs[k].2 = nameless ∨ plB bs n = some k) → b.2 = nameless) := by
  unfold offB
  cases hp : plB bs n with
  | none => exact ⟨_, at_lt hk, rfl, .inl rfl, fun h => by rcases h with h | h; exact h; cases h⟩
  | some i =>
    obtain ⟨hi, _⟩ := plB_some hp
    simp only [at_lt hi]
    rw [List.getElem?_set]
    by_cases e : i = k
    · subst e
      rw [if_pos rfl, if_pos hi]
      exact ⟨_, rfl, rfl, .inr rfl, fun _ => rfl⟩
    · rw [if_neg e]
      exact ⟨_, at_lt hk, rfl, .inl rfl, fun h => by rcases h with h | h; exact h; cases h; exact absurd rfl e⟩
def endB : List Pod → List Bound → List Bound
  | [], bs => bs
  | p :: ps, bs => endB ps (offB bs p.1)
theorem off_len (bs : List Bound) (n : ByteArray) : (offB bs n).length = bs.length := by
  have := congrArg List.length (off_map bs n)
  rw [List.length_map, List.length_map] at this
  exact this
theorem end_at : ∀ (ps : List Pod) (bs : List Bound) (k : Nat) (hk : k < bs.length), ∃ b, (endB ps bs)[k]? = some b ∧ b.1 = bs[k].1 ∧ (b.2 = bs[k].2 ∨ b.2 = nameless) ∧ ((bs[k].2 = nameless ∨ ∃ p ∈ ps, plB bs p.1 = some k) → b.2 = nameless)
  | [], bs, k, hk => ⟨_, at_lt hk, rfl, .inl rfl, fun h => by rcases h with h | ⟨p, h, _⟩; exact h; cases h⟩
  | p :: ps, bs, k, hk => by
    obtain ⟨c, c1, c2, c3, c4⟩ := off_at bs p.1 k hk
    have hk' : k < (offB bs p.1).length := by rw [off_len]; exact hk
    obtain ⟨b, b1, b2, b3, b4⟩ := end_at ps (offB bs p.1) k hk'
    have e : (offB bs p.1)[k] = c := by rw [at_lt hk'] at c1; exact Option.some.inj c1
    rw [e] at b2 b3 b4
    refine ⟨b, b1, b2.trans c2, ?_, fun h => ?_⟩
    · rcases b3 with b3 | b3
      · rcases c3 with c3 | c3
        · exact .inl (b3.trans c3)
        · exact .inr (b3.trans c3)
      · exact .inr b3
    · rcases h with h | ⟨p', hp', h⟩
      · exact b4 (.inl (c4 (.inl h)))
      · rcases List.mem_cons.1 hp' with rfl | hp'
        · exact b4 (.inl (c4 (.inr h)))
        · exact b4 (.inr ⟨p', hp', by rw [plB_map (off_map bs p.1)]; exact h⟩)
theorem end_len : ∀ (ps : List Pod) (bs : List Bound), (endB ps bs).length = bs.length
  | [], _ => rfl
  | p :: ps, bs => by rw [endB, end_len ps, off_len]
/-- Nothing that may move is left. -/
theorem end_free {bs : List Bound} {on : ByteArray} (hon : on ≠ nameless) (hu : ∀ (i : Nat) (h : i < bs.length), plB bs bs[i].1.1 = some i) : movB (endB (movB bs on) bs) on = [] := by
  rw [List.eq_nil_iff_forall_not_mem]
  intro p hp
  unfold movB onB at hp
  obtain ⟨h1, h2⟩ := List.mem_filter.1 hp
  obtain ⟨b, hb, rfl⟩ := List.mem_map.1 h1
  obtain ⟨hb1, hb2⟩ := List.mem_filter.1 hb
  have hb2 : b.2 = on := by simpa using hb2
  obtain ⟨k, hk, hk'⟩ := List.mem_iff_getElem.1 hb1
  rw [end_len] at hk
  obtain ⟨c, c1, c2, c3, c4⟩ := end_at (movB bs on) bs k hk
  have e : c = b := by
    rw [List.getElem?_eq_getElem (by rw [end_len]; exact hk)] at c1
    exact (Option.some.inj c1).symm.trans hk'
  subst e
  have h0 : bs[k].2 = on := by
    rcases c3 with c3 | c3
    · exact c3.symm.trans hb2
    · exact absurd (hb2.symm.trans c3) hon
  have hm : bs[k].1 ∈ movB bs on := by
    unfold movB onB
    refine List.mem_filter.2 ⟨List.mem_map.2 ⟨bs[k], List.mem_filter.2 ⟨List.getElem_mem hk, decide_eq_true h0⟩, rfl⟩, ?_⟩
    rw [← c2]; exact h2
  exact hon (hb2.symm.trans (c4 (.inr ⟨_, hm, hu k hk⟩)))
theorem spare_off {l : List Budget} {bs : List Bound} {n : ByteArray} (h : mayB l bs n = 0) {g : Budget} (hg : g ∈ l) (h0 : 0 ≤ spareB g bs) : 0 ≤ spareB g (offB bs n) := by
  obtain ⟨i, hi, hp, hn, hb⟩ := mayB_some h
  have e : offB bs n = bs.set i (bs[i].1, nameless) := by
    unfold offB
    simp only [hp, at_lt hi]
  have hq : cntB g (bs[i].1, nameless) = false := rfl
  have hc : ((bs.set i (bs[i].1, nameless)).filter (cntB g)).length = (bs.filter (cntB g)).length - if cntB g bs[i] then 1 else 0 := by
    rw [← List.countP_eq_length_filter, ← List.countP_eq_length_filter, List.countP_set hi, hq]
    simp only [Bool.false_eq_true, if_false, Nat.add_zero]
  unfold spareB at h0 ⊢
  rw [e, hc]
  cases c : cntB g bs[i]
  · simp only [Bool.false_eq_true, if_false, Nat.sub_zero]; exact h0
  · have hh : hasB bs[i].1.2.2.1 g.2.1 = true := by
      unfold cntB at c
      exact (Bool.and_eq_true_iff.1 c).2
    unfold barB at hb
    rw [List.any_eq_false] at hb
    have := hb g hg
    rw [hh, Bool.true_and] at this
    have this : ¬ spareB g bs ≤ 0 := by simpa using this
    unfold spareB at this
    simp only [if_true]
    omega
theorem spare_end {l : List Budget} {g : Budget} (hg : g ∈ l) : ∀ (ps : List Pod) (bs : List Bound), (goB l ps bs).2 = 0 → 0 ≤ spareB g bs → 0 ≤ spareB g (endB ps bs)
  | [], _, _, h => h
  | p :: ps, bs, h1, h => by
    unfold goB at h1
    by_cases c : mayB l bs p.1 = 0
    · rw [if_pos c] at h1
      exact spare_end hg ps _ h1 (spare_off c hg h)
    · rw [if_neg c] at h1
      exact absurd h1 c
theorem end_good : ∀ (ps : List Pod) {bs : List Bound}, GoodB bs → GoodB (endB ps bs)
  | [], _, h => h
  | p :: ps, _, h => end_good ps (offB_good h p.1)
section
variable (N : Nat) (hN : Big N) {ms : List Mach} {bs : List Bound} {l : List Budget} (hb : GoodB bs) (hg : GoodG l) (i : Nat)
include hN hb hg
theorem loop13 {mv : List Pod} (hm : mv.length ≤ 1000000) (hk : ∀ p ∈ mv, keepsB p = false ∧ staysB p = false) (h : (goB l mv bs).2 = 0) :
    ∃ y, g_law25_BlockFree_13 N N ((ms, bs, l, (i : Int), mv, bs, 0, ()), ()) = some (.inl ((ms, bs, l, (i : Int), endB mv bs, ()), y)) := by
  have hN' := hN
  unfold Big at hN'
  have loop : ∀ m (j : Nat) x, j ≤ mv.length → (∃ cur, x = ((ms, bs, l, (i : Int), mv, cur, (j : Int), ()), ()) ∧ GoodB cur ∧ (goB l (mv.drop j) cur).2 = 0 ∧ endB mv bs = endB (mv.drop j) cur) → mv.length - j < m →
      Tot (g_law25_BlockFree_13 N m x) fun o => ∃ y, o = .inl ((ms, bs, l, (i : Int), endB mv bs, ()), y) := by
    refine Tot.range mv.length fun m j x hx hj rec => ?_
    obtain ⟨cur, rfl, hc, hgo, hend⟩ := hx
    rw [g_law25_BlockFree_13_succ]
    unfold s_law25_BlockFree_13
    by_cases hlt : j < mv.length
    · have d0 : decide ((0 : Int) ≤ (j : Int)) = true := decide_eq_true (by omega)
      have d1 : decide ((j : Int) < ((mv.length : Nat) : Int)) = true := decide_eq_true (by omega)
      obtain ⟨k1, k2⟩ := hk _ (List.getElem_mem hlt)
      rw [List.drop_eq_getElem_cons hlt] at hgo hend
      unfold goB at hgo
      have c : mayB l cur mv[j].1 = 0 := by
        by_cases c : mayB l cur mv[j].1 = 0
        · exact c
        · rw [if_neg c] at hgo; exact absurd hgo c
      rw [if_pos c] at hgo
      unfold keepsB at k1
      simp only [List.any_cons, List.any_nil, id, Bool.or_false, Bool.or_eq_false_iff] at k1
      obtain ⟨q1, q2, q3⟩ := k1
      have q3 : decide (mv[j].2.2.2.2.2.2.2.2.2.2.2.2.1 = (ByteArray.mk (List.toArray []))) = false := q3
      have k2 : mv[j].2.2.2.2.2.2.2.2.2.2.2.2.2.1 = false := k2
      simp only [d0, d1, br_true, Int.toNat_natCast, at_lt hlt, Option.bind_some, ref15_Evict_is N hN hc hg, c, if_true, decide_true, Bool.not_true, br_false, q1, q2, q3, k2, wi (i := j) (by omega)]
      exact rec (j + 1) _ (by omega) (by omega) ⟨_, rfl, offB_good hc _, hgo, hend⟩
    · have d1 : decide ((j : Int) < ((mv.length : Nat) : Int)) = false := decide_eq_false (by omega)
      simp only [d1, br_false]
      rw [List.drop_eq_nil_of_le (by omega)] at hend
      exact Tot.some ⟨_, by rw [hend]; rfl⟩
  obtain ⟨o, e, y, rfl⟩ := loop N 0 _ (by omega) ⟨bs, rfl, hb, h, rfl⟩ (by omega)
  exact ⟨y, e⟩
theorem loop22 {cur : List Bound} (hc : GoodB cur) (h : ∀ g ∈ l, 0 ≤ spareB g bs → 0 ≤ spareB g cur) :
    ∃ y, g_law25_BlockFree_22 N N ((ms, bs, l, (i : Int), cur, 0, ()), ()) = some (.inl ((ms, bs, l, (i : Int), ()), y)) := by
  have hN' := hN
  unfold Big at hN'
  have hl := hg.len
  have loop : ∀ m (j : Nat) x, j ≤ l.length → x = ((ms, bs, l, (i : Int), cur, (j : Int), ()), ()) → l.length - j < m → Tot (g_law25_BlockFree_22 N m x) fun o => ∃ y, o = .inl ((ms, bs, l, (i : Int), ()), y) := by
    refine Tot.range l.length fun m j x hx hj rec => ?_
    subst hx
    rw [g_law25_BlockFree_22_succ]
    unfold s_law25_BlockFree_22
    by_cases hlt : j < l.length
    · have d0 : decide ((0 : Int) ≤ (j : Int)) = true := decide_eq_true (by omega)
      have d1 : decide ((j : Int) < ((l.length : Nat) : Int)) = true := decide_eq_true (by omega)
      obtain ⟨n1, n2, n3⟩ := hg.num _ (List.getElem_mem hlt)
      simp only [d0, d1, br_true, Int.toNat_natCast, at_lt hlt, Option.bind_some, eta2, ref15_Spare_is N hN hb n3 n1 n2, ref15_Spare_is N hN hc n3 n1 n2, wi (i := j) (by omega)]
      refine Tot.brD (fun c => ?_) fun _ => rec (j + 1) _ (by omega) (by omega) rfl
      have := h _ (List.getElem_mem hlt) c
      rw [decide_eq_false (show ¬ spareB l[j] cur < 0 by omega)]
      exact rec (j + 1) _ (by omega) (by omega) rfl
    · have d1 : decide ((j : Int) < ((l.length : Nat) : Int)) = false := decide_eq_false (by omega)
      simp only [d1, br_false]
      exact Tot.some ⟨_, rfl⟩
  obtain ⟨o, e, y, rfl⟩ := loop N 0 _ (by omega) rfl (by omega)
  exact ⟨y, e⟩
end
theorem why_ok {bs : List Bound} {l : List Budget} {on : ByteArray} (h : (whyB bs l on).2 = 0) : (∀ p ∈ movB bs on, keepsB p = false ∧ staysB p = false) ∧ (goB l (movB bs on) bs).2 = 0 := by
  unfold whyB at h
  cases hf : (movB bs on).find? keepsB with
  | some p => rw [hf] at h; exact absurd h (by show ¬ ((22 : Int) = 0); decide)
  | none =>
    rw [hf] at h
    refine ⟨fun p hp => ⟨by have := List.find?_eq_none.1 hf p hp; simpa using this, ?_⟩, h⟩
    unfold movB at hp
    have := (List.mem_filter.1 hp).2
    simpa using this
theorem why_none {bs : List Bound} {l : List Budget} {on : ByteArray} (h : movB bs on = []) : (whyB bs l on).2 = 0 := by
  unfold whyB
  rw [h]
  rfl
theorem pureBlockFree (x : List Mach × List Bound × List Budget × Unit) (hw : Ty.wf (.slice tyMach0) x.1 ∧ Ty.wf (.slice tyBound) x.2.1 ∧ Ty.wf (.slice tyBudget) x.2.2.1 ∧ True) : ∃ N, G_law25_BlockFree N x = some (true, ()) := by
  obtain ⟨ms, bs, l, ⟨⟩⟩ := x
  have hy : okY ms bs := okY_of hw.1 hw.2.1
  have hl := okBgs_of hw.2.2.1
  clear hw
  refine ⟨281474976710656 + 300, ?_⟩
  have hk := known_is 281474976710656
  have hN := big
  generalize 281474976710656 + 300 = N at *
  have hN' := hN
  unfold Big at hN'
  obtain ⟨⟨b1, ⟨⟩⟩, e1, k1⟩ := law25_right_tot N hN hy hl
  unfold G_law25_BlockFree S_law25_BlockFree
  simp only [e1, hk, Option.bind_some]
  cases b1
  · rfl
  obtain ⟨⟨hml, hbl⟩, hfy, hfb⟩ := k1 rfl
  have hb := goodB_of hy hbl hfy
  have hg := goodG_of hl.2 hfb
  have loop : ∀ m (i : Nat) x, i ≤ ms.length → x = ((ms, bs, l, (i : Int), ()), ()) → ms.length - i < m → Tot (g_law25_BlockFree_4 N m x) fun o => ∃ y, o = .inl y := by
    refine Tot.range ms.length fun m i x hx hi rec => ?_
    subst hx
    rw [g_law25_BlockFree_4_succ]
    unfold s_law25_BlockFree_4
    by_cases hlt : i < ms.length
    · have d0 : decide ((0 : Int) ≤ (i : Int)) = true := decide_eq_true (by omega)
      have d1 : decide ((i : Int) < ((ms.length : Nat) : Int)) = true := decide_eq_true (by omega)
      have hon := (hfy.mn _ (List.getElem_mem hlt)).1
      have hgo := rec (i + 1) ((ms, bs, l, ((i + 1 : Nat) : Int), ()), ()) (by omega) (by omega) rfl
      simp only [d0, d1, br_true, Int.toNat_natCast, at_lt hlt, Option.bind_some, block_Why_is N hN hb hg, block_Movable_is N hN hb.len, wi (i := i) (by omega)]
      have hz : ((movB bs ms[i].1).length : Int) = 0 → (whyB bs l ms[i].1).2 = 0 := fun h => why_none (List.length_eq_zero_iff.1 (by omega))
      by_cases c : (whyB bs l ms[i].1).2 = 0
      · obtain ⟨w1, w2⟩ := why_ok c
        have hm := Nat.le_trans (movB_len bs ms[i].1) hb.len
        obtain ⟨y, e⟩ := loop13 N hN (ms := ms) hb hg i hm w1 w2
        have hend := end_good (movB bs ms[i].1) hb
        obtain ⟨z, e2⟩ := loop22 N hN (ms := ms) hb hg i hend fun g hg' h0 => spare_end hg' _ _ w2 h0
        have ef := end_free hon hfy.bu
        simp only [decide_eq_true c, Bool.not_true, br_false, e, Option.bind_some, Sum.elim_inl, d0, br_true, Int.toNat_natCast, at_lt hlt, block_Movable_is N hN hend.len, ef, List.length_nil, e2, wi (i := i) (show i < 4611686018427387904 by omega)]
        exact Tot.br (fun _ => hgo) fun _ => hgo
      · have c0 : decide (((movB bs ms[i].1).length : Int) = 0) = false := decide_eq_false fun h => c (hz h)
        simp only [decide_eq_false c, c0, Bool.not_false, br_true, br_false]
        exact hgo
    · have d1 : decide ((i : Int) < ((ms.length : Nat) : Int)) = false := decide_eq_false (by omega)
      simp only [d1, br_false]
      exact Tot.some ⟨_, rfl⟩
  obtain ⟨o, e, y, rfl⟩ := loop N 0 _ (by omega) rfl (by omega)
  have e : g_law25_BlockFree_4 N N ((ms, bs, l, 0, ()), ()) = _ := e
  simp only [Bool.not_true, br_false, e, Option.bind_some, Sum.elim_inl]
end Go.Proofs.Ytncfllndmjjljaa.Bf
