/- BlockIdle: what the law computes is true. -/
import Derived.Test.YtncfllndmjjljaaBlkIBi
namespace Go.Proofs.Ytncfllndmjjljaa.Bi
open Go Go.VI
set_option linter.unusedVariables false
set_option linter.unusedSimpArgs false
set_option maxRecDepth 100000

def idleQ (u : Mach → Int) (p : Int) (m : Mach) : Bool := !decide (m.2.1 = nameless) && (m.2.2.2.2.2 && decide (u m < p))
def idleB (u : Mach → Int) (ms : List Mach) (p : Int) : List ByteArray := (ms.filter (idleQ u p)).map (·.1)
theorem block_Idle_is (N : Nat) (hN : Big N) {bs : List Bound} {u : Mach → Int} (hu : ∀ m, 0 ≤ u m ∧ G_block_Use N (m, bs, ()) = some (u m, ())) {ms : List Mach} (hl : ms.length ≤ 1000000) (p : Int) : G_block_Idle N (ms, bs, p, ()) = some (idleB u ms p, ()) := by
  have hN' := hN
  unfold Big at hN'
  have loop : ∀ m (i : Nat) x, i ≤ ms.length → x = ((ms, (ms.length : Int), (i : Int), ()), (bs, ()), (p, ()), ((ms.take i).filter (idleQ u p)).map (·.1), ()) → ms.length - i < m → Tot (gx_block_Idle_0 N m x) fun o => ∃ y z, o = .inl ((), y, z, idleB u ms p, ()) := by
    refine Tot.range ms.length fun m i x ha hi rec => ?_
    subst ha
    rw [gx_block_Idle_0_succ]
    unfold sx_block_Idle_0
    by_cases hlt : i < ms.length
    · have d0 : decide ((0 : Int) ≤ (i : Int)) = true := decide_eq_true (by omega)
      have d1 : decide ((i : Int) < ((ms.length : Nat) : Int)) = true := decide_eq_true (by omega)
      have hb : Nat.ble ((((ms.take i).filter (idleQ u p)).map (·.1)).length + 1) maxElems = true := by rw [List.length_map]; exact ble_filt hl
      have yes : idleQ u p ms[i] = true → ((ms.take i).filter (idleQ u p)).map (·.1) ++ [ms[i].1] = ((ms.take (i + 1)).filter (idleQ u p)).map (·.1) := fun c => by
        rw [take_filt hlt, c, List.map_append]; rfl
      have no : idleQ u p ms[i] = false → ((ms.take i).filter (idleQ u p)).map (·.1) = ((ms.take (i + 1)).filter (idleQ u p)).map (·.1) := fun c => by
        rw [take_filt hlt, c, List.map_append]; simp only [Bool.false_eq_true, if_false, List.map_nil, List.append_nil]
      have go := rec (i + 1) _ (by omega) (by omega) rfl
      simp only [d0, d1, br_true, Int.toNat_natCast, at_lt hlt, Option.bind_some, hb, eta2, (hu _).2, wi (i := i) (by omega)]
      cases c1 : decide (ms[i].2.1 = (ByteArray.mk (List.toArray [])))
      · cases c2 : ms[i].2.2.2.2.2
        · rw [no (by unfold idleQ; rw [c2]; simp)]
          exact go
        · cases c3 : decide (u ms[i] < p)
          · rw [no (by unfold idleQ; rw [c3]; simp)]
            exact go
          · simp only [Bool.not_false, br_true, Option.bind_some]
            rw [yes (by unfold idleQ nameless; rw [c1, c2, c3]; rfl)]
            exact go
      · rw [no (by unfold idleQ nameless; rw [c1]; rfl)]
        exact go
    · have d1 : decide ((i : Int) < ((ms.length : Nat) : Int)) = false := decide_eq_false (by omega)
      simp only [d1, br_false]
      have e : i = ms.length := by omega
      subst e
      rw [List.take_length]
      exact Tot.some ⟨_, _, rfl⟩
  obtain ⟨o, e, y, z, rfl⟩ := loop N 0 _ (by omega) rfl (by omega)
  have e : gx_block_Idle_0 N N ((ms, (ms.length : Int), 0, ()), (bs, ()), (p, ()), [], ()) = _ := e
  unfold G_block_Idle S_block_Idle
  simp only [e, Option.bind_some, Sum.elim_inl]
theorem idle_less (u : Mach → Int) (ms : List Mach) {p q : Int} (h : p ≤ q) : (idleB u ms p).Sublist (idleB u ms q) := by
  unfold idleB
  refine List.Sublist.map _ ?_
  have e : ms.filter (idleQ u p) = (ms.filter (idleQ u q)).filter (idleQ u p) := by
    rw [List.filter_filter]
    refine List.filter_congr fun m _ => ?_
    unfold idleQ
    by_cases c : u m < p
    · rw [decide_eq_true c, decide_eq_true (show u m < q by omega)]; simp
    · rw [decide_eq_false c]; simp
  rw [e]
  exact List.filter_sublist
theorem loop9 (N : Nat) (hN : Big N) {ms : List Mach} {bs : List Bound} {most : Int} {a b : List ByteArray} {i : Nat} (hi : i < a.length) (hb : b.length ≤ 1000000) {k : Nat} (hk : k ≤ b.length) (hs : (a.drop i).Sublist (b.drop k)) :
    ∃ k' : Nat, k' < b.length ∧ (a.drop i).Sublist (b.drop k') ∧ ∃ y, g_law25_BlockIdle_9 N N ((ms, bs, most, a, b, (k : Int), (i : Int), ()), ()) = some (.inl ((ms, bs, most, a, b, (k' : Int), (i : Int), ()), y)) := by
  have hN' := hN
  unfold Big at hN'
  have loop : ∀ m (j : Nat) x, j ≤ b.length → (x = ((ms, bs, most, a, b, (j : Int), (i : Int), ()), ()) ∧ (a.drop i).Sublist (b.drop j)) → b.length - j < m →
      Tot (g_law25_BlockIdle_9 N m x) fun o => ∃ k' : Nat, k' < b.length ∧ (a.drop i).Sublist (b.drop k') ∧ ∃ y, o = .inl ((ms, bs, most, a, b, (k' : Int), (i : Int), ()), y) := by
    refine Tot.range b.length fun m j x hx hj rec => ?_
    obtain ⟨rfl, hs⟩ := hx
    rw [g_law25_BlockIdle_9_succ]
    unfold s_law25_BlockIdle_9
    have hs' := hs
    rw [List.drop_eq_getElem_cons hi] at hs'
    by_cases hlt : j < b.length
    · have d0 : decide ((0 : Int) ≤ (j : Int)) = true := decide_eq_true (by omega)
      have d1 : decide ((j : Int) < ((b.length : Nat) : Int)) = true := decide_eq_true (by omega)
      have d2 : decide ((0 : Int) ≤ (i : Int)) = true := decide_eq_true (by omega)
      simp only [d0, d1, d2, br_true, Int.toNat_natCast, at_lt hlt, at_lt hi, Option.bind_some, wi (i := j) (by omega)]
      cases c : decide (b[j] = a[i])
      · have c := of_decide_eq_false c
        refine rec (j + 1) _ (by omega) (by omega) ⟨rfl, ?_⟩
        rw [List.drop_eq_getElem_cons hlt] at hs'
        rw [List.drop_eq_getElem_cons hi]
        generalize b[j] = v at hs' c
        generalize a[i] = w at hs' c ⊢
        cases hs' with
        | cons _ h => exact h
        | cons_cons _ h => exact absurd rfl c
      · exact Tot.some ⟨j, hlt, hs, _, rfl⟩
    · rw [List.drop_eq_nil_of_le (show b.length ≤ j by omega)] at hs'
      exact absurd hs' (by intro h; cases h)
  obtain ⟨o, e, k', h1, h2, y, rfl⟩ := loop N k _ hk ⟨rfl, hs⟩ (by omega)
  exact ⟨k', h1, h2, y, e⟩
theorem pureBlockIdle (x : List Mach × List Bound × Int × Unit) (hw : Ty.wf (.slice tyMach0) x.1 ∧ Ty.wf (.slice tyBound) x.2.1 ∧ Ty.wf (.int .u16) x.2.2.1 ∧ True) : ∃ N, G_law25_BlockIdle N x = some (true, ()) := by
  obtain ⟨ms, bs, most, ⟨⟩⟩ := x
  have hy : okY ms bs := okY_of hw.1 hw.2.1
  have hmost : 0 ≤ most ∧ most ≤ 65535 := by
    have hn : (Lit.int .u16 most).wf = true := hw.2.2.1
    simp [Lit.wf, IntKind.min, IntKind.max, IntKind.signed, IntKind.bits] at hn
    omega
  clear hw
  refine ⟨281474976710656 + 300, ?_⟩
  have hk := known_is 281474976710656
  have hN := big
  generalize 281474976710656 + 300 = N at *
  have hN' := hN
  unfold Big at hN'
  obtain ⟨⟨b1, ⟨⟩⟩, e1, k1⟩ := law25_right_tot N hN hy (l := []) ⟨by decide, fun b h => by cases h⟩
  unfold G_law25_BlockIdle S_law25_BlockIdle
  simp only [e1, hk, Option.bind_some]
  cases b1
  · rfl
  obtain ⟨⟨hml, hbl⟩, hfy, _⟩ := k1 rfl
  obtain ⟨u, hu⟩ := use_fun N hN (bs := bs) (by omega)
  have w1 : IntKind.i64.wrap most = most := w64 (by omega) (by omega)
  have w2 : IntKind.i64.wrap (most + 1) = most + 1 := w64 (by omega) (by omega)
  have hid := fun p => block_Idle_is N hN hu (ms := ms) (by omega) p
  have hlen : ∀ p, (idleB u ms p).length ≤ 1000000 := fun p => by
    unfold idleB
    rw [List.length_map]
    exact Nat.le_trans (List.length_filter_le _ _) (by omega)
  simp only [Bool.not_true, br_false, w1, w2, hid, Option.bind_some]
  have h0 : idleB u ms 0 = [] := by
    unfold idleB
    rw [List.filter_eq_nil_iff.2 fun m _ => by
      unfold idleQ
      rw [decide_eq_false (show ¬ u m < 0 by have := (hu m).1; omega)]
      simp]
    rfl
  have loop : ∀ m (i : Nat) x, i ≤ (idleB u ms most).length → (∃ k : Nat, k ≤ (idleB u ms (most + 1)).length ∧ ((idleB u ms most).drop i).Sublist ((idleB u ms (most + 1)).drop k) ∧ x = ((ms, bs, most, idleB u ms most, idleB u ms (most + 1), (k : Int), (i : Int), ()), ())) → (idleB u ms most).length - i < m →
      Tot (g_law25_BlockIdle_7 N m x) fun o => ∃ y, o = .inl ((ms, bs, ()), y) := by
    refine Tot.range (idleB u ms most).length fun m i x hx hi rec => ?_
    obtain ⟨k, hk, hs, rfl⟩ := hx
    rw [g_law25_BlockIdle_7_succ]
    unfold s_law25_BlockIdle_7
    by_cases hlt : i < (idleB u ms most).length
    · have d1 : decide ((i : Int) < (((idleB u ms most).length : Nat) : Int)) = true := decide_eq_true (by omega)
      have d0 : decide ((0 : Int) ≤ (i : Int)) = true := decide_eq_true (by omega)
      obtain ⟨k', hk', hs', y, e⟩ := loop9 N hN (ms := ms) (bs := bs) (most := most) hlt (hlen _) hk hs
      have hli := hlen most
      have hm : (idleB u ms most)[i] ∈ idleB u ms most := List.getElem_mem hlt
      generalize hv : (idleB u ms most)[i] = v at hm
      unfold idleB at hm
      obtain ⟨mm, hmm, rfl⟩ := List.mem_map.1 hm
      obtain ⟨hm1, hm2⟩ := List.mem_filter.1 hmm
      obtain ⟨n, hn, rfl⟩ := List.mem_iff_getElem.1 hm1
      unfold idleQ at hm2
      simp only [Bool.and_eq_true, Bool.not_eq_true'] at hm2
      obtain ⟨q1, q2, q3⟩ := hm2
      have q1 : decide (ms[n].2.1 = (ByteArray.mk (List.toArray []))) = false := q1
      have q3 := of_decide_eq_true q3
      have n0 : decide ((0 : Int) ≤ (n : Int)) = true := decide_eq_true (by omega)
      have n1 : decide ((n : Int) < 0) = false := decide_eq_false (by omega)
      have hf := hfy.mu n hn
      have c1 : decide ((k' : Int) = (((idleB u ms (most + 1)).length : Nat) : Int)) = false := decide_eq_false (by omega)
      have c2 : decide (most ≤ u ms[n]) = false := decide_eq_false (by omega)
      simp only [d0, d1, br_true, Int.toNat_natCast, at_lt hlt, hv, Option.bind_some, e, Sum.elim_inl, ref09_Find_is N hN (show ms.length ≤ 140737488355328 by omega), hf, plI, c1, br_false, n0, n1, at_lt hn, q1, q2, Bool.not_true, eta2, (hu _).2, w1, c2, wi (i := i) (by omega)]
      refine rec (i + 1) _ (by omega) (by omega) ⟨k', by omega, ?_, rfl⟩
      rw [List.drop_eq_getElem_cons hlt] at hs'
      exact List.Sublist.trans (List.sublist_cons_self _ _) hs'
    · have d1 : decide ((i : Int) < (((idleB u ms most).length : Nat) : Int)) = false := decide_eq_false (by omega)
      simp only [d1, br_false]
      exact Tot.some ⟨_, rfl⟩
  obtain ⟨o, e, y, rfl⟩ := loop N 0 _ (by omega) ⟨0, by omega, idle_less u ms (by omega), rfl⟩ (by have := hlen most; omega)
  have e : g_law25_BlockIdle_7 N N ((ms, bs, most, idleB u ms most, idleB u ms (most + 1), 0, 0, ()), ()) = _ := e
  simp only [e, Option.bind_some, Sum.elim_inl, hid, h0]
  rfl
end Go.Proofs.Ytncfllndmjjljaa.Bi
