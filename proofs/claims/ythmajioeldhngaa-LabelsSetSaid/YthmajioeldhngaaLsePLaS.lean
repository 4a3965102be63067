/- Labels with one more, and without one. -/
import Derived.Test.YthmajioeldhngaaLmePLaS
namespace Go.Proofs.Ythmajioeldhngaa.LaS
open Go Go.VI
set_option linter.unusedVariables false
set_option linter.unusedSimpArgs false
set_option maxRecDepth 100000

/-- Where a key stands, or would stand: at i; what stands behind it begins at j. -/
structure AtIs (l : Labels) (k : ByteArray) (i j : Nat) : Prop where
  hi : i ≤ j
  hj : j ≤ l.length
  ahead : (l.take i).all (fun x => bl x.1 k) = true
  behind : ∀ x ∈ l.drop j, bl x.1 k = false ∧ x.1 ≠ k
  mid : (j = i) ∨ (j = i + 1 ∧ ∃ h : i < l.length, l[i].1 = k)
theorem atIs_of {l : Labels} (hs : SortL l) {k : ByteArray} {i : Nat} (h : (l.take i).all (fun x => bl x.1 k) = true) (hi : i < l.length) (hb : bl l[i].1 k = false) : AtIs l k i (if l[i].1 = k then i + 1 else i) := by
  have later : ∀ j (hj : j < l.length), i < j → bl k l[j].1 = true := fun j hj hij => by
    have h1 := (List.pairwise_iff_getElem.1 hs) i j hi hj hij
    by_cases e : l[i].1 = k
    · rw [← e]; exact h1
    · exact bl_trans (bl_tri hb e) h1
  have fin : ∀ x, bl k x = true → bl x k = false ∧ x ≠ k := fun x hx => ⟨bl_not hx, fun e => by rw [e, bl_irrefl] at hx; cases hx⟩
  by_cases e : l[i].1 = k
  · rw [if_pos e]
    refine ⟨by omega, by omega, h, fun x hx => ?_, .inr ⟨rfl, hi, e⟩⟩
    obtain ⟨n, hn, rfl⟩ := List.mem_iff_getElem.1 hx
    rw [List.length_drop] at hn
    rw [List.getElem_drop]
    exact fin _ (later _ _ (by omega))
  · rw [if_neg e]
    refine ⟨Nat.le_refl _, by omega, h, fun x hx => ?_, .inl rfl⟩
    obtain ⟨n, hn, rfl⟩ := List.mem_iff_getElem.1 hx
    rw [List.length_drop] at hn
    rw [List.getElem_drop]
    by_cases hn0 : n = 0
    · subst hn0; exact ⟨hb, e⟩
    · exact fin _ (later _ _ (by omega))
theorem atIs_end {l : Labels} {k : ByteArray} (h : l.all (fun x => bl x.1 k) = true) : AtIs l k l.length l.length :=
  ⟨Nat.le_refl _, Nat.le_refl _, by rw [List.take_length]; exact h, fun x hx => (by rw [List.drop_length] at hx; cases hx), .inl rfl⟩
/-- Labels without a key. -/
def cutL (l : Labels) (i j : Nat) : Labels := l.take i ++ l.drop j
theorem filt_at {l : Labels} {k : ByteArray} {i j : Nat} (h : AtIs l k i j) : l.filter (fun x => !decide (x.1 = k)) = cutL l i j := by
  unfold cutL
  conv => lhs; rw [← List.take_append_drop i l]
  rw [List.filter_append]
  have h1 : (l.take i).filter (fun x => !decide (x.1 = k)) = l.take i := by
    rw [List.filter_eq_self]
    intro x hx
    simpa using bl_ne (List.all_eq_true.1 h.ahead x hx)
  have h2 : (l.drop j).filter (fun x => !decide (x.1 = k)) = l.drop j := by
    rw [List.filter_eq_self]
    intro x hx
    simpa using (h.behind x hx).2
  rw [h1]
  congr 1
  rcases h.mid with e | ⟨e, hi, hk⟩
  · rw [← e]; exact h2
  · rw [List.drop_eq_getElem_cons hi, List.filter_cons, ← e, h2, hk]
    simp
theorem ref05_Drop_is (N : Nat) (hN : Big N) {l : Labels} (hl : l.length ≤ 1000) (k : ByteArray) : G_ref05_Drop N (l, k, ()) = some (l.filter (fun x => !decide (x.1 = k)), ()) := by
  have hN' := hN
  unfold Big at hN'
  have loop := Tot.filt (f := g_ref05_Drop_3 N) (l := l) (p := fun x => !decide (x.1 = k)) (mk := fun i acc => ((l, k, (i : Int), ()), acc, ())) (Y := fun acc o => ∃ y, o = .inl (y, acc, ()))
    (fun m => by
      rw [g_ref05_Drop_3_succ]
      unfold s_ref05_Drop_3
      exact Tot.brD (fun h => absurd h (by dsimp only; omega)) fun _ => Tot.some ⟨_, rfl⟩)
    (fun m i Q hi h1 h2 => by
      rw [g_ref05_Drop_3_succ]
      unfold s_ref05_Drop_3
      have d0 : decide ((0 : Int) ≤ (i : Int)) = true := decide_eq_true (by omega)
      have d1 : decide ((i : Int) < ((l.length : Nat) : Int)) = true := decide_eq_true (by omega)
      simp only [d0, d1, br_true, Int.toNat_natCast, at_lt hi, Option.bind_some, wi (i := i) (by omega), ble_filt (i := i) (p := fun x : ByteArray × ByteArray => !decide (x.1 = k)) (show l.length ≤ 1000000 by omega)]
      refine Tot.br (fun c => h1 c) fun c => h2 c)
    N (by omega)
  obtain ⟨o, e, y, rfl⟩ := loop
  have e : g_ref05_Drop_3 N N ((l, k, 0, ()), [], ()) = _ := e
  unfold G_ref05_Drop S_ref05_Drop
  simp only [e, Option.bind_some]; rfl
theorem cut_take {l : Labels} {i j : Nat} (h : i ≤ l.length) : (cutL l i j).take i = l.take i := by
  unfold cutL
  rw [List.take_append_of_le_length (by rw [List.length_take]; omega), List.take_take, Nat.min_self]
theorem cut_drop {l : Labels} {i j : Nat} (h : i ≤ l.length) : (cutL l i j).drop i = l.drop j := by
  unfold cutL
  rw [List.drop_append_of_le_length (by rw [List.length_take]; omega), List.drop_eq_nil_of_le (by rw [List.length_take]; omega), List.nil_append]
theorem ref05_Set_is (N : Nat) (hN : Big N) {l : Labels} (hl : l.length ≤ 1000) (hx : ∀ x ∈ l, okS x.1) {k v : ByteArray} (hk : okS k) {i j : Nat} (h : AtIs l k i j) : G_ref05_Set N (l, k, v, ()) = some ((l.take i ++ [(k, v)]) ++ l.drop j, ()) := by
  have hN' := hN
  unfold Big at hN'
  have hij := h.hi
  have hjl := h.hj
  have hcl : (cutL l i j).length ≤ l.length := by unfold cutL; rw [List.length_append, List.length_take, List.length_drop]; omega
  have hil : i ≤ (cutL l i j).length := by unfold cutL; rw [List.length_append, List.length_take]; omega
  have hmem : ∀ x ∈ cutL l i j, x ∈ l := fun x hx => by
    unfold cutL at hx
    rcases List.mem_append.1 hx with h | h
    · exact List.mem_of_mem_take h
    · exact List.mem_of_mem_drop h
  have hat : ∀ n (hn : n < (cutL l i j).length), n < i → bl (cutL l i j)[n].1 k = true := fun n hn hni => by
    have := List.all_eq_true.1 h.ahead (cutL l i j)[n] (by
      rw [← cut_take (j := j) (by omega : i ≤ l.length)]
      exact List.mem_iff_getElem.2 ⟨n, by rw [List.length_take]; omega, by rw [List.getElem_take]⟩)
    exact this
  have hnot : ∀ hn : i < (cutL l i j).length, bl (cutL l i j)[i].1 k = false := fun hn => by
    refine (h.behind (cutL l i j)[i] ?_).1
    rw [← cut_drop (j := j) (by omega : i ≤ l.length)]
    exact List.mem_iff_getElem.2 ⟨0, by rw [List.length_drop]; omega, by rw [List.getElem_drop]; rfl⟩
  have loop : ∀ m (n : Nat) x, n ≤ i → x = ((cutL l i j, k, v, (n : Int), ()), (cutL l i j).take n, ()) → i - n < m → Tot (g_ref05_Set_4 N m x) fun o => o = .inl ((cutL l i j, k, v, (i : Int), ()), (cutL l i j).take i, ()) := by
    refine Tot.range i fun m n x hx' hn rec => ?_
    subst hx'
    rw [g_ref05_Set_4_succ]
    unfold s_ref05_Set_4
    by_cases hlt : n < (cutL l i j).length
    · have d0 : decide ((0 : Int) ≤ (n : Int)) = true := decide_eq_true (by omega)
      have d1 : decide ((n : Int) < (((cutL l i j).length : Nat) : Int)) = true := decide_eq_true (by omega)
      have hb : Nat.ble (((cutL l i j).take n).length + 1) maxElems = true := Nat.ble_eq_true_of_le (by unfold maxElems; rw [List.length_take]; omega)
      simp only [d0, d1, br_true, Int.toNat_natCast, at_lt hlt, Option.bind_some, wi (i := n) (by omega), Less_is N hN (hx _ (hmem _ (List.getElem_mem hlt))) hk, hb]
      by_cases hni : n < i
      · rw [hat n hlt hni]
        simp only [br_true]
        refine rec (n + 1) _ (by omega) (by omega) ?_
        rw [List.take_add_one, at_lt hlt]; rfl
      · have : n = i := by omega
        subst this
        rw [hnot hlt]
        exact Tot.some rfl
    · have d1 : decide ((n : Int) < (((cutL l i j).length : Nat) : Int)) = false := decide_eq_false (by omega)
      simp only [d1, br_false]
      have : n = i := by omega
      subst this
      exact Tot.some rfl
  obtain ⟨o, e, rfl⟩ := loop N 0 _ (by omega) rfl (by omega)
  have e : g_ref05_Set_4 N N ((cutL l i j, k, v, 0, ()), [], ()) = _ := e
  have b1 : Nat.ble (((cutL l i j).take i).length + 1) maxElems = true := Nat.ble_eq_true_of_le (by unfold maxElems; rw [List.length_take]; omega)
  have b2 : (decide ((0 : Int) ≤ (i : Int))).and (decide ((i : Int) ≤ (((cutL l i j).length : Nat) : Int))) = true := by
    rw [decide_eq_true (show (0 : Int) ≤ (i : Int) by omega), decide_eq_true (show (i : Int) ≤ (((cutL l i j).length : Nat) : Int) by omega)]; rfl
  have b3 : Nat.ble (((cutL l i j).take i ++ [(k, v)]).length + ((cutL l i j).drop i).length) maxElems = true := Nat.ble_eq_true_of_le (by
    unfold maxElems
    rw [List.length_append, List.length_take, List.length_drop]
    simp only [List.length_cons, List.length_nil]
    omega)
  unfold G_ref05_Set S_ref05_Set
  simp only [ref05_Drop_is N hN hl, filt_at h, Option.bind_some, e, Sum.elim_inl, b1, b2, Int.toNat_natCast, b3, br_true]
  rw [cut_take (by omega), cut_drop (by omega)]
theorem ref05_Same_self (N : Nat) (hN : Big N) {l : Labels} (hl : l.length ≤ 1000000) : G_ref05_Same N (l, l, ()) = some (true, ()) := by
  have hN' := hN
  unfold Big at hN'
  have loop : ∀ m (i : Nat) x, i ≤ l.length → x = ((l, l, (i : Int), ()), ()) → l.length - i < m → Tot (g_ref05_Same_4 N m x) fun o => ∃ y, o = .inl y := by
    refine Tot.range l.length fun m i x hx hi rec => ?_
    subst hx
    rw [g_ref05_Same_4_succ]
    unfold s_ref05_Same_4
    by_cases hlt : i < l.length
    · have d0 : decide ((0 : Int) ≤ (i : Int)) = true := decide_eq_true (by omega)
      have d1 : decide ((i : Int) < ((l.length : Nat) : Int)) = true := decide_eq_true (by omega)
      simp only [d0, d1, br_true, Int.toNat_natCast, at_lt hlt, Option.bind_some, wi (i := i) (by omega), decide_true, Bool.and_self, Bool.not_true, br_false]
      exact rec (i + 1) _ (by omega) (by omega) rfl
    · have d1 : decide ((i : Int) < ((l.length : Nat) : Int)) = false := decide_eq_false (by omega)
      simp only [d1, br_false]
      exact Tot.some ⟨_, rfl⟩
  obtain ⟨o, e, y, rfl⟩ := loop N 0 _ (by omega) rfl (by omega)
  have e : g_ref05_Same_4 N N ((l, l, 0, ()), ()) = _ := e
  unfold G_ref05_Same S_ref05_Same
  simp only [decide_true, Bool.not_true, br_false, e, Option.bind_some]; rfl
end Go.Proofs.Ythmajioeldhngaa.LaS
