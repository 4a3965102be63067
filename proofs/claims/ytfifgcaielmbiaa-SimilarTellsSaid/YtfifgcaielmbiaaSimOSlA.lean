/- Similar groups: which they are. -/
import Derived.Test.YtfifgcaielmbiaaSimASlA
import Derived.Test.YtfifgcaielmbiaaGrpLSlA
import Derived.Test.YtfifgcaielmbiaaGrpFSlA
namespace Go.Proofs.Ytfifgcaielmbiaa.SlA
open Go Go.VI
set_option linter.unusedVariables false
set_option linter.unusedSimpArgs false
set_option maxRecDepth 100000

theorem okA_of {N : Nat} {l : List Grp} (h : rightGs N l = true) {g : Grp} (hg : g ∈ l) : okA g := by
  unfold rightGs at h
  rw [Bool.and_eq_true, allN_iff] at h
  obtain ⟨i, hi, rfl⟩ := List.mem_iff_getElem.1 hg
  have h := h.2 i (by omega) (by omega)
  unfold okGr at h
  rw [at_lt hi] at h
  have h : (rightG N l[i] && (decide (l[i].1.size ≤ 48) && decide (fnd l l[i].1 = (i : Int)))) = true := h
  rw [Bool.and_eq_true] at h
  have h := h.1
  unfold rightG rightM at h
  simp only [Bool.and_eq_true] at h
  obtain ⟨_, _, _, _, _, ⟨_, _, _, hl, ht⟩, _⟩ := h
  refine ⟨sortedL hl, ?_, ?_⟩
  · unfold rightL at hl
    rw [Bool.and_eq_true, decide_eq_true_eq] at hl
    omega
  · unfold rightT at ht
    rw [Bool.and_eq_true, decide_eq_true_eq] at ht
    omega
theorem sAlike (N : Nat) (hN : Big N) {x y : Grp} (hx : okA x) (hy : okA y) : G_similar_Alike N ((x.1, x.2.1, x.2.2.1, (x.2.2.2.1.1, x.2.2.2.1.2.1, x.2.2.2.1.2.2.1, x.2.2.2.1.2.2.2.1, x.2.2.2.1.2.2.2.2.1, x.2.2.2.1.2.2.2.2.2), x.2.2.2.2), (y.1, y.2.1, y.2.2.1, (y.2.2.2.1.1, y.2.2.2.1.2.1, y.2.2.2.1.2.2.1, y.2.2.2.1.2.2.2.1, y.2.2.2.1.2.2.2.2.1, y.2.2.2.1.2.2.2.2.2), y.2.2.2.2), ()) = some (alikeB x y, ()) := similar_Alike_is N hN hx hy
theorem rAlike (N : Nat) (hN : Big N) {x y : Grp} (hx : okA x) (hy : okA y) : G_ref22_Alike N ((x.1, x.2.1, x.2.2.1, (x.2.2.2.1.1, x.2.2.2.1.2.1, x.2.2.2.1.2.2.1, x.2.2.2.1.2.2.2.1, x.2.2.2.1.2.2.2.2.1, x.2.2.2.1.2.2.2.2.2), x.2.2.2.2), (y.1, y.2.1, y.2.2.1, (y.2.2.2.1.1, y.2.2.2.1.2.1, y.2.2.2.1.2.2.1, y.2.2.2.1.2.2.2.1, y.2.2.2.1.2.2.2.2.1, y.2.2.2.1.2.2.2.2.2), y.2.2.2.2), ()) = some (alikeB x y, ()) := ref22_Alike_is N hN hx hy
/-- The places at which it is so. -/
def upto {α : Type} (p : α → Bool) (l : List α) (i : Nat) : List Int := ((List.range i).filter (atP p l)).map (fun j : Nat => (j : Int))
theorem upto_len {α : Type} {p : α → Bool} {l : List α} {i : Nat} : (upto p l i).length ≤ i := by
  unfold upto
  rw [List.length_map]
  exact Nat.le_trans (List.length_filter_le _ _) (by rw [List.length_range]; exact Nat.le_refl _)
theorem upto_yes {α : Type} {p : α → Bool} {l : List α} {i : Nat} (h : i < l.length) (hp : p l[i] = true) : upto p l (i + 1) = upto p l i ++ [(i : Int)] := by
  unfold upto
  rw [List.range_succ, List.filter_append, List.map_append, List.filter_cons, if_pos (by rw [atP_lt h]; exact hp)]
  rfl
theorem upto_no {α : Type} {p : α → Bool} {l : List α} {i : Nat} (h : i < l.length) (hp : p l[i] = false) : upto p l (i + 1) = upto p l i := by
  unfold upto
  rw [List.range_succ, List.filter_append, List.map_append, List.filter_cons, if_neg (by rw [atP_lt h, hp]; decide)]
  simp
/-- The groups like the one of a name. -/
def ofG (l : List Grp) (name : ByteArray) : List Int := if fnd l name < 0 then [] else match l[(fnd l name).toNat]? with
  | some g => upto (alikeB g) l l.length
  | none => []
theorem ofG_len {l : List Grp} {name : ByteArray} : (ofG l name).length ≤ l.length := by
  unfold ofG
  split
  · exact Nat.zero_le _
  · split
    · exact upto_len
    · exact Nat.zero_le _
theorem similar_Of_7_is (N : Nat) (hN : Big N) {l : List Grp} (hl : l.length ≤ 1000) (ok : ∀ g ∈ l, okA g) {g : Grp} (hg : okA g) : Tot (g_similar_Of_7 N N ((l, (l.length : Int), 0, ()), (g, ()), [], ())) fun o => ∃ y z, o = .inl (y, z, upto (alikeB g) l l.length, ()) := by
  unfold Big at hN
  have loop : ∀ m (i : Nat) x, i ≤ l.length → x = ((l, (l.length : Int), (i : Int), ()), (g, ()), upto (alikeB g) l i, ()) → l.length - i < m → Tot (g_similar_Of_7 N m x) fun o => ∃ y z, o = .inl (y, z, upto (alikeB g) l l.length, ()) := by
    refine Tot.range l.length fun m i x ha hi rec => ?_
    subst ha
    rw [g_similar_Of_7_succ]
    unfold s_similar_Of_7
    by_cases hlt : i < l.length
    · have d0 : decide ((0 : Int) ≤ (i : Int)) = true := decide_eq_true (by omega)
      have d1 : decide ((i : Int) < ((l.length : Nat) : Int)) = true := decide_eq_true (by omega)
      have hb : Nat.ble ((upto (alikeB g) l i).length + 1) maxElems = true := Nat.ble_eq_true_of_le (by
        have := upto_len (p := alikeB g) (l := l) (i := i)
        unfold maxElems; omega)
      have hA := sAlike N hN hg (ok _ (List.getElem_mem hlt))
      simp only [d0, d1, br_true, Int.toNat_natCast, at_lt hlt, Option.bind_some, hA, wi (i := i) (by omega), hb]
      cases c : alikeB g l[i]
      · exact rec (i + 1) _ (by omega) (by omega) (by rw [upto_no hlt c])
      · exact rec (i + 1) _ (by omega) (by omega) (by rw [upto_yes hlt c])
    · have d1 : decide ((i : Int) < ((l.length : Nat) : Int)) = false := decide_eq_false (by omega)
      have : i = l.length := by omega
      subst this
      simp only [d1, br_false]
      exact Tot.some ⟨_, _, rfl⟩
  exact loop N 0 _ (by omega) rfl (by omega)
theorem fndF_ge {name : ByteArray} : ∀ {l : List Grp} {i : Nat}, fndF name l i = -1 ∨ (i : Int) ≤ fndF name l i
  | [], i => .inl rfl
  | g :: l, i => by
    simp only [fndF]
    split
    · exact .inr (Int.le_refl _)
    · rcases fndF_ge (name := name) (l := l) (i := i + 1) with h | h
      · exact .inl h
      · exact .inr (by omega)
theorem similar_Of_is (N : Nat) (hN : Big N) {l : List Grp} (hl : l.length ≤ 1000) (ok : ∀ g ∈ l, okA g) (name : ByteArray) : G_similar_Of N (l, name, ()) = some (ofG l name, ()) := by
  have hN' := hN
  unfold Big at hN'
  have loop : ∀ m (i : Nat) x, i ≤ l.length → (x = ((l, name, l, (l.length : Int), (i : Int), ()), ()) ∧ fnd l name = fndF name (l.drop i) i) → l.length - i < m → Tot (g_similar_Of_2 N m x) fun o => ofG l name = Sum.elim (fun _ => []) (fun v => v.1.1) o := by
    refine Tot.range l.length fun m i x ha hi rec => ?_
    obtain ⟨rfl, hf⟩ := ha
    rw [g_similar_Of_2_succ]
    unfold s_similar_Of_2
    by_cases hlt : i < l.length
    · have d0 : decide ((0 : Int) ≤ (i : Int)) = true := decide_eq_true (by omega)
      have d1 : decide ((i : Int) < ((l.length : Nat) : Int)) = true := decide_eq_true (by omega)
      simp only [d0, d1, br_true, Int.toNat_natCast, at_lt hlt, Option.bind_some, wi (i := i) (by omega)]
      rw [List.drop_eq_getElem_cons hlt] at hf
      simp only [fndF] at hf
      by_cases e : l[i].1 = name
      · rw [if_pos e] at hf
        rw [decide_eq_true e]
        obtain ⟨o, e7, y, z, rfl⟩ := similar_Of_7_is N hN hl ok (ok _ (List.getElem_mem hlt))
        simp only [Bool.not_true, br_false, e7, Option.bind_some, Sum.elim_inl]
        refine Tot.some ?_
        unfold ofG
        rw [hf, if_neg (by omega), Int.toNat_natCast, at_lt hlt]
        rfl
      · rw [if_neg e] at hf
        rw [decide_eq_false e]
        exact rec (i + 1) _ (by omega) (by omega) ⟨rfl, hf⟩
    · have d1 : decide ((i : Int) < ((l.length : Nat) : Int)) = false := decide_eq_false (by omega)
      simp only [d1, br_false]
      rw [List.drop_eq_nil_of_le (by omega)] at hf
      refine Tot.some ?_
      unfold ofG
      rw [hf, if_pos (by simp only [fndF]; omega)]
      rfl
  obtain ⟨o, e, ho⟩ := loop N 0 _ (by omega) ⟨rfl, rfl⟩ (by omega)
  have e : g_similar_Of_2 N N ((l, name, l, (l.length : Int), 0, ()), ()) = _ := e
  unfold G_similar_Of S_similar_Of
  simp only [e, Option.bind_some]
  rw [ho]; cases o <;> rfl
theorem fndF_lt' (name : ByteArray) : ∀ (l : List Grp) (i : Nat), fndF name l i < ((i + l.length : Nat) : Int)
  | [], i => by simp only [fndF]; omega
  | g :: l, i => by
    simp only [fndF]
    split
    · simp only [List.length_cons]; omega
    · have := fndF_lt' name l (i + 1)
      simp only [List.length_cons]; omega
theorem ref22_Of_is (N : Nat) (hN : Big N) {l : List Grp} (hl : l.length ≤ 1000) (ok : ∀ g ∈ l, okA g) (name : ByteArray) : G_ref22_Of N (l, name, ()) = some (ofG l name, ()) := by
  have hN' := hN
  unfold Big at hN'
  unfold G_ref22_Of S_ref22_Of
  simp only [ref16_Find_is N hN (l := l) (by omega), Option.bind_some]
  by_cases hneg : fnd l name < 0
  · have h0 : ∀ m, Tot (g_ref22_Of_4 N (m + 1) ((l, fnd l name, 0, ()), [], ())) fun o => ∃ y, o = .inl (y, [], ()) := by
      intro m
      rw [g_ref22_Of_4_succ]
      unfold s_ref22_Of_4
      have d0 : decide ((0 : Int) ≤ fnd l name) = false := decide_eq_false (by omega)
      simp only [d0, br_false]
      cases decide ((0 : Int) < ((l.length : Nat) : Int)) <;> exact Tot.some ⟨_, rfl⟩
    obtain ⟨o, e, y, rfl⟩ := h0 (N - 1)
    rw [show N - 1 + 1 = N by omega] at e
    unfold ofG
    simp only [e, Option.bind_some, Sum.elim_inl, if_pos hneg]
  · have hlt2 := fndF_lt' name l 0
    have hat : fnd l name = ((fnd l name).toNat : Nat) := by omega
    have hlt : (fnd l name).toNat < l.length := by unfold fnd at hneg ⊢; omega
    generalize (fnd l name).toNat = a at hat hlt
    have hg : okA l[a] := ok _ (List.getElem_mem hlt)
    have loop : ∀ m (i : Nat) x, i ≤ l.length → x = ((l, (a : Int), (i : Int), ()), upto (alikeB l[a]) l i, ()) → l.length - i < m → Tot (g_ref22_Of_4 N m x) fun o => ∃ y, o = .inl (y, upto (alikeB l[a]) l l.length, ()) := by
      refine Tot.range l.length fun m i x ha hi rec => ?_
      subst ha
      rw [g_ref22_Of_4_succ]
      unfold s_ref22_Of_4
      by_cases hi : i < l.length
      · have d0 : decide ((0 : Int) ≤ (i : Int)) = true := decide_eq_true (by omega)
        have d1 : decide ((i : Int) < ((l.length : Nat) : Int)) = true := decide_eq_true (by omega)
        have d2 : decide ((0 : Int) ≤ (a : Int)) = true := decide_eq_true (by omega)
        have hb : Nat.ble ((upto (alikeB l[a]) l i).length + 1) maxElems = true := Nat.ble_eq_true_of_le (by
          have := upto_len (p := alikeB l[a]) (l := l) (i := i)
          unfold maxElems; omega)
        have hA := rAlike N hN (ok _ (List.getElem_mem hi)) hg
        rw [alike_comm] at hA
        simp only [d0, d1, d2, br_true, Int.toNat_natCast, at_lt hi, at_lt hlt, Option.bind_some, hA, wi (i := i) (by omega), hb]
        cases c : alikeB l[a] l[i]
        · exact rec (i + 1) _ (by omega) (by omega) (by rw [upto_no hi c])
        · exact rec (i + 1) _ (by omega) (by omega) (by rw [upto_yes hi c])
      · have d1 : decide ((i : Int) < ((l.length : Nat) : Int)) = false := decide_eq_false (by omega)
        have : i = l.length := by omega
        subst this
        simp only [d1, br_false]
        exact Tot.some ⟨_, rfl⟩
    obtain ⟨o, e, y, rfl⟩ := loop N 0 _ (by omega) rfl (by omega)
    have e : g_ref22_Of_4 N N ((l, (a : Int), 0, ()), [], ()) = _ := e
    unfold ofG
    rw [hat, if_neg (by omega), Int.toNat_natCast, at_lt hlt]
    simp only [e, Option.bind_some, Sum.elim_inl]
end Go.Proofs.Ytfifgcaielmbiaa.SlA
