/- Labels without a key; groups that are alike. -/
import Derived.Test.YtfifgcaielmbiaaLabSSlA
import Derived.Test.YtfifgcaielmbiaaGrpSSlA
namespace Go.Proofs.Ytfifgcaielmbiaa.SlA
open Go Go.VI
set_option linter.unusedVariables false
set_option linter.unusedSimpArgs false
set_option maxRecDepth 100000

theorem rowT_is (N : Nat) (hN : Big N) {a b : Taints} (ha : a.length ≤ 1000000) : G_similar_row_api_Taint N (a, b, ()) = some (decide (a = b), ()) := by
  unfold Big at hN
  by_cases hl : a.length = b.length
  · have loop := Tot.all (f := g_similar_row_api_Taint_4 N) (Inv := fun i x => x = ((a, b, (a.length : Int), (i : Int), ()), ())) (Y := fun o => ∃ y, o = .inl y) (No := fun o => ∃ y, o = .inr ((false, ()), y)) a.length (fun i => decide (a[i]? = b[i]?))
      (fun m x hx => by
        subst hx
        rw [g_similar_row_api_Taint_4_succ]
        unfold s_similar_row_api_Taint_4
        exact Tot.brD (fun h => absurd h (by dsimp only; omega)) fun _ => Tot.some ⟨_, rfl⟩)
      (fun m i x Q hx hi rec no => by
        subst hx
        rw [g_similar_row_api_Taint_4_succ]
        unfold s_similar_row_api_Taint_4
        have hi' : i < b.length := by omega
        have d0 : decide ((0 : Int) ≤ (i : Int)) = true := decide_eq_true (by omega)
        have d1 : decide ((i : Int) < ((a.length : Nat) : Int)) = true := decide_eq_true (by omega)
        simp only [d0, d1, br_true, Int.toNat_natCast, at_lt hi, at_lt hi', Option.bind_some, wi (i := i) (by omega)]
        simp only [at_lt hi, at_lt hi'] at rec no
        generalize a[i] = u at *
        generalize b[i] = v at *
        obtain ⟨u1, u2, u3⟩ := u
        obtain ⟨v1, v2, v3⟩ := v
        by_cases e : (u1, u2, u3) = (v1, v2, v3)
        · cases e
          simp only [decide_true, Bool.and_true, Bool.not_true, br_false]
          exact rec (by simp) _ rfl
        · have : (Bool.and (decide (u1 = v1)) (Bool.and (decide (u2 = v2)) (Bool.and (decide (u3 = v3)) true))) = false := by
            cases hx : (Bool.and (decide (u1 = v1)) (Bool.and (decide (u2 = v2)) (Bool.and (decide (u3 = v3)) true))) with
            | false => rfl
            | true =>
              exfalso
              have hx : (decide (u1 = v1) && (decide (u2 = v2) && (decide (u3 = v3) && true))) = true := hx
              simp only [Bool.and_eq_true, decide_eq_true_eq] at hx
              exact e (by rw [hx.1, hx.2.1, hx.2.2.1])
          rw [this, Bool.not_false, br_true]
          exact Tot.some (no (decide_eq_false fun h => e (by simpa using h)) _ ⟨_, rfl⟩))
      N 0 ((a, b, (a.length : Int), 0, ()), ()) (by omega) rfl (by omega)
    obtain ⟨o, e, ho⟩ := loop
    unfold G_similar_row_api_Taint S_similar_row_api_Taint
    simp only [e, Option.bind_some]
    rw [decide_eq_true (show ((a.length : Nat) : Int) = ((b.length : Nat) : Int) by omega), Bool.not_true, br_false]
    rw [Nat.sub_zero] at ho
    split at ho
    · rename_i hy
      obtain ⟨y, rfl⟩ := ho
      have : a = b := List.ext_getElem? fun i => by
        by_cases h : i < a.length
        · exact of_decide_eq_true (allN_iff.1 hy i (by omega) (by omega))
        · rw [List.getElem?_eq_none (by omega), List.getElem?_eq_none (by omega)]
      rw [decide_eq_true this]; rfl
    · rename_i hy
      obtain ⟨y, rfl⟩ := ho
      have : ¬ a = b := fun e => hy (allN_iff.2 fun j _ _ => by rw [e]; exact decide_eq_true rfl)
      rw [decide_eq_false this]; rfl
  · unfold G_similar_row_api_Taint S_similar_row_api_Taint
    dsimp only
    rw [decide_eq_false (show ¬ ((a.length : Nat) : Int) = ((b.length : Nat) : Int) by omega), Bool.not_false, br_true, decide_eq_false (fun e => hl (by rw [e]))]
theorem rowL_is (N : Nat) (hN : Big N) {a b : Labels} (ha : a.length ≤ 1000000) : G_similar_row_api_Label N (a, b, ()) = some (decide (a = b), ()) := by
  unfold Big at hN
  by_cases hl : a.length = b.length
  · have loop := Tot.all (f := g_similar_row_api_Label_4 N) (Inv := fun i x => x = ((a, b, (a.length : Int), (i : Int), ()), ())) (Y := fun o => ∃ y, o = .inl y) (No := fun o => ∃ y, o = .inr ((false, ()), y)) a.length (fun i => decide (a[i]? = b[i]?))
      (fun m x hx => by
        subst hx
        rw [g_similar_row_api_Label_4_succ]
        unfold s_similar_row_api_Label_4
        exact Tot.brD (fun h => absurd h (by dsimp only; omega)) fun _ => Tot.some ⟨_, rfl⟩)
      (fun m i x Q hx hi rec no => by
        subst hx
        rw [g_similar_row_api_Label_4_succ]
        unfold s_similar_row_api_Label_4
        have hi' : i < b.length := by omega
        have d0 : decide ((0 : Int) ≤ (i : Int)) = true := decide_eq_true (by omega)
        have d1 : decide ((i : Int) < ((a.length : Nat) : Int)) = true := decide_eq_true (by omega)
        simp only [d0, d1, br_true, Int.toNat_natCast, at_lt hi, at_lt hi', Option.bind_some, wi (i := i) (by omega)]
        simp only [at_lt hi, at_lt hi'] at rec no
        generalize a[i] = u at *
        generalize b[i] = v at *
        obtain ⟨u1, u2⟩ := u
        obtain ⟨v1, v2⟩ := v
        by_cases e : (u1, u2) = (v1, v2)
        · cases e
          simp only [decide_true, Bool.and_true, Bool.not_true, br_false]
          exact rec (by simp) _ rfl
        · have : (Bool.and (decide (u1 = v1)) (Bool.and (decide (u2 = v2)) true)) = false := by
            cases hx : (Bool.and (decide (u1 = v1)) (Bool.and (decide (u2 = v2)) true)) with
            | false => rfl
            | true =>
              exfalso
              have hx : (decide (u1 = v1) && (decide (u2 = v2) && true)) = true := hx
              simp only [Bool.and_eq_true, decide_eq_true_eq] at hx
              exact e (by rw [hx.1, hx.2.1])
          rw [this, Bool.not_false, br_true]
          exact Tot.some (no (decide_eq_false fun h => e (by simpa using h)) _ ⟨_, rfl⟩))
      N 0 ((a, b, (a.length : Int), 0, ()), ()) (by omega) rfl (by omega)
    obtain ⟨o, e, ho⟩ := loop
    unfold G_similar_row_api_Label S_similar_row_api_Label
    simp only [e, Option.bind_some]
    rw [decide_eq_true (show ((a.length : Nat) : Int) = ((b.length : Nat) : Int) by omega), Bool.not_true, br_false]
    rw [Nat.sub_zero] at ho
    split at ho
    · rename_i hy
      obtain ⟨y, rfl⟩ := ho
      have : a = b := List.ext_getElem? fun i => by
        by_cases h : i < a.length
        · exact of_decide_eq_true (allN_iff.1 hy i (by omega) (by omega))
        · rw [List.getElem?_eq_none (by omega), List.getElem?_eq_none (by omega)]
      rw [decide_eq_true this]; rfl
    · rename_i hy
      obtain ⟨y, rfl⟩ := ho
      have : ¬ a = b := fun e => hy (allN_iff.2 fun j _ _ => by rw [e]; exact decide_eq_true rfl)
      rw [decide_eq_false this]; rfl
  · unfold G_similar_row_api_Label S_similar_row_api_Label
    dsimp only
    rw [decide_eq_false (show ¬ ((a.length : Nat) : Int) = ((b.length : Nat) : Int) by omega), Bool.not_false, br_true, decide_eq_false (fun e => hl (by rw [e]))]
theorem sameT_is (N : Nat) (hN : Big N) {a b : Taints} (ha : a.length ≤ 1000000) : G_ref06_Same N (a, b, ()) = some (decide (a = b), ()) := by
  unfold Big at hN
  by_cases hl : a.length = b.length
  · have loop := Tot.all (f := g_ref06_Same_4 N) (Inv := fun i x => x = ((a, b, (i : Int), ()), ())) (Y := fun o => ∃ y, o = .inl y) (No := fun o => ∃ y, o = .inr ((false, ()), y)) a.length (fun i => decide (a[i]? = b[i]?))
      (fun m x hx => by
        subst hx
        rw [g_ref06_Same_4_succ]
        unfold s_ref06_Same_4
        exact Tot.brD (fun h => absurd h (by dsimp only; omega)) fun _ => Tot.some ⟨_, rfl⟩)
      (fun m i x Q hx hi rec no => by
        subst hx
        rw [g_ref06_Same_4_succ]
        unfold s_ref06_Same_4
        have hi' : i < b.length := by omega
        have d0 : decide ((0 : Int) ≤ (i : Int)) = true := decide_eq_true (by omega)
        have d1 : decide ((i : Int) < ((a.length : Nat) : Int)) = true := decide_eq_true (by omega)
        simp only [d0, d1, br_true, Int.toNat_natCast, at_lt hi, at_lt hi', Option.bind_some, wi (i := i) (by omega)]
        simp only [at_lt hi, at_lt hi'] at rec no
        generalize a[i] = u at *
        generalize b[i] = v at *
        obtain ⟨u1, u2, u3⟩ := u
        obtain ⟨v1, v2, v3⟩ := v
        by_cases e : (u1, u2, u3) = (v1, v2, v3)
        · cases e
          simp only [decide_true, Bool.and_true, Bool.not_true, br_false]
          exact rec (by simp) _ rfl
        · have : (Bool.and (decide (u1 = v1)) (Bool.and (decide (u2 = v2)) (Bool.and (decide (u3 = v3)) true))) = false := by
            cases hx : (Bool.and (decide (u1 = v1)) (Bool.and (decide (u2 = v2)) (Bool.and (decide (u3 = v3)) true))) with
            | false => rfl
            | true =>
              exfalso
              have hx : (decide (u1 = v1) && (decide (u2 = v2) && (decide (u3 = v3) && true))) = true := hx
              simp only [Bool.and_eq_true, decide_eq_true_eq] at hx
              exact e (by rw [hx.1, hx.2.1, hx.2.2.1])
          rw [this, Bool.not_false, br_true]
          exact Tot.some (no (decide_eq_false fun h => e (by simpa using h)) _ ⟨_, rfl⟩))
      N 0 ((a, b, 0, ()), ()) (by omega) rfl (by omega)
    obtain ⟨o, e, ho⟩ := loop
    unfold G_ref06_Same S_ref06_Same
    simp only [e, Option.bind_some]
    rw [decide_eq_true (show ((a.length : Nat) : Int) = ((b.length : Nat) : Int) by omega), Bool.not_true, br_false]
    rw [Nat.sub_zero] at ho
    split at ho
    · rename_i hy
      obtain ⟨y, rfl⟩ := ho
      have : a = b := List.ext_getElem? fun i => by
        by_cases h : i < a.length
        · exact of_decide_eq_true (allN_iff.1 hy i (by omega) (by omega))
        · rw [List.getElem?_eq_none (by omega), List.getElem?_eq_none (by omega)]
      rw [decide_eq_true this]; rfl
    · rename_i hy
      obtain ⟨y, rfl⟩ := ho
      have : ¬ a = b := fun e => hy (allN_iff.2 fun j _ _ => by rw [e]; exact decide_eq_true rfl)
      rw [decide_eq_false this]; rfl
  · unfold G_ref06_Same S_ref06_Same
    dsimp only
    rw [decide_eq_false (show ¬ ((a.length : Nat) : Int) = ((b.length : Nat) : Int) by omega), Bool.not_false, br_true, decide_eq_false (fun e => hl (by rw [e]))]
theorem sameL_is (N : Nat) (hN : Big N) {a b : Labels} (ha : a.length ≤ 1000000) : G_ref05_Same N (a, b, ()) = some (decide (a = b), ()) := by
  unfold Big at hN
  by_cases hl : a.length = b.length
  · have loop := Tot.all (f := g_ref05_Same_4 N) (Inv := fun i x => x = ((a, b, (i : Int), ()), ())) (Y := fun o => ∃ y, o = .inl y) (No := fun o => ∃ y, o = .inr ((false, ()), y)) a.length (fun i => decide (a[i]? = b[i]?))
      (fun m x hx => by
        subst hx
        rw [g_ref05_Same_4_succ]
        unfold s_ref05_Same_4
        exact Tot.brD (fun h => absurd h (by dsimp only; omega)) fun _ => Tot.some ⟨_, rfl⟩)
      (fun m i x Q hx hi rec no => by
        subst hx
        rw [g_ref05_Same_4_succ]
        unfold s_ref05_Same_4
        have hi' : i < b.length := by omega
        have d0 : decide ((0 : Int) ≤ (i : Int)) = true := decide_eq_true (by omega)
        have d1 : decide ((i : Int) < ((a.length : Nat) : Int)) = true := decide_eq_true (by omega)
        simp only [d0, d1, br_true, Int.toNat_natCast, at_lt hi, at_lt hi', Option.bind_some, wi (i := i) (by omega)]
        simp only [at_lt hi, at_lt hi'] at rec no
        generalize a[i] = u at *
        generalize b[i] = v at *
        obtain ⟨u1, u2⟩ := u
        obtain ⟨v1, v2⟩ := v
        by_cases e : (u1, u2) = (v1, v2)
        · cases e
          simp only [decide_true, Bool.and_true, Bool.not_true, br_false]
          exact rec (by simp) _ rfl
        · have : (Bool.and (decide (u1 = v1)) (Bool.and (decide (u2 = v2)) true)) = false := by
            cases hx : (Bool.and (decide (u1 = v1)) (Bool.and (decide (u2 = v2)) true)) with
            | false => rfl
            | true =>
              exfalso
              have hx : (decide (u1 = v1) && (decide (u2 = v2) && true)) = true := hx
              simp only [Bool.and_eq_true, decide_eq_true_eq] at hx
              exact e (by rw [hx.1, hx.2.1])
          rw [this, Bool.not_false, br_true]
          exact Tot.some (no (decide_eq_false fun h => e (by simpa using h)) _ ⟨_, rfl⟩))
      N 0 ((a, b, 0, ()), ()) (by omega) rfl (by omega)
    obtain ⟨o, e, ho⟩ := loop
    unfold G_ref05_Same S_ref05_Same
    simp only [e, Option.bind_some]
    rw [decide_eq_true (show ((a.length : Nat) : Int) = ((b.length : Nat) : Int) by omega), Bool.not_true, br_false]
    rw [Nat.sub_zero] at ho
    split at ho
    · rename_i hy
      obtain ⟨y, rfl⟩ := ho
      have : a = b := List.ext_getElem? fun i => by
        by_cases h : i < a.length
        · exact of_decide_eq_true (allN_iff.1 hy i (by omega) (by omega))
        · rw [List.getElem?_eq_none (by omega), List.getElem?_eq_none (by omega)]
      rw [decide_eq_true this]; rfl
    · rename_i hy
      obtain ⟨y, rfl⟩ := ho
      have : ¬ a = b := fun e => hy (allN_iff.2 fun j _ _ => by rw [e]; exact decide_eq_true rfl)
      rw [decide_eq_false this]; rfl
  · unfold G_ref05_Same S_ref05_Same
    dsimp only
    rw [decide_eq_false (show ¬ ((a.length : Nat) : Int) = ((b.length : Nat) : Int) by omega), Bool.not_false, br_true, decide_eq_false (fun e => hl (by rw [e]))]
/-- Without a key, where the labels are sorted. -/
def dropP (key : ByteArray) : Labels → Labels
  | [] => []
  | y :: l => if bl y.1 key = true then y :: dropP key l else if y.1 = key then l else y :: l
def noKey (key : ByteArray) (y : ByteArray × ByteArray) : Bool := !decide (y.1 = key)
theorem dropP_filter (key : ByteArray) : ∀ {l : Labels}, l.Pairwise (fun a b => bl a.1 b.1 = true) → dropP key l = l.filter (noKey key)
  | [], _ => rfl
  | y :: l, h => by
    obtain ⟨h1, h2⟩ := List.pairwise_cons.1 h
    have keep : (bl key y.1 = true ∨ key = y.1) → l.filter (noKey key) = l := fun hk => List.filter_eq_self.2 fun z hz => by
      have hb := h1 z hz
      have : bl key z.1 = true := by
        rcases hk with hk | hk
        · exact bl_trans hk hb
        · rw [hk]; exact hb
      unfold noKey
      rw [decide_eq_false (bl_ne this).symm]; rfl
    simp only [dropP]
    by_cases c : bl y.1 key = true
    · rw [if_pos c, dropP_filter key h2, List.filter_cons, if_pos (by unfold noKey; rw [decide_eq_false (bl_ne c)]; rfl)]
    · rw [if_neg c]
      by_cases e : y.1 = key
      · rw [if_pos e, List.filter_cons, if_neg (by unfold noKey; rw [decide_eq_true e]; decide), keep (.inr e.symm)]
      · rw [if_neg e, List.filter_cons, if_pos (by unfold noKey; rw [decide_eq_false e]; rfl), keep (.inl (bl_tri (by simpa using c) e))]
theorem sortedL {N : Nat} {l : Labels} (h : rightL N l = true) : l.Pairwise (fun a b => bl a.1 b.1 = true) := by
  unfold rightL at h
  rw [Bool.and_eq_true, allN_iff] at h
  have h := h.2
  have lt : ∀ d i (hd : i + d + 1 < l.length), bl (l[i]'(by omega)).1 (l[i + d + 1]).1 = true := by
    have one : ∀ i (hd : i + 1 < l.length), bl (l[i]'(by omega)).1 (l[i + 1]).1 = true := fun i hd => by
      have := h (i + 1) (by omega) (by omega)
      unfold okLab at this
      rw [at_lt hd] at this
      have hp : l[i + 1 - 1]? = some (l[i]'(by omega)) := at_lt (l := l) (i := i) (by omega)
      rw [hp] at this
      simp only [Bool.and_eq_true, Bool.or_eq_true, beq_iff_eq] at this
      rcases this.2 with h0 | h0
      · omega
      · exact h0
    intro d
    induction d with
    | zero => intro i hd; exact one i hd
    | succ d ih => intro i hd; exact bl_trans (ih i (by omega)) (one (i + d + 1) (by omega))
  rw [List.pairwise_iff_getElem]
  intro i j hi hj hij
  have := lt (j - i - 1) i (by omega)
  simp only [show i + (j - i - 1) + 1 = j by omega] at this
  exact this
theorem labels_join_is (N : Nat) {l : Labels} (hl : l.length ≤ 1000000) {i j : Nat} (hi : i ≤ l.length) (hj : j ≤ l.length) : G_labels_join N (l, (i : Int), (j : Int), [], ()) = some (l.take i ++ l.drop j, ()) := by
  unfold G_labels_join S_labels_join
  have d0 : decide ((0 : Int) ≤ (i : Int)) = true := decide_eq_true (by omega)
  have d1 : decide ((i : Int) ≤ ((l.length : Nat) : Int)) = true := decide_eq_true (by omega)
  have d2 : decide ((0 : Int) ≤ (j : Int)) = true := decide_eq_true (by omega)
  have d3 : decide ((j : Int) ≤ ((l.length : Nat) : Int)) = true := decide_eq_true (by omega)
  have b1 : Nat.ble (l.take i).length maxElems = true := Nat.ble_eq_true_of_le (by rw [List.length_take]; unfold maxElems; omega)
  have b2 : Nat.ble ((l.take i).length + (l.drop j).length) maxElems = true := Nat.ble_eq_true_of_le (by rw [List.length_take, List.length_drop]; unfold maxElems; omega)
  simp only [d0, d1, d2, d3, Bool.and_true, br_true, Int.toNat_natCast, List.length_nil, Nat.add_zero, b1, List.append_nil, b2]
theorem labels_Drop_is (N : Nat) (hN : Big N) {l : Labels} (hl : l.length ≤ 1000000) (key : ByteArray) : G_labels_Drop N (l, key, ()) = some (dropP key l, ()) := by
  unfold Big at hN
  have loop : ∀ m (i : Nat) x, i ≤ l.length → (x = ((l, key, l, (l.length : Int), (i : Int), ()), ()) ∧ dropP key l = l.take i ++ dropP key (l.drop i)) → l.length - i < m →
      Tot (g_labels_at_2 N m x) fun o => (o = .inl ((l, ()), ()) ∧ dropP key l = l) ∨ (∃ j : Nat, j < l.length ∧ ((o = .inr (((j : Int), true, ()), ()) ∧ dropP key l = l.take j ++ l.drop (j + 1)) ∨ (o = .inr (((j : Int), false, ()), ()) ∧ dropP key l = l))) := by
    refine Tot.range l.length fun m i x hx hi rec => ?_
    obtain ⟨rfl, hd⟩ := hx
    rw [g_labels_at_2_succ]
    unfold s_labels_at_2
    by_cases hlt : i < l.length
    · have d0 : decide ((0 : Int) ≤ (i : Int)) = true := decide_eq_true (by omega)
      have d1 : decide ((i : Int) < ((l.length : Nat) : Int)) = true := decide_eq_true (by omega)
      simp only [d0, d1, br_true, Int.toNat_natCast, at_lt hlt, Option.bind_some, wi (i := i) (by omega)]
      rw [List.drop_eq_getElem_cons hlt] at hd
      simp only [dropP] at hd
      cases c : bl l[i].1 key
      · rw [c, if_neg (by decide)] at hd
        by_cases e : l[i].1 = key
        · rw [if_pos e] at hd
          rw [decide_eq_true e]
          exact Tot.some (.inr ⟨i, hlt, .inl ⟨rfl, hd⟩⟩)
        · rw [if_neg e, ← List.drop_eq_getElem_cons hlt, List.take_append_drop] at hd
          rw [decide_eq_false e]
          exact Tot.some (.inr ⟨i, hlt, .inr ⟨rfl, hd⟩⟩)
      · rw [c, if_pos rfl] at hd
        refine rec (i + 1) _ (by omega) (by omega) ⟨rfl, ?_⟩
        rw [hd, List.take_add_one, at_lt hlt, List.append_assoc]
        rfl
    · have d1 : decide ((i : Int) < ((l.length : Nat) : Int)) = false := decide_eq_false (by omega)
      simp only [d1, br_false]
      rw [List.drop_eq_nil_of_le (by omega), List.take_of_length_le (by omega)] at hd
      exact Tot.some (.inl ⟨rfl, by rw [hd]; simp [dropP]⟩)
  obtain ⟨o, e, ho⟩ := loop N 0 _ (by omega) ⟨rfl, rfl⟩ (by omega)
  have e : g_labels_at_2 N N ((l, key, l, (l.length : Int), 0, ()), ()) = _ := e
  have j0 := labels_join_is N hl (i := 0) (j := 0) (by omega) (by omega)
  have j0 : G_labels_join N (l, 0, 0, [], ()) = some (l, ()) := by simpa using j0
  unfold G_labels_Drop S_labels_Drop G_labels_at S_labels_at
  rcases ho with ⟨rfl, hd⟩ | ⟨j, hj, ⟨rfl, hd⟩ | ⟨rfl, hd⟩⟩
  · simp only [e, Option.bind_some, Sum.elim_inl, Bool.not_false, br_true, j0, hd]
  · have w1 : IntKind.i64.wrap ((j : Int) + 1) = ((j + 1 : Nat) : Int) := wi (by omega)
    simp only [e, Option.bind_some, Sum.elim_inr, Bool.not_true, br_false, w1, labels_join_is N hl (i := j) (j := j + 1) (by omega) (by omega), hd]
  · simp only [e, Option.bind_some, Sum.elim_inr, Bool.not_false, br_true, j0, hd]
theorem ref05_Drop_is (N : Nat) (hN : Big N) {l : Labels} (hl : l.length ≤ 1000000) (key : ByteArray) : G_ref05_Drop N (l, key, ()) = some (l.filter (noKey key), ()) := by
  unfold Big at hN
  obtain ⟨o, e1, y, rfl⟩ := Tot.filt (f := g_ref05_Drop_3 N) (l := l) (p := noKey key) (mk := fun i out => ((l, key, (i : Int), ()), out, ())) (Y := fun out o => ∃ y, o = .inl (y, out, ()))
    (fun m => by
      rw [g_ref05_Drop_3_succ]
      unfold s_ref05_Drop_3
      exact Tot.brD (fun h => absurd h (by dsimp only; omega)) fun _ => Tot.some ⟨_, rfl⟩)
    (fun m i Q hi yes no => by
      rw [g_ref05_Drop_3_succ]
      unfold s_ref05_Drop_3
      have d0 : decide ((0 : Int) ≤ (i : Int)) = true := decide_eq_true (by omega)
      have d1 : decide ((i : Int) < ((l.length : Nat) : Int)) = true := decide_eq_true (by omega)
      simp only [d0, d1, br_true, Int.toNat_natCast, at_lt hi, Option.bind_some, wi (i := i) (by omega), ble_filt hl]
      have hp : noKey key l[i] = !decide (l[i].1 = key) := rfl
      cases h1 : decide (l[i].1 = key) <;> rw [h1] at hp
      · exact yes hp
      · exact no hp)
    N (by omega)
  have e1 : g_ref05_Drop_3 N N ((l, key, 0, ()), [], ()) = _ := e1
  unfold G_ref05_Drop S_ref05_Drop
  simp only [e1, Option.bind_some, Sum.elim_inl]

def zone : ByteArray := ByteArray.mk (List.toArray [122, 111, 110, 101])
/-- Are two groups alike? -/
def alikeB (x y : Grp) : Bool := decide (x.2.2.2.1.2.2.1 = y.2.2.2.1.2.2.1) && (decide (x.2.2.2.1.2.2.2.2.1 = y.2.2.2.1.2.2.2.2.1) && decide (x.2.2.2.1.2.2.2.1.filter (noKey zone) = y.2.2.2.1.2.2.2.1.filter (noKey zone)))
theorem alike_comm (x y : Grp) : alikeB x y = alikeB y x := by
  unfold alikeB
  rw [show decide (x.2.2.2.1.2.2.1 = y.2.2.2.1.2.2.1) = decide (y.2.2.2.1.2.2.1 = x.2.2.2.1.2.2.1) from by rw [decide_eq_decide]; exact eq_comm,
    show decide (x.2.2.2.1.2.2.2.2.1 = y.2.2.2.1.2.2.2.2.1) = decide (y.2.2.2.1.2.2.2.2.1 = x.2.2.2.1.2.2.2.2.1) from by rw [decide_eq_decide]; exact eq_comm,
    show decide (x.2.2.2.1.2.2.2.1.filter (noKey zone) = y.2.2.2.1.2.2.2.1.filter (noKey zone)) = decide (y.2.2.2.1.2.2.2.1.filter (noKey zone) = x.2.2.2.1.2.2.2.1.filter (noKey zone)) from by rw [decide_eq_decide]; exact eq_comm]
theorem has_eq (a b : Res) : (Bool.and (decide (a.1 = b.1)) (Bool.and (decide (a.2.1 = b.2.1)) (Bool.and (decide (a.2.2.1 = b.2.2.1)) (Bool.and (decide (a.2.2.2.1 = b.2.2.2.1)) (Bool.and (decide (a.2.2.2.2 = b.2.2.2.2)) true))))) = decide (a = b) := by
  obtain ⟨a1, a2, a3, a4, a5⟩ := a
  obtain ⟨b1, b2, b3, b4, b5⟩ := b
  rw [Bool.eq_iff_iff]
  show (decide (a1 = b1) && (decide (a2 = b2) && (decide (a3 = b3) && (decide (a4 = b4) && (decide (a5 = b5) && true))))) = true ↔ _
  simp only [Bool.and_eq_true, decide_eq_true_eq, Prod.mk.injEq, and_true]
/-- Groups of which the labels are sorted, and few. -/
def okA (g : Grp) : Prop := g.2.2.2.1.2.2.2.1.Pairwise (fun a b => bl a.1 b.1 = true) ∧ g.2.2.2.1.2.2.2.1.length ≤ 1000 ∧ g.2.2.2.1.2.2.2.2.1.length ≤ 1000
theorem similar_Alike_is (N : Nat) (hN : Big N) {x y : Grp} (hx : okA x) (hy : okA y) : G_similar_Alike N (x, y, ()) = some (alikeB x y, ()) := by
  obtain ⟨x1, x2, x3⟩ := hx
  obtain ⟨y1, y2, y3⟩ := hy
  unfold G_similar_Alike S_similar_Alike alikeB
  simp only [has_eq]
  have dx := labels_Drop_is N hN (l := x.2.2.2.1.2.2.2.1) (by omega) zone
  have dy := labels_Drop_is N hN (l := y.2.2.2.1.2.2.2.1) (by omega) zone
  rw [dropP_filter zone x1] at dx
  rw [dropP_filter zone y1] at dy
  have hf := List.length_filter_le (noKey zone) x.2.2.2.1.2.2.2.1
  have r1 := rowT_is N hN (a := x.2.2.2.1.2.2.2.2.1) (b := y.2.2.2.1.2.2.2.2.1) (by omega)
  have r2 := rowL_is N hN (a := x.2.2.2.1.2.2.2.1.filter (noKey zone)) (b := y.2.2.2.1.2.2.2.1.filter (noKey zone)) (by omega)
  unfold zone at dx dy
  simp only [r1, dx, dy, Option.bind_some]
  unfold zone at r2
  simp only [r2, Option.bind_some]
  cases decide (x.2.2.2.1.2.2.1 = y.2.2.2.1.2.2.1) <;> cases decide (x.2.2.2.1.2.2.2.2.1 = y.2.2.2.1.2.2.2.2.1) <;> rfl
theorem ref22_Alike_is (N : Nat) (hN : Big N) {x y : Grp} (hx : okA x) (hy : okA y) : G_ref22_Alike N (x, y, ()) = some (alikeB x y, ()) := by
  obtain ⟨x1, x2, x3⟩ := hx
  obtain ⟨y1, y2, y3⟩ := hy
  unfold G_ref22_Alike S_ref22_Alike alikeB
  simp only [has_eq]
  have dx := ref05_Drop_is N hN (l := x.2.2.2.1.2.2.2.1) (by omega) zone
  have dy := ref05_Drop_is N hN (l := y.2.2.2.1.2.2.2.1) (by omega) zone
  have hf := List.length_filter_le (noKey zone) x.2.2.2.1.2.2.2.1
  have r1 := sameT_is N hN (a := x.2.2.2.1.2.2.2.2.1) (b := y.2.2.2.1.2.2.2.2.1) (by omega)
  have r2 := sameL_is N hN (a := x.2.2.2.1.2.2.2.1.filter (noKey zone)) (b := y.2.2.2.1.2.2.2.1.filter (noKey zone)) (by omega)
  unfold zone at dx dy
  simp only [r1, dx, dy, Option.bind_some]
  unfold zone at r2
  simp only [r2, Option.bind_some]
  cases decide (x.2.2.2.1.2.2.1 = y.2.2.2.1.2.2.1) <;> cases decide (x.2.2.2.1.2.2.2.2.1 = y.2.2.2.1.2.2.2.2.1) <;> rfl
theorem Ints_same (N : Nat) (hN : Big N) {l : List Int} (hl : l.length ≤ 1000000) : G_ref02_Ints N (l, l, ()) = some (true, ()) := by
  unfold Big at hN
  have loop : ∀ m (i : Nat) x, i ≤ l.length → x = ((l, l, (i : Int), ()), ()) → l.length - i < m → Tot (g_ref02_Ints_4 N m x) fun o => ∃ y, o = .inl y := by
    refine Tot.range l.length fun m i x ha hi rec => ?_
    subst ha
    rw [g_ref02_Ints_4_succ]
    unfold s_ref02_Ints_4
    by_cases hlt : i < l.length
    · have d0 : decide ((0 : Int) ≤ (i : Int)) = true := decide_eq_true (by omega)
      have d1 : decide ((i : Int) < ((l.length : Nat) : Int)) = true := decide_eq_true (by omega)
      simp only [d0, d1, br_true, Int.toNat_natCast, at_lt hlt, Option.bind_some, wi (i := i) (by omega), decide_true, Bool.not_true, br_false]
      exact rec (i + 1) _ (by omega) (by omega) rfl
    · have d1 : decide ((i : Int) < ((l.length : Nat) : Int)) = false := decide_eq_false (by omega)
      simp only [d1, br_false]
      exact Tot.some ⟨_, rfl⟩
  obtain ⟨o, e, y, rfl⟩ := loop N 0 ((l, l, 0, ()), ()) (by omega) rfl (by omega)
  unfold G_ref02_Ints S_ref02_Ints
  simp only [decide_true, Bool.not_true, br_false, e, Option.bind_some, Sum.elim_inl]
end Go.Proofs.Ytfifgcaielmbiaa.SlA
