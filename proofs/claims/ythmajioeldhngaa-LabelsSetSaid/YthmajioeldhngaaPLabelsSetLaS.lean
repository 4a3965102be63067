/- LabelsSet: what the law computes is true. -/
import Derived.Test.YthmajioeldhngaaLsePLaS
namespace Go.Proofs.Ythmajioeldhngaa.LaS
open Go Go.VI
set_option linter.unusedVariables false
set_option linter.unusedSimpArgs false
set_option maxRecDepth 100000

@[reducible] def tyLab : Ty := .agg (.pair .str .str)
theorem reach_le : reachBytes ≤ 140737488355328 := by decide
theorem okL_of {l : Labels} (h : Ty.wf (.slice tyLab) l) : okL l := ⟨Nat.le_trans h.1 reach_le, fun x hx => ⟨Nat.le_trans (h.2 x hx).1 reach_le, Nat.le_trans (h.2 x hx).2 reach_le⟩⟩
theorem known_is (m : Nat) : G_law05_known (m + 300) () = some (true, ()) := by kernel_rfl
theorem loop10 (N : Nat) (hN : Big N) (l own d : Labels) (ok : Bool) : ∀ {c : Labels}, c.length ≤ 1000 → ∃ c', g_law05_LabelsSet_10 N N ((l, ok, 0, ()), own, c, d, ()) = some (.inl ((l, ok, ()), own, c', d, ())) := by
  intro c hc
  unfold Big at hN
  have loop : ∀ m (i : Nat) x, i ≤ c.length → (∃ c' : Labels, x = ((l, ok, (i : Int), ()), own, c', d, ()) ∧ c'.length = c.length) → c.length - i < m → Tot (g_law05_LabelsSet_10 N m x) fun o => ∃ c', o = .inl ((l, ok, ()), own, c', d, ()) := by
    refine Tot.range c.length fun m i x hx hi rec => ?_
    obtain ⟨c', rfl, hl⟩ := hx
    rw [g_law05_LabelsSet_10_succ]
    unfold s_law05_LabelsSet_10
    by_cases hlt : i < c'.length
    · have d0 : (decide ((0 : Int) ≤ (i : Int))).and (decide ((i : Int) < ((c'.length : Nat) : Int))) = true := by
        rw [decide_eq_true (show (0 : Int) ≤ (i : Int) by omega), decide_eq_true (show (i : Int) < ((c'.length : Nat) : Int) by omega)]; rfl
      have d1 : decide ((i : Int) < ((c'.length : Nat) : Int)) = true := decide_eq_true (by omega)
      simp only [d1, br_true, d0, Int.toNat_natCast, at_lt hlt, Option.bind_some, wi (i := i) (by omega)]
      exact rec (i + 1) _ (by omega) (by omega) ⟨_, rfl, by rw [List.length_set]; exact hl⟩
    · have d1 : decide ((i : Int) < ((c'.length : Nat) : Int)) = false := decide_eq_false (by omega)
      simp only [d1, br_false]
      exact Tot.some ⟨c', rfl⟩
  obtain ⟨o, e, c', rfl⟩ := loop N 0 _ (by omega) ⟨c, rfl, rfl⟩ (by omega)
  exact ⟨c', e⟩
theorem loop14 (N : Nat) (hN : Big N) (l own : Labels) (ok : Bool) : ∀ {d : Labels}, d.length ≤ 1000 → ∃ d', g_law05_LabelsSet_14 N N ((l, ok, 0, ()), own, d, ()) = some (.inl ((l, ok, ()), own, d', ())) := by
  intro d hd
  unfold Big at hN
  have loop : ∀ m (i : Nat) x, i ≤ d.length → (∃ d' : Labels, x = ((l, ok, (i : Int), ()), own, d', ()) ∧ d'.length = d.length) → d.length - i < m → Tot (g_law05_LabelsSet_14 N m x) fun o => ∃ d', o = .inl ((l, ok, ()), own, d', ()) := by
    refine Tot.range d.length fun m i x hx hi rec => ?_
    obtain ⟨d', rfl, hl⟩ := hx
    rw [g_law05_LabelsSet_14_succ]
    unfold s_law05_LabelsSet_14
    by_cases hlt : i < d'.length
    · have d0 : (decide ((0 : Int) ≤ (i : Int))).and (decide ((i : Int) < ((d'.length : Nat) : Int))) = true := by
        rw [decide_eq_true (show (0 : Int) ≤ (i : Int) by omega), decide_eq_true (show (i : Int) < ((d'.length : Nat) : Int) by omega)]; rfl
      have d1 : decide ((i : Int) < ((d'.length : Nat) : Int)) = true := decide_eq_true (by omega)
      simp only [d1, br_true, d0, Int.toNat_natCast, at_lt hlt, Option.bind_some, wi (i := i) (by omega)]
      exact rec (i + 1) _ (by omega) (by omega) ⟨_, rfl, by rw [List.length_set]; exact hl⟩
    · have d1 : decide ((i : Int) < ((d'.length : Nat) : Int)) = false := decide_eq_false (by omega)
      simp only [d1, br_false]
      exact Tot.some ⟨d', rfl⟩
  obtain ⟨o, e, d', rfl⟩ := loop N 0 _ (by omega) ⟨d, rfl, rfl⟩ (by omega)
  exact ⟨d', e⟩
theorem bleM {n : Nat} (h : n ≤ 1000000) : Nat.ble n maxElems = true := Nat.ble_eq_true_of_le (by unfold maxElems; omega)
theorem bleN {m n : Nat} (h : m ≤ n) : Nat.ble m n = true := Nat.ble_eq_true_of_le h
theorem pureLabelsSet (x : Labels × ByteArray × ByteArray × Unit) (hw : Ty.wf (.slice tyLab) x.1 ∧ Ty.wf .str x.2.1 ∧ Ty.wf .str x.2.2.1 ∧ True) : ∃ N, G_law05_LabelsSet N x = some (true, ()) := by
  obtain ⟨l, k, v, ⟨⟩⟩ := x
  have hl : okL l := okL_of hw.1
  have hk : okS k := Nat.le_trans hw.2.1 reach_le
  clear hw
  refine ⟨281474976710656 + 300, ?_⟩
  have hkn := known_is 281474976710656
  have hN := big
  generalize 281474976710656 + 300 = N at *
  obtain ⟨⟨b1, ⟨⟩⟩, e1, k1⟩ := ref05_Light_tel N hN hl
  unfold G_law05_LabelsSet S_law05_LabelsSet
  simp only [e1, hkn, Option.bind_some]
  cases b1
  · rfl
  have hl40 : l.length ≤ 40 := (k1 rfl).1
  simp only [Bool.not_true, br_false]
  by_cases hz : (300 : Int) < ((k.size : Nat) : Int)
  · rw [decide_eq_true hz]; rfl
  by_cases hz2 : (300 : Int) < ((v.size : Nat) : Int)
  · rw [decide_eq_false hz, decide_eq_true hz2]; rfl
  rw [decide_eq_false hz, decide_eq_false hz2]
  simp only [br_false, ref05_Right_is N hN hl, Option.bind_some]
  cases c1 : rightL N l
  · rfl
  have hs := sortL_of c1
  obtain ⟨o, ea, i, hi, hall, ho⟩ := labels_at_is N hN hl.1 k
  have hxs : ∀ x ∈ l, okS x.1 := fun x hx => (hl.2 x hx).1
  simp only [Bool.not_true, br_false, List.nil_append, Nat.zero_add, bleM (n := l.length) (by omega), br_true, labels_Get_is N hN hl.1 hs, ref05_Get_is N hN hl.1, ea, Option.bind_some, decide_true, bEq_beq, beq_self_eq_true, List.drop_zero, Nat.sub_zero]
  have hds : ∀ j, j ≤ l.length → (l.drop j).take (l.length - j) = l.drop j := fun j hj => List.take_of_length_le (by rw [List.length_drop]; exact Nat.le_refl _)
  -- what comes of all
  have fin : ∀ (j : Nat), AtIs l k i j → (l.take i ++ [(k, v)] ++ l.drop j).length ≤ 1000 ∧ G_ref05_Set N (l, k, v, ()) = some (l.take i ++ [(k, v)] ++ l.drop j, ()) ∧ G_ref05_Drop N (l, k, ()) = some (cutL l i j, ()) ∧ (cutL l i j).length ≤ 1000 := fun j h => by
    have hj := h.hj
    have hij := h.hi
    refine ⟨?_, ref05_Set_is N hN (by omega) hxs hk h, by rw [ref05_Drop_is N hN (by omega), filt_at h], ?_⟩
    · rw [List.length_append, List.length_append, List.length_take, List.length_drop]
      simp only [List.length_cons, List.length_nil]; omega
    · unfold cutL; rw [List.length_append, List.length_take, List.length_drop]; omega
  have last : ∀ (c d : Labels), c.length ≤ 1000 → d.length ≤ 1000 → (Option.bind (g_law05_LabelsSet_10 N N ((l, true, 0, ()), l, c, d, ())) (fun v10 => (Sum.elim (fun v11 => (Option.bind (g_law05_LabelsSet_14 N N ((v11.1.1, v11.1.2.1, 0, ()), v11.2.1, v11.2.2.2.1, ())) (fun v12 => (Sum.elim (fun v13 => (VI.br v13.1.2.1 (Option.bind (G_ref05_Same N (v13.2.1, v13.1.1, ())) (fun v14 => (VI.br v14.1 (some (true, ())) (some (false, ()))))) (some (false, ())))) (fun v13 => none) v12)))) (fun v11 => none) v10))) = some (true, ()) := by
    intro c d hc hd
    obtain ⟨c', ec⟩ := loop10 N hN l l d true hc
    obtain ⟨d', ed⟩ := loop14 N hN l l true hd
    simp only [ec, Option.bind_some, Sum.elim_inl, ed, br_true, ref05_Same_self N hN (l := l) (by omega)]
  have d0 : decide ((0 : Int) ≤ (i : Int)) = true := decide_eq_true (by omega)
  have z0 : ∀ n, Nat.ble 0 n = true := fun n => rfl
  rcases ho with ⟨rfl, rfl⟩ | ⟨hlt, hb, rfl⟩
  · -- at the end
    have hat := atIs_end (k := k) (by rw [List.take_length] at hall; exact hall)
    obtain ⟨q1, q2, q3, q4⟩ := fin _ hat
    have hcut : cutL l l.length l.length = l := by unfold cutL; simp
    rw [hcut] at q3 q4
    have hd0 := hds l.length (Nat.le_refl _)
    rw [List.take_length, List.drop_length, List.append_nil] at q1 q2
    simp only [d0, z0, br_true, br_false, Bool.not_false, Int.toNat_natCast, Int.toNat_zero, bleN (Nat.le_refl l.length), Bool.and_self, Nat.sub_self, List.take_zero, List.drop_length, List.nil_append, List.append_nil, List.take_length, List.length_nil, Nat.zero_add, Nat.add_zero, bleM (n := l.length) (by omega), bleM (n := l.length + 1) (by omega), bleM (n := (l ++ [(k, v)]).length) (by omega), List.drop_zero, Nat.sub_zero,
      q2, q3, Option.bind_some, ref05_Same_self N hN (l := l ++ [(k, v)]) (by omega), ref05_Same_self N hN (l := l) (by omega)]
    exact last _ _ q1 q4
  · have hat := atIs_of hs hall hlt hb
    obtain ⟨q1, q2, q3, q4⟩ := fin _ hat
    have lt : (l.take i).length ≤ 40 := by rw [List.length_take]; omega
    have ld : ∀ j, (l.drop j).length ≤ 40 := fun j => by rw [List.length_drop]; omega
    have lc : (l.take i ++ [(k, v)]).length ≤ 41 := by rw [List.length_append]; simp only [List.length_cons, List.length_nil]; omega
    have d1 : decide ((0 : Int) ≤ ((i + 1 : Nat) : Int)) = true := decide_eq_true (by omega)
    by_cases e : l[i].1 = k
    · rw [if_pos e] at q1 q2 q3 q4
      have q3 : G_ref05_Drop N (l, k, ()) = some (l.take i ++ l.drop (i + 1), ()) := q3
      simp only [decide_eq_true e, d0, d1, z0, br_true, br_false, Bool.not_true, Int.toNat_natCast, wi (i := i) (show i < 4611686018427387904 by omega), bleN (Nat.le_refl l.length), bleN (show i ≤ l.length by omega), bleN (show i + 1 ≤ l.length by omega), Bool.and_self, hds (i + 1) (by omega), List.append_nil, Nat.add_zero,
        bleM (n := (l.take i).length) (by omega), bleM (n := (l.take i).length + 1) (by omega), bleM (n := (l.take i ++ [(k, v)]).length + (l.drop (i + 1)).length) (by have := ld (i + 1); omega), bleM (n := (l.take i).length + (l.drop (i + 1)).length) (by have := ld (i + 1); omega),
        q2, q3, Option.bind_some, ref05_Same_self N hN (l := l.take i ++ [(k, v)] ++ l.drop (i + 1)) (by omega), ref05_Same_self N hN (l := l.take i ++ l.drop (i + 1)) (Nat.le_trans q4 (by omega))]
      exact last _ _ q1 q4
    · rw [if_neg e] at q1 q2 q3 q4
      have hcut : cutL l i i = l := by unfold cutL; rw [List.take_append_drop]
      rw [hcut] at q3 q4
      simp only [decide_eq_false e, d0, d1, z0, br_true, br_false, Bool.not_false, Int.toNat_natCast, Int.toNat_zero, bleN (Nat.le_refl l.length), bleN (show i ≤ l.length by omega), Bool.and_self, hds i (by omega), List.append_nil, Nat.add_zero, Nat.sub_self, List.take_zero, List.nil_append, List.length_nil, Nat.zero_add, List.drop_zero, Nat.sub_zero, List.take_length,
        bleM (n := 0) (by omega), bleM (n := l.length) (by omega), bleM (n := (l.take i).length) (by omega), bleM (n := (l.take i).length + 1) (by omega), bleM (n := (l.take i ++ [(k, v)]).length + (l.drop i).length) (by have := ld i; omega),
        q2, q3, Option.bind_some, ref05_Same_self N hN (l := l.take i ++ [(k, v)] ++ l.drop i) (by omega), ref05_Same_self N hN (l := l) (by omega)]
      exact last _ _ q1 q4
end Go.Proofs.Ythmajioeldhngaa.LaS
