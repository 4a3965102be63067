/- Events that can be: the document's word. -/
import Derived.Test.YthmajioeldhngaaTrcUTr
namespace Go.VI
theorem mget_not {β : Type} {k : ByteArray} : ∀ {es : List (ByteArray × β)}, k ∉ es.map (·.1) → mget Ty.str es k = none
  | [], _ => rfl
  | e :: es, h => by
    simp only [List.map_cons, List.mem_cons, not_or] at h
    show VI.br (decide (k = e.1)) _ _ = none
    rw [decide_eq_false h.1]
    exact mget_not h.2
theorem mdel_keys {β : Type} (k : ByteArray) : ∀ es : List (ByteArray × β), ((mdel Ty.str es k).map (·.1)).Sublist (es.map (·.1))
  | [] => List.Sublist.refl _
  | e :: es => by
    show ((VI.br (decide (k = e.1)) es (e :: mdel Ty.str es k)).map (·.1)).Sublist (e.1 :: es.map (·.1))
    by_cases h : k = e.1
    · rw [decide_eq_true h]; exact List.sublist_cons_self _ _
    · rw [decide_eq_false h]
      exact (mdel_keys k es).cons_cons e.1
theorem mget_mdel {β : Type} {k : ByteArray} : ∀ {es : List (ByteArray × β)}, (es.map (·.1)).Nodup → ∀ k', mget Ty.str (mdel Ty.str es k) k' = if k' = k then none else mget Ty.str es k'
  | [], _, k' => by split <;> rfl
  | e :: es, hn, k' => by
    rw [List.map_cons, List.nodup_cons] at hn
    show mget Ty.str (VI.br (decide (k = e.1)) es (e :: mdel Ty.str es k)) k' = _
    by_cases h : k = e.1
    · rw [decide_eq_true h]
      show mget Ty.str es k' = if k' = k then none else VI.br (decide (k' = e.1)) (some e.2) (mget Ty.str es k')
      by_cases h' : k' = k
      · rw [if_pos h']
        refine mget_not ?_
        rw [h', h]; exact hn.1
      · rw [if_neg h', decide_eq_false (by rw [← h]; exact h')]; rfl
    · rw [decide_eq_false h]
      show VI.br (decide (k' = e.1)) (some e.2) (mget Ty.str (mdel Ty.str es k) k') = if k' = k then none else VI.br (decide (k' = e.1)) (some e.2) (mget Ty.str es k')
      rw [mget_mdel hn.2 k']
      by_cases h' : k' = e.1
      · have hne : ¬ k' = k := fun h'' => h (h''.symm.trans h')
        rw [if_neg hne, if_neg hne, decide_eq_true h']
      · rw [decide_eq_false h']; rfl
theorem mset_keys {β : Type} (k : ByteArray) (v : β) : ∀ es : List (ByteArray × β), (mset Ty.str es k v).map (·.1) = es.map (·.1) ∨ (k ∉ es.map (·.1) ∧ (mset Ty.str es k v).map (·.1) = es.map (·.1) ++ [k])
  | [] => .inr ⟨by simp, rfl⟩
  | e :: es => by
    show (VI.br (decide (k = e.1)) ((k, v) :: es) (e :: mset Ty.str es k v)).map (·.1) = e.1 :: es.map (·.1) ∨ (k ∉ e.1 :: es.map (·.1) ∧ (VI.br (decide (k = e.1)) ((k, v) :: es) (e :: mset Ty.str es k v)).map (·.1) = e.1 :: es.map (·.1) ++ [k])
    by_cases h : k = e.1
    · rw [decide_eq_true h]
      left
      show k :: es.map (·.1) = _
      rw [h]
    · rw [decide_eq_false h]
      rcases mset_keys k v es with h1 | ⟨h1, h2⟩
      · left
        show e.1 :: (mset Ty.str es k v).map (·.1) = _
        rw [h1]
      · right
        refine ⟨by simp only [List.mem_cons, not_or]; exact ⟨h, h1⟩, ?_⟩
        show e.1 :: (mset Ty.str es k v).map (·.1) = _
        rw [h2]; rfl
theorem mset_nodup {β : Type} {k : ByteArray} {v : β} {es : List (ByteArray × β)} (h : (es.map (·.1)).Nodup) : ((mset Ty.str es k v).map (·.1)).Nodup := by
  rcases mset_keys k v es with h1 | ⟨h1, h2⟩
  · rw [h1]; exact h
  · rw [h2, List.nodup_append]
    refine ⟨h, by simp, fun a ha b hb => ?_⟩
    rw [List.mem_singleton.1 hb]
    exact fun e => h1 (e ▸ ha)
end Go.VI
namespace Go.Proofs.Ythmajioeldhngaa.Tr
open Go Go.VI
set_option linter.unusedVariables false
set_option linter.unusedSimpArgs false
set_option maxRecDepth 100000

theorem stpE_right {w : ByteArray → Bool} {s s' : Int × Mp} {e : Ev} (h : stpE w s e = some s') : rightW w e = true ∧ ¬ e.1 < s.1 ∧ s'.1 = e.1 ∧ canE s.2 e = some s'.2 := by
  unfold stpE at h
  split at h
  · rename_i h1
    split at h
    · cases h
    · rename_i h2
      refine ⟨h1, h2, ?_⟩
      cases hc : canE s.2 e with
      | none => rw [hc] at h; cases h
      | some es => rw [hc] at h; cases h; exact ⟨rfl, rfl⟩
  · cases h
theorem canE_state {es es' : Mp} {e : Ev} (hn : (es.map (·.1)).Nodup) (h : canE es e = some es') : (es'.map (·.1)).Nodup ∧ ∀ k, gt0 es' k = turnE k (gt0 es k) e := by
  unfold canE at h
  unfold turnE
  split at h
  · rename_i w1
    split at h
    · cases h
      refine ⟨mset_nodup hn, fun k => ?_⟩
      unfold gt0
      rw [mget_mset_str, if_pos w1]
      by_cases e1 : k = e.2.2.1
      · rw [if_pos e1, if_pos e1.symm]; rfl
      · rw [if_neg e1, if_neg (Ne.symm e1)]
    · cases h
  rename_i w1
  split at h
  · rename_i w2
    split at h
    · cases h
      refine ⟨mset_nodup hn, fun k => ?_⟩
      unfold gt0
      rw [mget_mset_str, if_neg w1, if_pos w2]
      by_cases e1 : k = e.2.2.1
      · rw [if_pos e1, if_pos e1.symm]; rfl
      · rw [if_neg e1, if_neg (Ne.symm e1)]
    · cases h
  rename_i w2
  split at h
  · rename_i w3
    split at h
    · cases h
      refine ⟨hn.sublist (mdel_keys _ _), fun k => ?_⟩
      unfold gt0
      rw [mget_mdel hn, if_neg w1, if_neg w2, if_pos w3]
      by_cases e1 : k = e.2.2.1
      · rw [if_pos e1, if_pos e1.symm]; rfl
      · rw [if_neg e1, if_neg (Ne.symm e1)]
    · cases h
  rename_i w3
  cases h
  refine ⟨hn, fun k => ?_⟩
  rw [if_neg w1, if_neg w2, if_neg w3]
  split <;> rfl
theorem ref32_Check_is (N : Nat) (hN : Big N) (w : ByteArray → Bool) (hw : ∀ s, okS s → G_ref01_Word N (s, ()) = some (w s, ())) {l : List Ev} (hl : l.length ≤ 1000) (he : ∀ e ∈ l, okEv e) : G_ref32_Check N (l, ()) = some (chk w (0, []) l 0, ()) := by
  have hN' := hN
  unfold Big at hN'
  have loop : ∀ m (i : Nat) x, i ≤ l.length → (x = ((l, (i : Int), ()), ()) ∧ ∃ s : Int × Mp, chk w s (l.drop i) i = chk w (0, []) l 0 ∧ (s.2.map (·.1)).Nodup ∧ (∀ k, gt0 s.2 k = stateF k (l.take i)) ∧ (i = 0 → s.1 = 0) ∧ (∀ u, 0 < i → l[i - 1]? = some u → s.1 = u.1)) → l.length - i < m →
      Tot (g_ref32_Check_2 N m x) fun o => (chk w (0, []) l 0 = -1 ∧ ∃ y, o = .inl y) ∨ ∃ y, o = .inr ((chk w (0, []) l 0, ()), y) := by
    refine Tot.range l.length fun m i x hx hi rec => ?_
    obtain ⟨rfl, s, hc, hnd, hst, h0, hp⟩ := hx
    rw [g_ref32_Check_2_succ]
    unfold s_ref32_Check_2
    by_cases hlt : i < l.length
    · have d0 : decide ((0 : Int) ≤ (i : Int)) = true := decide_eq_true (by omega)
      have d1 : decide ((i : Int) < ((l.length : Nat) : Int)) = true := decide_eq_true (by omega)
      have hst' := hst
      simp only [d0, d1, br_true, Int.toNat_natCast, at_lt hlt, Option.bind_some, wi (i := i) (by omega), ref32_Right_is N hN w hw (he _ (List.getElem_mem hlt)), ref32_state_is N hN hl i (by omega), ← hst']
      rw [List.drop_eq_getElem_cons hlt] at hc
      have hsn := fun k => stateF_snoc (k := k) hlt
      have hbd := stateF_bnd l[i].2.2.1 (l.take i)
      rw [← hst] at hbd
      have stop : stpE w s l[i] = none → ∀ y, Tot (some (Sum.inr (((i : Int), ()), y)) : Option ((Unit × Unit) ⊕ ((Int × Unit) × Unit))) fun o => (chk w (0, []) l 0 = -1 ∧ ∃ y, o = .inl y) ∨ ∃ y, o = .inr ((chk w (0, []) l 0, ()), y) := fun h y => by
        rw [chk_none h] at hc
        exact Tot.some (.inr ⟨y, by rw [← hc]⟩)
      have go : ∀ es', rightW w l[i] = true → ¬ l[i].1 < s.1 → canE s.2 l[i] = some es' → Tot (g_ref32_Check_2 N m ((l, ((i + 1 : Nat) : Int), ()), ())) fun o => (chk w (0, []) l 0 = -1 ∧ ∃ y, o = .inl y) ∨ ∃ y, o = .inr ((chk w (0, []) l 0, ()), y) := fun es' h1 h2 h3 => by
        have hs : stpE w s l[i] = some (l[i].1, es') := by unfold stpE; rw [if_pos h1, if_neg h2, h3]; rfl
        obtain ⟨q1, q2⟩ := canE_state hnd h3
        rw [chk_some hs] at hc
        refine rec (i + 1) _ (by omega) (by omega) ⟨rfl, _, hc, q1, fun k => ?_, fun h => by omega, fun u _ hu => ?_⟩
        · rw [hsn, ← hst]; exact q2 k
        · rw [Nat.add_sub_cancel, at_lt hlt] at hu
          cases hu; rfl
      have bad1 : rightW w l[i] = false → stpE w s l[i] = none := fun h => by unfold stpE; rw [if_neg (by rw [h]; decide)]
      have bad2 : l[i].1 < s.1 → stpE w s l[i] = none := fun h => by
        unfold stpE
        split
        · rfl
        · rfl
      have bad3 : canE s.2 l[i] = none → stpE w s l[i] = none := fun h => by
        unfold stpE
        split
        · split
          · rfl
          · rw [h]; rfl
        · rfl
      cases hr : rightW w l[i]
      · simp only [Bool.not_false, br_true]
        repeat' first
          | exact stop (bad1 hr) _
          | refine Tot.br (fun _ => ?_) fun _ => ?_
      simp only [Bool.not_true, br_false]
      have hnow := right_num hr
      have can : ∀ {r : Option Mp}, canE s.2 l[i] = r → canE s.2 l[i] = r := fun h => h
      -- how each word ends
      have tail : ¬ l[i].1 < s.1 → Tot (VI.br (decide (l[i].2.1 = wDown)) (VI.br (decide (0 < gt0 s.2 l[i].2.2.1)) (some (Sum.inr (((i : Int), ()), ()))) (g_ref32_Check_2 N m ((l, ((i + 1 : Nat) : Int), ()), ())))
          (VI.br (decide (l[i].2.1 = wDelete)) (VI.br (Bool.not (decide (gt0 s.2 l[i].2.2.1 = 1))) (some (Sum.inr (((i : Int), ()), ()))) (g_ref32_Check_2 N m ((l, ((i + 1 : Nat) : Int), ()), ())))
          (VI.br (decide (l[i].2.1 = wKeep)) (VI.br (decide (gt0 s.2 l[i].2.2.1 = 0)) (some (Sum.inr (((i : Int), ()), ()))) (g_ref32_Check_2 N m ((l, ((i + 1 : Nat) : Int), ()), ())))
          (VI.br (decide (l[i].2.1 = wStop)) (VI.br (decide (gt0 s.2 l[i].2.2.1 = 0)) (some (Sum.inr (((i : Int), ()), ()))) (g_ref32_Check_2 N m ((l, ((i + 1 : Nat) : Int), ()), ())))
          (VI.br (decide (l[i].2.1 = wGone)) (VI.br (decide (gt0 s.2 l[i].2.2.1 = 0)) (some (Sum.inr (((i : Int), ()), ()))) (g_ref32_Check_2 N m ((l, ((i + 1 : Nat) : Int), ()), ())))
          (g_ref32_Check_2 N m ((l, ((i + 1 : Nat) : Int), ()), ()))))))) fun o => (chk w (0, []) l 0 = -1 ∧ ∃ y, o = .inl y) ∨ ∃ y, o = .inr ((chk w (0, []) l 0, ()), y) := by
        intro hlate
        refine Tot.brD (fun w1 => ?_) fun w1 => ?_
        · refine Tot.brD (fun c => ?_) fun c => ?_
          · exact stop (bad3 (by unfold canE; rw [if_pos w1, if_neg (by omega)])) _
          · exact go _ hr hlate (by unfold canE; rw [if_pos w1, if_pos (by omega)])
        refine Tot.brD (fun w2 => ?_) fun w2 => ?_
        · refine Tot.br (fun c => ?_) fun c => ?_
          · have c : ¬ gt0 s.2 l[i].2.2.1 = 1 := by simpa using c
            exact stop (bad3 (by unfold canE; rw [if_neg w1, if_pos w2, if_neg c])) _
          · have c : gt0 s.2 l[i].2.2.1 = 1 := by simpa using c
            exact go _ hr hlate (by unfold canE; rw [if_neg w1, if_pos w2, if_pos c])
        have del : l[i].2.1 = wKeep ∨ l[i].2.1 = wStop ∨ l[i].2.1 = wGone → Tot (VI.br (decide (gt0 s.2 l[i].2.2.1 = 0)) (some (Sum.inr (((i : Int), ()), ()))) (g_ref32_Check_2 N m ((l, ((i + 1 : Nat) : Int), ()), ()))) fun o => (chk w (0, []) l 0 = -1 ∧ ∃ y, o = .inl y) ∨ ∃ y, o = .inr ((chk w (0, []) l 0, ()), y) := fun h => by
          refine Tot.brD (fun c => ?_) fun c => ?_
          · exact stop (bad3 (by unfold canE; rw [if_neg w1, if_neg w2, if_pos h, if_neg (by omega)])) _
          · exact go _ hr hlate (by unfold canE; rw [if_neg w1, if_neg w2, if_pos h, if_pos (by omega)])
        refine Tot.brD (fun w3 => del (.inl w3)) fun w3 => ?_
        refine Tot.brD (fun w4 => del (.inr (.inl w4))) fun w4 => ?_
        refine Tot.brD (fun w5 => del (.inr (.inr w5))) fun w5 => ?_
        refine go _ hr hlate (by
          unfold canE
          rw [if_neg w1, if_neg w2, if_neg]
          rintro (h | h | h)
          · exact w3 h
          · exact w4 h
          · exact w5 h)
      by_cases hi0 : i = 0
      · rw [decide_eq_false (show ¬ (0 : Int) < (i : Int) by omega)]
        exact tail (by rw [h0 hi0]; omega)
      · have w1 : IntKind.i64.wrap ((i : Int) - 1) = ((i - 1 : Nat) : Int) := by rw [w64 (by omega) (by omega)]; omega
        have d3 : decide ((0 : Int) ≤ ((i - 1 : Nat) : Int)) = true := decide_eq_true (by omega)
        have hpl : i - 1 < l.length := by omega
        have hs1 := hp _ (by omega) (at_lt hpl)
        rw [decide_eq_true (show (0 : Int) < (i : Int) by omega)]
        simp only [br_true, w1, d3, Int.toNat_natCast, at_lt hpl, Option.bind_some, ← hs1]
        by_cases hlate : l[i].1 < s.1
        · simp only [decide_eq_true hlate, br_true]
          repeat' first
            | exact stop (bad2 hlate) _
            | refine Tot.br (fun _ => ?_) fun _ => ?_
        · simp only [decide_eq_false hlate, br_false]
          exact tail hlate
    · have d1 : decide ((i : Int) < ((l.length : Nat) : Int)) = false := decide_eq_false (by omega)
      simp only [d1, br_false]
      rw [List.drop_eq_nil_of_le (by omega)] at hc
      exact Tot.some (.inl ⟨hc.symm, _, rfl⟩)
  obtain ⟨o, e, ho⟩ := loop N 0 _ (by omega) ⟨rfl, (0, []), rfl, List.nodup_nil, fun k => rfl, fun _ => rfl, fun u h => by omega⟩ (by omega)
  have e : g_ref32_Check_2 N N ((l, 0, ()), ()) = _ := e
  unfold G_ref32_Check S_ref32_Check
  simp only [e, Option.bind_some]
  rcases ho with ⟨h, y, rfl⟩ | ⟨y, rfl⟩
  · rw [h]; rfl
  · rfl
end Go.Proofs.Ythmajioeldhngaa.Tr
