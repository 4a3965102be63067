/- Backoff: the loops of the tables. -/
import Derived.Test.YtplgkdfmpbkfpaaBkpSBp
namespace Go.Proofs.Ytplgkdfmpbkfpaa.Bp
open Go Go.VI
set_option linter.unusedVariables false
set_option linter.unusedSimpArgs false
set_option maxRecDepth 100000

abbrev I3 := Int × Int × Int × Unit
abbrev PlA := (ByteArray × Int × Unit) × (I3 × List Nt × Unit)
abbrev PlO := (Unit × (I3 × List Nt × Unit)) ⊕ ((Int × Unit) × (I3 × List Nt × Unit))
def stPl (k : PlA → Option PlO) (x : PlA) : Option PlO :=
  (br (decide (x.1.2.1 < (((List.length x.2.2.1) : Nat) : Int))) (br (Bool.and (decide ((0 : Int) ≤ x.1.2.1)) (decide (x.1.2.1 < (((List.length x.2.2.1) : Nat) : Int)))) (Option.bind (x.2.2.1[(Int.toNat x.1.2.1)]?) (fun v0 => (br (decide (v0.1 = x.1.1)) (some (Sum.inr ((x.1.2.1, ()), (x.2.1.1, x.2.1.2.1, x.2.1.2.2.1, ()), x.2.2.1, ()))) (k ((x.1.1, (IntKind.i64.wrap (x.1.2.1 + (1 : Int))), ()), (x.2.1.1, x.2.1.2.1, x.2.1.2.2.1, ()), x.2.2.1, ()))))) none) (some (Sum.inl ((), (x.2.1.1, x.2.1.2.1, x.2.1.2.2.1, ()), x.2.2.1, ()))))
def plO (t : I3) (L : List Nt) : Option Nat → PlO
  | none => .inl ((), t, L, ())
  | some k => .inr (((k : Int), ()), t, L, ())
theorem pl_loop {f : Nat → PlA → Option PlO} (hf : ∀ m x, f (m + 1) x = stPl (f m) x) {N : Nat} (hN : Big N) (g : ByteArray) (a b c : Int) {L : List Nt} (hL : L.length ≤ 1000) :
    f N ((g, 0, ()), (a, b, c, ()), L, ()) = some (plO (a, b, c, ()) L (plc g L 0)) := by
  unfold Big at hN
  have loop : ∀ m (i : Nat) x, i ≤ L.length → x = ((g, (i : Int), ()), (a, b, c, ()), L, ()) → L.length - i < m → Tot (f m x) fun o => o = plO (a, b, c, ()) L (plc g (L.drop i) i) := by
    refine Tot.rangeI (Q := fun i o => o = plO (a, b, c, ()) L (plc g (L.drop i) i)) L.length fun m i x ha hi rec => ?_
    subst ha
    rw [hf]
    unfold stPl
    by_cases hlt : i < L.length
    · have d0 : decide ((0 : Int) ≤ (i : Int)) = true := decide_eq_true (by omega)
      have d1 : decide ((i : Int) < ((L.length : Nat) : Int)) = true := decide_eq_true (by omega)
      simp only [d0, d1, Bool.and_self, br_true, Int.toNat_natCast, at_lt hlt, Option.bind_some, wi (i := i) (by omega)]
      rw [List.drop_eq_getElem_cons hlt]
      simp only [plc]
      by_cases e : L[i].1 = g
      · rw [decide_eq_true e, if_pos e]; exact Tot.some rfl
      · rw [decide_eq_false e, if_neg e]; exact rec (i + 1) _ (by omega) (by omega) rfl
    · have d1 : decide ((i : Int) < ((L.length : Nat) : Int)) = false := decide_eq_false (by omega)
      simp only [d1, br_false]
      rw [List.drop_eq_nil_of_le (by omega)]
      exact Tot.some rfl
  obtain ⟨o, e, ho⟩ := loop N 0 ((g, 0, ()), (a, b, c, ()), L, ()) (by omega) rfl (by omega)
  rw [e, ho, List.drop_zero]

theorem grp_loop {N : Nat} (hN : Big N) (a b c : Int) {L : List Nt} (hL : L.length ≤ 1000) :
    gx_law24_BackoffPlays_0 N N ((0, ()), (a, b, c, ()), L, [], ()) = some (.inl ((), (a, b, c, ()), L, keys L, ())) := by
  unfold Big at hN
  have loop : ∀ m (i : Nat) x, i ≤ L.length → x = (((i : Int), ()), (a, b, c, ()), L, keys (L.take i), ()) → L.length - i < m → Tot (gx_law24_BackoffPlays_0 N m x) fun o => o = .inl ((), (a, b, c, ()), L, keys L, ()) := by
    refine Tot.range L.length fun m i x ha hi rec => ?_
    subst ha
    rw [gx_law24_BackoffPlays_0_succ]
    unfold sx_law24_BackoffPlays_0
    by_cases hlt : i < L.length
    · have d0 : decide ((0 : Int) ≤ (i : Int)) = true := decide_eq_true (by omega)
      have d1 : decide ((i : Int) < ((L.length : Nat) : Int)) = true := decide_eq_true (by omega)
      have hb : Nat.ble ((keys (L.take i)).length + 1) maxElems = true := Nat.ble_eq_true_of_le (by rw [List.length_map, List.length_take]; unfold maxElems; omega)
      simp only [d0, d1, Bool.and_self, br_true, Int.toNat_natCast, at_lt hlt, Option.bind_some, hb, wi (i := i) (by omega)]
      refine rec (i + 1) _ (by omega) (by omega) ?_
      rw [List.take_add_one, at_lt hlt]; simp only [keys, List.map_append, Option.toList_some, List.map_cons, List.map_nil]
    · have d1 : decide ((i : Int) < ((L.length : Nat) : Int)) = false := decide_eq_false (by omega)
      simp only [d1, br_false]
      rw [List.take_of_length_le (by omega)]
      exact Tot.some rfl
  obtain ⟨o, e, rfl⟩ := loop N 0 ((0, ()), (a, b, c, ()), L, [], ()) (by omega) rfl (by omega)
  exact e

abbrev FiA := (ByteArray × Int × Unit) × (I3 × List Nt × List Nt × Unit)
abbrev FiO := (Unit × (I3 × List Nt × List Nt × Unit)) ⊕ (Unit × (I3 × List Nt × List Nt × Unit))
def stFi (k : FiA → Option FiO) (x : FiA) : Option FiO :=
  (br (decide (x.1.2.1 < (((List.length x.2.2.1) : Nat) : Int))) (br (Bool.and (decide ((0 : Int) ≤ x.1.2.1)) (decide (x.1.2.1 < (((List.length x.2.2.1) : Nat) : Int)))) (Option.bind (x.2.2.1[(Int.toNat x.1.2.1)]?) (fun v0 => (br (Bool.not (decide (v0.1 = x.1.1))) (br (Bool.and (decide ((0 : Int) ≤ x.1.2.1)) (decide (x.1.2.1 < (((List.length x.2.2.1) : Nat) : Int)))) (Option.bind (x.2.2.1[(Int.toNat x.1.2.1)]?) (fun v1 => (br (Nat.ble ((List.length x.2.2.2.1) + 1) maxElems) (k ((x.1.1, (IntKind.i64.wrap (x.1.2.1 + (1 : Int))), ()), (x.2.1.1, x.2.1.2.1, x.2.1.2.2.1, ()), x.2.2.1, (x.2.2.2.1 ++ [v1]), ())) none))) none) (k ((x.1.1, (IntKind.i64.wrap (x.1.2.1 + (1 : Int))), ()), (x.2.1.1, x.2.1.2.1, x.2.1.2.2.1, ()), x.2.2.1, x.2.2.2.1, ()))))) none) (some (Sum.inl ((), (x.2.1.1, x.2.1.2.1, x.2.1.2.2.1, ()), x.2.2.1, x.2.2.2.1, ()))))
theorem fi_loop {f : Nat → FiA → Option FiO} (hf : ∀ m x, f (m + 1) x = stFi (f m) x) {N : Nat} (hN : Big N) (g : ByteArray) (a b c : Int) {L : List Nt} (hL : L.length ≤ 1000) :
    f N ((g, 0, ()), (a, b, c, ()), L, [], ()) = some (.inl ((), (a, b, c, ()), L, L.filter (fun e => !decide (e.1 = g)), ())) := by
  unfold Big at hN
  obtain ⟨o, e, rfl⟩ := Tot.filt (f := f) (l := L) (p := fun e => !decide (e.1 = g)) (mk := fun i l => ((g, (i : Int), ()), (a, b, c, ()), L, l, ())) (Y := fun l o => o = .inl ((), (a, b, c, ()), L, l, ()))
    (fun m => by
      rw [hf]; unfold stFi
      have d1 : decide ((L.length : Int) < ((L.length : Nat) : Int)) = false := decide_eq_false (by omega)
      simp only [d1, br_false]
      exact Tot.some rfl)
    (fun m i Q hlt h1 h2 => by
      rw [hf]; unfold stFi
      have d0 : decide ((0 : Int) ≤ (i : Int)) = true := decide_eq_true (by omega)
      have d1 : decide ((i : Int) < ((L.length : Nat) : Int)) = true := decide_eq_true (by omega)
      simp only [d0, d1, Bool.and_self, br_true, Int.toNat_natCast, at_lt hlt, Option.bind_some, ble_filt (by omega : L.length ≤ 1000000), wi (i := i) (by omega)]
      exact Tot.br (fun h => h1 h) fun h => h2 h) N (by omega)
  exact e

/-- Copy. -/
theorem cp_loop {N : Nat} (hN : Big N) (a b c : Int) {es L : List Nt} {ord : List ByteArray} (hS : Same b es ord L) (hL : L.length ≤ 1000) :
    ∃ es', gx_law24_BackoffPlays_4 N N (((ord.length : Int), 0, ()), (a, b, c, ()), es, ord, [], (a, b, c, ()), [], ()) = some (.inl ((), (a, b, c, ()), es, ord, es', (a, b, c, ()), ord, ())) ∧ Same b es' ord L := by
  have hN' := hN
  unfold Big at hN
  have hlen : ord.length ≤ 1000 := by rw [hS.ord, List.length_map]; exact hL
  have hsome : ∀ g, g ∈ ord → ∃ v, mget Ty.str es g = some v := fun g hg => by
    rw [hS.get]
    rw [hS.ord] at hg
    exact Option.isSome_iff_exists.1 (mget_some hg)
  have loop : ∀ m (i : Nat) x, i ≤ ord.length → (∃ es', x = (((ord.length : Int), (i : Int), ()), (a, b, c, ()), es, ord, es', (a, b, c, ()), ord.take i, ()) ∧ (∀ g, g ∈ ord.take i → mget Ty.str es' g = mget Ty.str es g) ∧ (∀ g, g ∉ ord.take i → mget Ty.str es' g = none) ∧ (keys es').Nodup) → ord.length - i < m →
      Tot (gx_law24_BackoffPlays_4 N m x) fun o => ∃ es', o = .inl ((), (a, b, c, ()), es, ord, es', (a, b, c, ()), ord, ()) ∧ (∀ g, g ∈ ord → mget Ty.str es' g = mget Ty.str es g) ∧ (∀ g, g ∉ ord → mget Ty.str es' g = none) ∧ (keys es').Nodup := by
    refine Tot.range ord.length fun m i x ha hi rec => ?_
    obtain ⟨es', rfl, h1, h2, h3⟩ := ha
    rw [gx_law24_BackoffPlays_4_succ]
    unfold sx_law24_BackoffPlays_4
    by_cases hlt : i < ord.length
    · have d0 : decide ((0 : Int) ≤ (i : Int)) = true := decide_eq_true (by omega)
      have d1 : decide ((i : Int) < ((ord.length : Nat) : Int)) = true := decide_eq_true (by omega)
      have hb : Nat.ble ((ord.take i).length + 1) maxElems = true := Nat.ble_eq_true_of_le (by rw [List.length_take]; unfold maxElems; omega)
      simp only [d0, d1, Bool.and_self, br_true, Int.toNat_natCast, at_lt hlt, Option.bind_some, hb, wi (i := i) (by omega)]
      obtain ⟨v, hv⟩ := hsome ord[i] (List.getElem_mem hlt)
      have ht : ord.take (i + 1) = ord.take i ++ [ord[i]] := by rw [List.take_add_one, at_lt hlt]; rfl
      refine rec (i + 1) _ (by omega) (by omega) ⟨_, by rw [ht], fun g hg => ?_, fun g hg => ?_, nodup_mset h3⟩
      · rw [mget_mset_str]
        by_cases e : g = ord[i]
        · rw [if_pos e, hv, e, hv]; rfl
        · rw [if_neg e]
          rw [ht, List.mem_append] at hg
          exact h1 g (hg.resolve_right fun h => e (List.mem_singleton.1 h))
      · rw [ht, List.mem_append, not_or] at hg
        rw [mget_mset_str, if_neg (fun e => hg.2 (List.mem_singleton.2 e))]
        exact h2 g hg.1
    · have d1 : decide ((i : Int) < ((ord.length : Nat) : Int)) = false := decide_eq_false (by omega)
      simp only [d1, br_false]
      rw [List.take_of_length_le (by omega)] at h1 h2 ⊢
      exact Tot.some ⟨es', rfl, h1, h2, h3⟩
  obtain ⟨o, e, es', rfl, h1, h2, h3⟩ := loop N 0 (((ord.length : Int), 0, ()), (a, b, c, ()), es, ord, [], (a, b, c, ()), [], ()) (by omega) ⟨[], rfl, fun g h => by simp at h, fun g h => rfl, .nil⟩ (by omega)
  refine ⟨es', e, ⟨fun g => ?_, hS.ord, hS.nd, h3, hS.ok⟩⟩
  have hd : g ∈ ord ∨ g ∉ ord := Classical.em _
  rcases hd with hg | hg
  · rw [h1 g hg, hS.get]
  · rw [h2 g hg]
    rw [hS.ord] at hg
    exact (mget_none.2 hg).symm

/-- Fine, of the program: the row of names. -/
theorem ord_loop {N : Nat} (hN : Big N) (g : ByteArray) (a b c : Int) (es : List Nt) {ord : List ByteArray} (hnd : ord.Nodup) (hL : ord.length ≤ 1000) :
    gx_law24_BackoffPlays_6 N N ((g, (ord.length : Int), 0, ()), (a, b, c, ()), es, ord, ()) = some (.inl ((), (a, b, c, ()), es, ord.filter (fun x => !decide (x = g)), ())) ∨ gx_law24_BackoffPlays_6 N N ((g, (ord.length : Int), 0, ()), (a, b, c, ()), es, ord, ()) = some (.inr ((), (a, b, c, ()), es, ord.filter (fun x => !decide (x = g)), ())) := by
  unfold Big at hN
  have loop : ∀ m (i : Nat) x, i ≤ ord.length → (x = ((g, (ord.length : Int), (i : Int), ()), (a, b, c, ()), es, ord, ()) ∧ ∀ y ∈ ord.take i, y ≠ g) → ord.length - i < m →
      Tot (gx_law24_BackoffPlays_6 N m x) fun o => o = .inl ((), (a, b, c, ()), es, ord.filter (fun x => !decide (x = g)), ()) ∨ o = .inr ((), (a, b, c, ()), es, ord.filter (fun x => !decide (x = g)), ()) := by
    refine Tot.range ord.length fun m i x ha hi rec => ?_
    obtain ⟨rfl, hy⟩ := ha
    rw [gx_law24_BackoffPlays_6_succ]
    unfold sx_law24_BackoffPlays_6
    by_cases hlt : i < ord.length
    · have d0 : decide ((0 : Int) ≤ (i : Int)) = true := decide_eq_true (by omega)
      have d1 : decide ((i : Int) < ((ord.length : Nat) : Int)) = true := decide_eq_true (by omega)
      have d2 : decide ((0 : Int) ≤ ((i + 1 : Nat) : Int)) = true := decide_eq_true (by omega)
      have b1 : Nat.ble 0 i = true := Nat.ble_eq_true_of_le (by omega)
      have b2 : Nat.ble i ord.length = true := Nat.ble_eq_true_of_le (by omega)
      have b3 : Nat.ble (i + 1) ord.length = true := Nat.ble_eq_true_of_le (by omega)
      have b4 : Nat.ble ord.length ord.length = true := Nat.ble_eq_true_of_le (Nat.le_refl _)
      have htk : List.take (ord.length - (i + 1)) (List.drop (i + 1) ord) = List.drop (i + 1) ord := List.take_of_length_le (by rw [List.length_drop]; omega)
      simp only [d0, d1, d2, b1, b2, b3, b4, htk, Bool.and_self, br_true, Int.toNat_natCast, at_lt hlt, Option.bind_some, wi (i := i) (by omega), decide_true, Nat.sub_zero, Nat.zero_add, List.drop_zero, Nat.beq_refl, Bool.true_and]
      by_cases e : ord[i] = g
      · have hcut := cut_filter hnd (by rw [at_lt hlt, e] : ord[i]? = some g)
        rw [decide_eq_true e, br_true]
        refine Tot.br (fun h => ?_) fun h => ?_
        · have hb : Nat.ble (i + (List.drop (i + 1) ord).length) maxElems = true := Nat.ble_eq_true_of_le (by rw [List.length_drop]; unfold maxElems; omega)
          rw [hb, br_true, hcut]
          exact Tot.some (.inr rfl)
        · have hz : List.drop (i + 1) ord = [] := by
            cases hd : List.drop (i + 1) ord with
            | nil => rfl
            | cons x l => rw [hd] at h; simp [Nat.ble] at h
          rw [hz, List.append_nil] at hcut
          rw [hcut]
          exact Tot.some (.inr rfl)
      · rw [decide_eq_false e, br_false]
        refine rec (i + 1) _ (by omega) (by omega) ⟨rfl, fun y hm => ?_⟩
        rw [List.take_add_one, at_lt hlt, List.mem_append] at hm
        rcases hm with hm | hm
        · exact hy y hm
        · simp only [Option.toList_some, List.mem_singleton] at hm
          rw [hm]; exact e
    · have d1 : decide ((i : Int) < ((ord.length : Nat) : Int)) = false := decide_eq_false (by omega)
      simp only [d1, br_false]
      rw [List.take_of_length_le (by omega)] at hy
      rw [List.filter_eq_self.2 fun x hx => by simp [hy x hx]]
      exact Tot.some (.inl rfl)
  obtain ⟨o, e, ho⟩ := loop N 0 ((g, (ord.length : Int), 0, ()), (a, b, c, ()), es, ord, ()) (by omega) ⟨rfl, fun y h => by simp at h⟩ (by omega)
  rw [e]
  exact ho.imp (fun h => by rw [h]) fun h => by rw [h]
end Go.Proofs.Ytplgkdfmpbkfpaa.Bp
