/- Ledger: tables, plainly; the loops of the program's table, whatever they are called. -/
import Derived.Test.YtiiiipdnodgkmaaBaseLt
namespace Go.Proofs.Ytiiiipdnodgkmaa.Lt
open Go Go.VI
set_option linter.unusedVariables false
set_option linter.unusedSimpArgs false
set_option maxRecDepth 100000

abbrev LRow := ByteArray × Int × Int × Int × Int
abbrev LInst := ByteArray × ByteArray × Int × Int × Int
abbrev LTab := Int × Bool × Unit
abbrev LGrp (M : Type) := ByteArray × Int × Int × M × Int × Int
abbrev LTop : Int := 1125899906842624
/-- How many of a group count. -/
def cnt (l : List LInst) (name : ByteArray) : Nat := (l.filter fun x => !decide (x.2.2.1 = (3 : Int)) && decide (x.2.1 = name)).length
theorem cnt_le (l : List LInst) (name : ByteArray) : cnt l name ≤ l.length := List.length_filter_le _ _
def more (l : List LInst) (r : LRow) : LRow := (r.1, r.2.1, r.2.2.1 + (cnt l r.1 : Int), max r.2.2.2.1 (cnt l r.1 : Int), min (r.2.2.2.2 + (cnt l r.1 : Int) * r.2.1) LTop)
/-- Numbers are within bounds: k ticks were added. -/
def okRow (k : Nat) (r : LRow) : Prop := 0 ≤ r.2.1 ∧ r.2.1 ≤ LTop ∧ 0 ≤ r.2.2.1 ∧ r.2.2.1 ≤ 60 * (k : Int) ∧ 0 ≤ r.2.2.2.1 ∧ r.2.2.2.1 ≤ 60 ∧ 0 ≤ r.2.2.2.2 ∧ r.2.2.2.2 ≤ LTop
theorem okRow_more {k : Nat} {l : List LInst} (hl : l.length ≤ 60) {r : LRow} (h : okRow k r) : okRow (k + 1) (more l r) := by
  obtain ⟨h1, h2, h3, h4, h5, h6, h7, h8⟩ := h
  have hc := cnt_le l r.1
  have hp : 0 ≤ (cnt l r.1 : Int) * r.2.1 := Int.mul_nonneg (by omega) h1
  refine ⟨h1, h2, ?_, ?_, ?_, ?_, ?_, ?_⟩ <;> simp only [more] <;> omega

/-! New's loop -/
def stNew {M : Type} (k : ((List (LGrp M) × Int × Int × Unit) × (LTab × List LRow × Unit)) → Option ((Unit × (LTab × List LRow × Unit)) ⊕ (Unit × (LTab × List LRow × Unit)))) (x : (List (LGrp M) × Int × Int × Unit) × (LTab × List LRow × Unit)) : Option ((Unit × (LTab × List LRow × Unit)) ⊕ (Unit × (LTab × List LRow × Unit))) :=
  (br (decide (x.1.2.2.1 < x.1.2.1)) (br (decide ((0 : Int) ≤ x.1.2.2.1)) (Option.bind (x.1.1[(Int.toNat x.1.2.2.1)]?) (fun v0 => (br (Nat.ble ((List.length x.2.2.1) + 1) maxElems) (k ((x.1.1, x.1.2.1, (IntKind.i64.wrap (x.1.2.2.1 + (1 : Int))), ()), (x.2.1.1, x.2.1.2.1, ()), (x.2.2.1 ++ [(v0.1, v0.2.2.2.2.1, (0 : Int), (0 : Int), (0 : Int))]), ())) none))) none) (some (Sum.inl ((), (x.2.1.1, x.2.1.2.1, ()), x.2.2.1, ()))))
def row0 {M : Type} (g : LGrp M) : LRow := (g.1, g.2.2.2.2.1, 0, 0, 0)
theorem new_loop {M : Type} {f : Nat → ((List (LGrp M) × Int × Int × Unit) × (LTab × List LRow × Unit)) → Option ((Unit × (LTab × List LRow × Unit)) ⊕ (Unit × (LTab × List LRow × Unit)))} (hf : ∀ m x, f (m + 1) x = stNew (f m) x) {N : Nat} (hN : Big N) {l : List (LGrp M)} (hl : l.length ≤ 1000) (t : LTab) :
    f N ((l, (l.length : Int), 0, ()), t, [], ()) = some (.inl ((), t, l.map row0, ())) := by
  unfold Big at hN
  have loop : ∀ m (i : Nat) x, i ≤ l.length → x = ((l, (l.length : Int), (i : Int), ()), t, (l.take i).map row0, ()) → l.length - i < m → Tot (f m x) fun o => o = .inl ((), t, l.map row0, ()) := by
    refine Tot.range l.length fun m i x ha hi rec => ?_
    subst ha
    rw [hf]
    unfold stNew
    by_cases hlt : i < l.length
    · have d0 : decide ((0 : Int) ≤ (i : Int)) = true := decide_eq_true (by omega)
      have d1 : decide ((i : Int) < ((l.length : Nat) : Int)) = true := decide_eq_true (by omega)
      have hb : Nat.ble (((l.take i).map (row0 (M := M))).length + 1) maxElems = true := Nat.ble_eq_true_of_le (by rw [List.length_map, List.length_take]; unfold maxElems; omega)
      simp only [d0, d1, br_true, Int.toNat_natCast, at_lt hlt, Option.bind_some, hb, wi (i := i) (by omega)]
      refine rec (i + 1) _ (by omega) (by omega) ?_
      rw [List.take_add_one, at_lt hlt, List.map_append]; rfl
    · have d1 : decide ((i : Int) < ((l.length : Nat) : Int)) = false := decide_eq_false (by omega)
      simp only [d1, br_false]
      rw [List.take_of_length_le (by omega)]
      exact Tot.some rfl
  obtain ⟨o, e, rfl⟩ := loop N 0 ((l, (l.length : Int), 0, ()), t, [], ()) (by omega) rfl (by omega)
  exact e

/-! Add's loops -/
def stCnt (k : ((List LInst × Int × Int × Unit) × (LTab × List LRow × List (ByteArray × Int) × Unit)) → Option ((Unit × (LTab × List LRow × List (ByteArray × Int) × Unit)) ⊕ (Unit × (LTab × List LRow × List (ByteArray × Int) × Unit)))) (x : (List LInst × Int × Int × Unit) × (LTab × List LRow × List (ByteArray × Int) × Unit)) : Option ((Unit × (LTab × List LRow × List (ByteArray × Int) × Unit)) ⊕ (Unit × (LTab × List LRow × List (ByteArray × Int) × Unit))) :=
  (br (decide (x.1.2.2.1 < x.1.2.1)) (br (decide ((0 : Int) ≤ x.1.2.2.1)) (Option.bind (x.1.1[(Int.toNat x.1.2.2.1)]?) (fun v0 => (br (Bool.not (decide (v0.2.2.1 = (3 : Int)))) (k ((x.1.1, x.1.2.1, (IntKind.i64.wrap (x.1.2.2.1 + (1 : Int))), ()), (x.2.1.1, x.2.1.2.1, ()), x.2.2.1, (mset Ty.str x.2.2.2.1 v0.2.1 (IntKind.i64.wrap ((Option.getD (mget Ty.str x.2.2.2.1 v0.2.1) (0 : Int)) + (1 : Int)))), ())) (k ((x.1.1, x.1.2.1, (IntKind.i64.wrap (x.1.2.2.1 + (1 : Int))), ()), (x.2.1.1, x.2.1.2.1, ()), x.2.2.1, x.2.2.2.1, ()))))) none) (some (Sum.inl ((), (x.2.1.1, x.2.1.2.1, ()), x.2.2.1, x.2.2.2.1, ()))))
theorem cnt_loop {f : Nat → ((List LInst × Int × Int × Unit) × (LTab × List LRow × List (ByteArray × Int) × Unit)) → Option ((Unit × (LTab × List LRow × List (ByteArray × Int) × Unit)) ⊕ (Unit × (LTab × List LRow × List (ByteArray × Int) × Unit)))} (hf : ∀ m x, f (m + 1) x = stCnt (f m) x) {N : Nat} (hN : Big N) {l : List LInst} (hl : l.length ≤ 1000) (t : LTab) (rs : List LRow) :
    ∃ mp, f N ((l, (l.length : Int), 0, ()), t, rs, [], ()) = some (.inl ((), t, rs, mp, ())) ∧ ∀ name, (mget Ty.str mp name).getD 0 = (cnt l name : Int) := by
  unfold Big at hN
  have loop : ∀ m (i : Nat) x, i ≤ l.length → (∃ mp, x = ((l, (l.length : Int), (i : Int), ()), t, rs, mp, ()) ∧ ∀ name, (mget Ty.str mp name).getD 0 = (cnt (l.take i) name : Int)) → l.length - i < m → Tot (f m x) fun o => ∃ mp, o = .inl ((), t, rs, mp, ()) ∧ ∀ name, (mget Ty.str mp name).getD 0 = (cnt l name : Int) := by
    refine Tot.range l.length fun m i x ha hi rec => ?_
    obtain ⟨mp, rfl, hm⟩ := ha
    rw [hf]
    unfold stCnt
    by_cases hlt : i < l.length
    · have d0 : decide ((0 : Int) ≤ (i : Int)) = true := decide_eq_true (by omega)
      have d1 : decide ((i : Int) < ((l.length : Nat) : Int)) = true := decide_eq_true (by omega)
      have hc : ∀ name, cnt (l.take (i + 1)) name = cnt (l.take i) name + (if (!decide (l[i].2.2.1 = (3 : Int)) && decide (l[i].2.1 = name)) = true then 1 else 0) := fun name => by
        unfold cnt
        rw [List.take_add_one, at_lt hlt, List.filter_append, List.length_append]
        simp only [Option.toList_some, List.filter_cons, List.filter_nil]
        split <;> rfl
      have hle := cnt_le (l.take i) l[i].2.1
      have hlen : (l.take i).length ≤ i := by rw [List.length_take]; omega
      simp only [d0, d1, br_true, Int.toNat_natCast, at_lt hlt, Option.bind_some, wi (i := i) (by omega), hm]
      cases h3 : decide (l[i].2.2.1 = (3 : Int))
      · rw [Bool.not_false, br_true, wi (i := cnt (l.take i) l[i].2.1) (by omega)]
        refine rec (i + 1) _ (by omega) (by omega) ⟨_, rfl, fun name => ?_⟩
        rw [mget_mset_str, hc name, h3]
        by_cases e : name = l[i].2.1
        · rw [if_pos e, if_pos (by simp [e]), e]; rfl
        · rw [if_neg e, if_neg (by simp [Ne.symm e]), hm]; rfl
      · rw [Bool.not_true, br_false]
        refine rec (i + 1) _ (by omega) (by omega) ⟨_, rfl, fun name => ?_⟩
        rw [hc name, h3, hm]; rfl
    · have d1 : decide ((i : Int) < ((l.length : Nat) : Int)) = false := decide_eq_false (by omega)
      simp only [d1, br_false]
      rw [List.take_of_length_le (by omega)] at hm
      exact Tot.some ⟨_, rfl, hm⟩
  obtain ⟨o, e, mp, rfl, hm⟩ := loop N 0 ((l, (l.length : Int), 0, ()), t, rs, [], ()) (by omega) ⟨[], rfl, fun _ => rfl⟩ (by omega)
  exact ⟨mp, e, hm⟩

def stIn (k : ((Nat × Int × Int × Unit) × (LTab × List LRow × Unit)) → Option ((Unit × (LTab × List LRow × Unit)) ⊕ (Unit × (LTab × List LRow × Unit)))) (x : (Nat × Int × Int × Unit) × (LTab × List LRow × Unit)) : Option ((Unit × (LTab × List LRow × Unit)) ⊕ (Unit × (LTab × List LRow × Unit))) :=
  (br (decide (x.1.2.2.1 < x.1.2.1)) (Option.bind (x.2.2.1[x.1.1]?) (fun v0 => (Option.bind (x.2.2.1[x.1.1]?) (fun v1 => (Option.bind (x.2.2.1[x.1.1]?) (fun v2 => (k ((x.1.1, x.1.2.1, (IntKind.i64.wrap (x.1.2.2.1 + (1 : Int))), ()), (x.2.1.1, x.2.1.2.1, ()), (List.set x.2.2.1 x.1.1 (v2.1, v2.2.1, v2.2.2.1, v2.2.2.2.1, (List.foldl Min.min (IntKind.i64.wrap (v0.2.2.2.2 + v1.2.1)) [(1125899906842624 : Int)]))), ())))))))) (some (Sum.inl ((), (x.2.1.1, x.2.1.2.1, ()), x.2.2.1, ()))))
def withSum (r : LRow) (s : Int) : LRow := (r.1, r.2.1, r.2.2.1, r.2.2.2.1, s)
theorem in_loop {f : Nat → ((Nat × Int × Int × Unit) × (LTab × List LRow × Unit)) → Option ((Unit × (LTab × List LRow × Unit)) ⊕ (Unit × (LTab × List LRow × Unit)))} (hf : ∀ m x, f (m + 1) x = stIn (f m) x) {N : Nat} (hN : Big N) {n i : Nat} (hn : n ≤ 1000) (t : LTab) {rs : List LRow} {r : LRow} (hi : rs[i]? = some r) (h0 : 0 ≤ r.2.1) (h1 : r.2.1 ≤ LTop) (h2 : 0 ≤ r.2.2.2.2) (h3 : r.2.2.2.2 ≤ LTop) :
    f N ((i, (n : Int), 0, ()), t, rs, ()) = some (.inl ((), t, rs.set i (withSum r (min (r.2.2.2.2 + (n : Int) * r.2.1) LTop)), ())) := by
  unfold Big at hN
  have hT : LTop = 1125899906842624 := rfl
  have hlt : i < rs.length := (List.getElem?_eq_some_iff.1 hi).1
  have loop : ∀ m (j : Nat) x, j ≤ n → x = ((i, (n : Int), (j : Int), ()), t, rs.set i (withSum r (min (r.2.2.2.2 + (j : Int) * r.2.1) LTop)), ()) → n - j < m → Tot (f m x) fun o => o = .inl ((), t, rs.set i (withSum r (min (r.2.2.2.2 + (n : Int) * r.2.1) LTop)), ()) := by
    refine Tot.range n fun m j x ha hj rec => ?_
    subst ha
    rw [hf]
    unfold stIn
    by_cases hjn : j < n
    · have d1 : decide ((j : Int) < (n : Int)) = true := decide_eq_true (by omega)
      have hp : 0 ≤ (j : Int) * r.2.1 := Int.mul_nonneg (by omega) h0
      have e1 : ((j + 1 : Nat) : Int) * r.2.1 = (j : Int) * r.2.1 + r.2.1 := by rw [Int.natCast_succ, Int.add_mul, Int.one_mul]
      simp only [d1, br_true, List.getElem?_set_self hlt, Option.bind_some, withSum, List.foldl_cons, List.foldl_nil, List.set_set, wi (i := j) (by omega)]
      refine rec (j + 1) _ (by omega) (by omega) ?_
      rw [w64 (by omega) (by omega), e1]
      have : min (min (r.2.2.2.2 + (j : Int) * r.2.1) LTop + r.2.1) 1125899906842624 = min (r.2.2.2.2 + ((j : Int) * r.2.1 + r.2.1)) LTop := by omega
      rw [this]
      rfl
    · have d1 : decide ((j : Int) < (n : Int)) = false := decide_eq_false (by omega)
      have : j = n := by omega
      subst this
      simp only [d1, br_false]
      exact Tot.some rfl
  have hs : rs = rs.set i (withSum r (min (r.2.2.2.2 + ((0 : Nat) : Int) * r.2.1) LTop)) := by
    have : withSum r (min (r.2.2.2.2 + ((0 : Nat) : Int) * r.2.1) LTop) = r := by
      obtain ⟨a, b, c, d, e⟩ := r
      simp only [withSum]
      have : min (e + ((0 : Nat) : Int) * b) LTop = e := by simp only at h2 h3; omega
      rw [this]
    rw [this]
    refine List.ext_getElem? fun q => ?_
    by_cases hq : i = q
    · subst hq; rw [List.getElem?_set_self hlt, hi]
    · rw [List.getElem?_set_ne hq]
  obtain ⟨o, e, rfl⟩ := loop N 0 ((i, (n : Int), 0, ()), t, rs, ()) (by omega) (by rw [← hs]; rfl) (by omega)
  exact e

def stRow (g : Nat → ((Nat × Int × Int × Unit) × (LTab × List LRow × Unit)) → Option ((Unit × (LTab × List LRow × Unit)) ⊕ (Unit × (LTab × List LRow × Unit)))) (N : Nat) (k : ((Int × Int × Unit) × (LTab × List LRow × List (ByteArray × Int) × Unit)) → Option ((Unit × (LTab × List LRow × List (ByteArray × Int) × Unit)) ⊕ (Unit × (LTab × List LRow × List (ByteArray × Int) × Unit)))) (x : (Int × Int × Unit) × (LTab × List LRow × List (ByteArray × Int) × Unit)) : Option ((Unit × (LTab × List LRow × List (ByteArray × Int) × Unit)) ⊕ (Unit × (LTab × List LRow × List (ByteArray × Int) × Unit))) :=
  (br (decide (x.1.2.1 < x.1.1)) (br (Bool.and (decide ((0 : Int) ≤ x.1.2.1)) (decide (x.1.2.1 < (((List.length x.2.2.1) : Nat) : Int)))) (br (Bool.and (decide ((0 : Int) ≤ x.1.2.1)) (decide (x.1.2.1 < (((List.length x.2.2.1) : Nat) : Int)))) (Option.bind (x.2.2.1[(Int.toNat x.1.2.1)]?) (fun v0 => (Option.bind (x.2.2.1[(Int.toNat x.1.2.1)]?) (fun v1 => (Option.bind (x.2.2.1[(Int.toNat x.1.2.1)]?) (fun v2 => (Option.bind ((List.set x.2.2.1 (Int.toNat x.1.2.1) (v2.1, v2.2.1, (IntKind.i64.wrap (v1.2.2.1 + (Option.getD (mget Ty.str x.2.2.2.1 v0.1) (0 : Int)))), v2.2.2.2))[(Int.toNat x.1.2.1)]?) (fun v3 => (Option.bind ((List.set x.2.2.1 (Int.toNat x.1.2.1) (v2.1, v2.2.1, (IntKind.i64.wrap (v1.2.2.1 + (Option.getD (mget Ty.str x.2.2.2.1 v0.1) (0 : Int)))), v2.2.2.2))[(Int.toNat x.1.2.1)]?) (fun v4 => (Option.bind (g N (((Int.toNat x.1.2.1), (Option.getD (mget Ty.str x.2.2.2.1 v0.1) (0 : Int)), (0 : Int), ()), (x.2.1.1, x.2.1.2.1, ()), (List.set (List.set x.2.2.1 (Int.toNat x.1.2.1) (v2.1, v2.2.1, (IntKind.i64.wrap (v1.2.2.1 + (Option.getD (mget Ty.str x.2.2.2.1 v0.1) (0 : Int)))), v2.2.2.2)) (Int.toNat x.1.2.1) (v4.1, v4.2.1, v4.2.2.1, (List.foldl Max.max v3.2.2.2.1 [(Option.getD (mget Ty.str x.2.2.2.1 v0.1) (0 : Int))]), v4.2.2.2.2)), ())) (fun v5 => (Sum.elim (fun v6 => (k ((x.1.1, (IntKind.i64.wrap (x.1.2.1 + (1 : Int))), ()), (v6.2.1.1, v6.2.1.2.1, ()), v6.2.2.1, x.2.2.2.1, ()))) (fun v6 => (k ((x.1.1, (IntKind.i64.wrap (x.1.2.1 + (1 : Int))), ()), (v6.2.1.1, v6.2.1.2.1, ()), v6.2.2.1, x.2.2.2.1, ()))) v5))))))))))))) none) none) (some (Sum.inl ((), (x.2.1.1, x.2.1.2.1, ()), x.2.2.1, x.2.2.2.1, ()))))
theorem set_at {α : Type} {l : List α} {f : α → α} {i : Nat} (hi : i < l.length) : ((l.take i).map f ++ l.drop i).set i (f l[i]) = (l.take (i + 1)).map f ++ l.drop (i + 1) := by
  have hlen : ((l.take i).map f).length = i := by rw [List.length_map, List.length_take]; omega
  rw [List.set_append_right _ _ (by omega), hlen, Nat.sub_self, List.drop_eq_getElem_cons hi, List.set_cons_zero, List.take_add_one, at_lt hi, List.map_append]
  simp
theorem get_at {α : Type} {l : List α} {f : α → α} {i : Nat} (hi : i < l.length) : ((l.take i).map f ++ l.drop i)[i]? = some l[i] := by
  have hlen : ((l.take i).map f).length = i := by rw [List.length_map, List.length_take]; omega
  rw [List.getElem?_append_right (by omega), hlen, Nat.sub_self, List.drop_eq_getElem_cons hi]; rfl
theorem len_at {α : Type} {l : List α} {f : α → α} {i : Nat} (hi : i ≤ l.length) : ((l.take i).map f ++ l.drop i).length = l.length := by
  rw [List.length_append, List.length_map, List.length_take, List.length_drop]; omega
theorem row_loop {g : Nat → ((Nat × Int × Int × Unit) × (LTab × List LRow × Unit)) → Option ((Unit × (LTab × List LRow × Unit)) ⊕ (Unit × (LTab × List LRow × Unit)))} (hg : ∀ m x, g (m + 1) x = stIn (g m) x) {f : Nat → ((Int × Int × Unit) × (LTab × List LRow × List (ByteArray × Int) × Unit)) → Option ((Unit × (LTab × List LRow × List (ByteArray × Int) × Unit)) ⊕ (Unit × (LTab × List LRow × List (ByteArray × Int) × Unit)))} {N : Nat} (hf : ∀ m x, f (m + 1) x = stRow g N (f m) x) (hN : Big N)
    {l : List LInst} (hl : l.length ≤ 60) (t : LTab) {rs : List LRow} (hrs : rs.length ≤ 1000) {k : Nat} (hk : k ≤ 1000) (hok : ∀ r ∈ rs, okRow k r) {mp : List (ByteArray × Int)} (hm : ∀ name, (mget Ty.str mp name).getD 0 = (cnt l name : Int)) :
    f N (((rs.length : Int), 0, ()), t, rs, mp, ()) = some (.inl ((), t, rs.map (more l), mp, ())) := by
  have hN' := hN
  unfold Big at hN'
  have loop : ∀ m (i : Nat) x, i ≤ rs.length → x = (((rs.length : Int), (i : Int), ()), t, (rs.take i).map (more l) ++ rs.drop i, mp, ()) → rs.length - i < m → Tot (f m x) fun o => o = .inl ((), t, rs.map (more l), mp, ()) := by
    refine Tot.range rs.length fun m i x ha hi rec => ?_
    subst ha
    rw [hf]
    unfold stRow
    by_cases hlt : i < rs.length
    · have d0 : decide ((0 : Int) ≤ (i : Int)) = true := decide_eq_true (by omega)
      have d1 : decide ((i : Int) < ((rs.length : Nat) : Int)) = true := decide_eq_true (by omega)
      have hlen := len_at (l := rs) (f := more l) (i := i) hi
      obtain ⟨k1, k2, k3, k4, k5, k6, k7, k8⟩ := hok _ (List.getElem_mem hlt)
      have hc := cnt_le l rs[i].1
      have hlt' : i < ((rs.take i).map (more l) ++ rs.drop i).length := by omega
      simp only [hlen, d0, d1, Bool.and_self, br_true, Int.toNat_natCast, get_at hlt, Option.bind_some, hm, List.getElem?_set_self hlt', List.set_set, List.foldl_cons, List.foldl_nil, wi (i := i) (by omega)]
      rw [w64 (by omega) (by omega)]
      have hin := in_loop hg hN (n := cnt l rs[i].1) (i := i) (by omega) t (rs := ((rs.take i).map (more l) ++ rs.drop i).set i (rs[i].1, rs[i].2.1, rs[i].2.2.1 + (cnt l rs[i].1 : Int), max rs[i].2.2.2.1 (cnt l rs[i].1 : Int), rs[i].2.2.2.2)) (List.getElem?_set_self hlt') k1 k2 k7 k8
      have ht : (t.1, t.2.1, ()) = t := rfl
      rw [ht, hin]
      simp only [Option.bind_some, Sum.elim_inl, List.set_set]
      refine rec (i + 1) _ (by omega) (by omega) ?_
      rw [← set_at hlt]
      rfl
    · have d1 : decide ((i : Int) < ((rs.length : Nat) : Int)) = false := decide_eq_false (by omega)
      simp only [d1, br_false]
      rw [List.take_of_length_le (by omega), List.drop_eq_nil_of_le (by omega), List.append_nil]
      exact Tot.some rfl
  obtain ⟨o, e, rfl⟩ := loop N 0 (((rs.length : Int), 0, ()), t, rs, mp, ()) (by omega) (by rw [List.take_zero, List.drop_zero]; rfl) (by omega)
  exact e

/-! of -/
abbrev LOf := (ByteArray × Int × Int × Unit) × (LTab × List LRow × (LRow × Unit) × Unit)
abbrev LOfO := (Unit × (LTab × List LRow × (LRow × Unit) × Unit)) ⊕ (Unit × (LTab × List LRow × (LRow × Unit) × Unit))
def stOf (k : LOf → Option LOfO) (x : LOf) : Option LOfO :=
  (br (decide (x.1.2.2.1 < x.1.2.1)) (br (Bool.and (decide ((0 : Int) ≤ x.1.2.2.1)) (decide (x.1.2.2.1 < (((List.length x.2.2.1) : Nat) : Int)))) (Option.bind (x.2.2.1[(Int.toNat x.1.2.2.1)]?) (fun v0 => (br (decide (v0.1 = x.1.1)) (some (Sum.inr ((), (x.2.1.1, x.2.1.2.1, ()), x.2.2.1, (v0, ()), ()))) (k ((x.1.1, x.1.2.1, (IntKind.i64.wrap (x.1.2.2.1 + (1 : Int))), ()), (x.2.1.1, x.2.1.2.1, ()), x.2.2.1, (x.2.2.2.1.1, ()), ()))))) none) (some (Sum.inl ((), (x.2.1.1, x.2.1.2.1, ()), x.2.2.1, (x.2.2.2.1.1, ()), ()))))
def row00 : LRow := (ByteArray.mk (List.toArray []), 0, 0, 0, 0)
/-- A group's row. -/
def look (rs : List LRow) (name : ByteArray) : LRow := match rs with
  | [] => row00
  | r :: rs => if r.1 = name then r else look rs name
theorem of_loop {f : Nat → LOf → Option LOfO} (hf : ∀ m x, f (m + 1) x = stOf (f m) x) {N : Nat} (hN : Big N) (name : ByteArray) (t : LTab) {rs : List LRow} (hrs : rs.length ≤ 1000) :
    (f N ((name, (rs.length : Int), 0, ()), t, rs, (row00, ()), ())).bind (Sum.elim (fun v2 => some ((row00, ()), (v2.2.1.1, v2.2.1.2.1, ()), v2.2.2.1, ())) (fun v2 => some ((v2.2.2.2.1.1, ()), (v2.2.1.1, v2.2.1.2.1, ()), v2.2.2.1, ()))) = some ((look rs name, ()), t, rs, ()) := by
  unfold Big at hN
  have loop : ∀ m (i : Nat) x, i ≤ rs.length → x = ((name, (rs.length : Int), (i : Int), ()), t, rs, (row00, ()), ()) → rs.length - i < m → Tot (f m x) fun o => Sum.elim (fun v2 => some ((row00, ()), (v2.2.1.1, v2.2.1.2.1, ()), v2.2.2.1, ())) (fun v2 => some ((v2.2.2.2.1.1, ()), (v2.2.1.1, v2.2.1.2.1, ()), v2.2.2.1, ())) o = some ((look (rs.drop i) name, ()), t, rs, ()) := by
    refine Tot.rangeI (Q := fun i (o : LOfO) => Sum.elim (fun v2 => some ((row00, ()), (v2.2.1.1, v2.2.1.2.1, ()), v2.2.2.1, ())) (fun v2 => some ((v2.2.2.2.1.1, ()), (v2.2.1.1, v2.2.1.2.1, ()), v2.2.2.1, ())) o = some ((look (rs.drop i) name, ()), t, rs, ())) rs.length fun m i x ha hi rec => ?_
    subst ha
    rw [hf]
    unfold stOf
    by_cases hlt : i < rs.length
    · have d0 : decide ((0 : Int) ≤ (i : Int)) = true := decide_eq_true (by omega)
      have d1 : decide ((i : Int) < ((rs.length : Nat) : Int)) = true := decide_eq_true (by omega)
      simp only [d0, d1, Bool.and_self, br_true, Int.toNat_natCast, at_lt hlt, Option.bind_some, wi (i := i) (by omega)]
      rw [List.drop_eq_getElem_cons hlt]
      simp only [look]
      by_cases e : rs[i].1 = name
      · rw [decide_eq_true e, if_pos e]; exact Tot.some rfl
      · rw [decide_eq_false e, if_neg e]; exact rec (i + 1) _ (by omega) (by omega) rfl
    · have d1 : decide ((i : Int) < ((rs.length : Nat) : Int)) = false := decide_eq_false (by omega)
      simp only [d1, br_false]
      rw [List.drop_eq_nil_of_le (by omega)]
      exact Tot.some rfl
  obtain ⟨o, e, ho⟩ := loop N 0 ((name, (rs.length : Int), 0, ()), t, rs, (row00, ()), ()) (by omega) rfl (by omega)
  rw [e]
  rw [List.drop_zero] at ho
  exact ho

/-- A tick is added. -/
theorem add_is {g : Nat → ((Nat × Int × Int × Unit) × (LTab × List LRow × Unit)) → Option ((Unit × (LTab × List LRow × Unit)) ⊕ (Unit × (LTab × List LRow × Unit)))} (hg : ∀ m x, g (m + 1) x = stIn (g m) x) {f : Nat → ((Int × Int × Unit) × (LTab × List LRow × List (ByteArray × Int) × Unit)) → Option ((Unit × (LTab × List LRow × List (ByteArray × Int) × Unit)) ⊕ (Unit × (LTab × List LRow × List (ByteArray × Int) × Unit)))} {N : Nat} (hf : ∀ m x, f (m + 1) x = stRow g N (f m) x)
    {c : Nat → ((List LInst × Int × Int × Unit) × (LTab × List LRow × List (ByteArray × Int) × Unit)) → Option ((Unit × (LTab × List LRow × List (ByteArray × Int) × Unit)) ⊕ (Unit × (LTab × List LRow × List (ByteArray × Int) × Unit)))} (hc : ∀ m x, c (m + 1) x = stCnt (c m) x) (hN : Big N)
    {l : List LInst} (hl : l.length ≤ 60) (a : Int) (b : Bool) {rs : List LRow} (hrs : rs.length ≤ 1000) {k : Nat} (hk : k ≤ 1000) (hok : ∀ r ∈ rs, okRow k r) :
    Option.bind (c N ((l, ((l.length : Nat) : Int), (0 : Int), ()), (a, b, ()), rs, [], ())) (fun v6 => Sum.elim (fun v7 => Option.bind (f N ((((v7.2.2.1.length : Nat) : Int), (0 : Int), ()), (v7.2.1.1, v7.2.1.2.1, ()), v7.2.2.1, v7.2.2.2.1, ())) (fun v8 => Sum.elim (fun v9 => some ((), (v9.2.1.1, v9.2.1.2.1, ()), v9.2.2.1, ())) (fun v9 => some ((), (v9.2.1.1, v9.2.1.2.1, ()), v9.2.2.1, ())) v8)) (fun v7 => some ((), (v7.2.1.1, v7.2.1.2.1, ()), v7.2.2.1, ())) v6) = some ((), (a, b, ()), rs.map (more l), ()) := by
  obtain ⟨mp, h1, h2⟩ := cnt_loop hc hN (by omega : l.length ≤ 1000) (a, b, ()) rs
  rw [h1]
  simp only [Option.bind_some, Sum.elim_inl]
  rw [row_loop hg hf hN hl (a, b, ()) hrs hk hok h2]
  rfl
theorem look_map {name : ByteArray} (F : LRow → LRow) (hF : ∀ r, (F r).1 = r.1) (h0 : F row00 = row00) : ∀ rs : List LRow, look (rs.map F) name = F (look rs name)
  | [] => by simp only [List.map_nil, look, h0]
  | r :: rs => by
    simp only [List.map_cons, look, hF]
    split
    · rfl
    · exact look_map F hF h0 rs

/-! Total -/
abbrev LToA := (Int × Int × Int × Unit) × (LTab × List LRow × Unit)
abbrev LToO := ((Int × Unit) × (LTab × List LRow × Unit)) ⊕ (Unit × (LTab × List LRow × Unit))
def stTot (k : LToA → Option LToO) (x : LToA) : Option LToO :=
  (br (decide (x.1.2.2.1 < x.1.2.1)) (br (Bool.and (decide ((0 : Int) ≤ x.1.2.2.1)) (decide (x.1.2.2.1 < (((List.length x.2.2.1) : Nat) : Int)))) (Option.bind (x.2.2.1[(Int.toNat x.1.2.2.1)]?) (fun v0 => (k (((List.foldl Min.min (IntKind.i64.wrap (x.1.1 + v0.2.2.2.2)) [(1125899906842624 : Int)]), x.1.2.1, (IntKind.i64.wrap (x.1.2.2.1 + (1 : Int))), ()), (x.2.1.1, x.2.1.2.1, ()), x.2.2.1, ())))) none) (some (Sum.inl ((x.1.1, ()), (x.2.1.1, x.2.1.2.1, ()), x.2.2.1, ()))))
/-- What all cost, of the sums of each. -/
def totS : List Int → Int → Int
  | [], a => a
  | s :: l, a => totS l (min (a + s) LTop)
theorem totS_in : ∀ {l : List Int} {a : Int}, 0 ≤ a → a ≤ LTop → (∀ s ∈ l, 0 ≤ s ∧ s ≤ LTop) → 0 ≤ totS l a ∧ totS l a ≤ LTop
  | [], a, h0, h1, _ => ⟨h0, h1⟩
  | s :: l, a, h0, h1, h => by
    have := h s List.mem_cons_self
    exact totS_in (l := l) (by omega) (by omega) fun q hq => h q (List.mem_cons_of_mem _ hq)
theorem totS_app {a s : Int} : ∀ {l : List Int}, totS (l ++ [s]) a = min (totS l a + s) LTop
  | [] => rfl
  | q :: l => totS_app (l := l)
theorem tot_loop {f : Nat → LToA → Option LToO} (hf : ∀ m x, f (m + 1) x = stTot (f m) x) {N : Nat} (hN : Big N) (a : Int) (b : Bool) {rs : List LRow} (hrs : rs.length ≤ 1000) (hok : ∀ r ∈ rs, 0 ≤ r.2.2.2.2 ∧ r.2.2.2.2 ≤ LTop) :
    f N ((0, (rs.length : Int), 0, ()), (a, b, ()), rs, ()) = some (.inl ((totS (rs.map (·.2.2.2.2)) 0, ()), (a, b, ()), rs, ())) := by
  unfold Big at hN
  have hT : LTop = 1125899906842624 := rfl
  have loop : ∀ m (i : Nat) x, i ≤ rs.length → x = ((totS ((rs.take i).map (·.2.2.2.2)) 0, (rs.length : Int), (i : Int), ()), (a, b, ()), rs, ()) → rs.length - i < m → Tot (f m x) fun o => o = .inl ((totS (rs.map (·.2.2.2.2)) 0, ()), (a, b, ()), rs, ()) := by
    refine Tot.range rs.length fun m i x ha hi rec => ?_
    subst ha
    rw [hf]
    unfold stTot
    by_cases hlt : i < rs.length
    · have d0 : decide ((0 : Int) ≤ (i : Int)) = true := decide_eq_true (by omega)
      have d1 : decide ((i : Int) < ((rs.length : Nat) : Int)) = true := decide_eq_true (by omega)
      have hi2 := hok _ (List.getElem_mem hlt)
      have hin := totS_in (l := (rs.take i).map (·.2.2.2.2)) (a := 0) (by omega) (by omega) (fun s hs => by
        obtain ⟨r, hr, rfl⟩ := List.mem_map.1 hs
        exact hok r (List.mem_of_mem_take hr))
      simp only [d0, d1, Bool.and_self, br_true, Int.toNat_natCast, at_lt hlt, Option.bind_some, wi (i := i) (by omega), List.foldl_cons, List.foldl_nil]
      rw [w64 (by omega) (by omega)]
      refine rec (i + 1) _ (by omega) (by omega) ?_
      rw [List.take_add_one, at_lt hlt, List.map_append]
      simp only [Option.toList_some, List.map_cons, List.map_nil, totS_app]
    · have d1 : decide ((i : Int) < ((rs.length : Nat) : Int)) = false := decide_eq_false (by omega)
      simp only [d1, br_false]
      rw [List.take_of_length_le (by omega)]
      exact Tot.some rfl
  obtain ⟨o, e, rfl⟩ := loop N 0 ((0, (rs.length : Int), 0, ()), (a, b, ()), rs, ()) (by omega) rfl (by omega)
  exact e
theorem totS_mono : ∀ {l l' : List Int} {a a' : Int}, a ≤ a' → l.length = l'.length → (∀ (i : Nat) s s', l[i]? = some s → l'[i]? = some s' → s ≤ s') → totS l a ≤ totS l' a'
  | [], [], a, a', h, _, _ => h
  | s :: l, s' :: l', a, a', h, hl, hs => by
    have h0 := hs 0 s s' rfl rfl
    exact totS_mono (l := l) (l' := l') (by omega) (by simpa using hl) fun i q q' e e' => hs (i + 1) q q' (by simpa using e) (by simpa using e')
  | [], _ :: _, _, _, _, hl, _ => by simp at hl
  | _ :: _, [], _, _, _, hl, _ => by simp at hl
/-- What ticks make of a group. -/
def rowT {M : Type} (ll : List (List LInst)) (g : LGrp M) : LRow := ll.foldl (fun r l => more l r) (row0 g)
theorem rowT_name {M : Type} (ll : List (List LInst)) (g : LGrp M) : (rowT ll g).1 = g.1 := by
  have : ∀ (ll : List (List LInst)) (r : LRow), (ll.foldl (fun r l => more l r) r).1 = r.1 := fun ll => by
    induction ll with
    | nil => intro r; rfl
    | cons l ll ih => intro r; rw [List.foldl_cons, ih]; rfl
  exact this ll _
theorem rowT_snoc {M : Type} (ll : List (List LInst)) (l : List LInst) (g : LGrp M) : rowT (ll ++ [l]) g = more l (rowT ll g) := by unfold rowT; rw [List.foldl_append]; rfl
theorem row0_ok {M : Type} {g : LGrp M} (h0 : 0 ≤ g.2.2.2.2.1) (h1 : g.2.2.2.2.1 ≤ LTop) : okRow 0 (row0 g) :=
  ⟨h0, h1, by simp only [row0]; omega, by simp only [row0]; omega, by simp only [row0]; omega, by simp only [row0]; omega, by simp only [row0]; omega, by simp only [row0]; omega⟩
theorem rowT_ok {M : Type} {ll : List (List LInst)} (hl : ∀ l ∈ ll, l.length ≤ 60) {g : LGrp M} (h0 : 0 ≤ g.2.2.2.2.1) (h1 : g.2.2.2.2.1 ≤ LTop) : ∀ i, i ≤ ll.length → okRow i (rowT (ll.take i) g)
  | 0, _ => row0_ok h0 h1
  | i + 1, h => by
    have hlt : i < ll.length := by omega
    rw [List.take_add_one, at_lt hlt]
    show okRow (i + 1) (rowT (ll.take i ++ [ll[i]]) g)
    rw [rowT_snoc]
    exact okRow_more (hl _ (List.getElem_mem hlt)) (rowT_ok hl h0 h1 i (by omega))
end Go.Proofs.Ytiiiipdnodgkmaa.Lt
