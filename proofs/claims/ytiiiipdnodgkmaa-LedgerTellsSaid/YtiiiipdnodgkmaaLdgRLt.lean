/- Ledger: the document's table. -/
import Derived.Test.YtiiiipdnodgkmaaLdgLLt
namespace Go.Proofs.Ytiiiipdnodgkmaa.Lt
open Go Go.VI
set_option linter.unusedVariables false
set_option linter.unusedSimpArgs false
set_option maxRecDepth 100000

theorem ref35_count_is (N : Nat) (hN : Big N) {l : List LInst} (hl : l.length ≤ 1000) (name : ByteArray) : G_ref35_count N (l, name, ()) = some ((cnt l name : Int), ()) := by
  unfold Big at hN
  have loop : ∀ m (i : Nat) x, i ≤ l.length → x = ((l, name, (cnt (l.take i) name : Int), (i : Int), ()), ()) → l.length - i < m → Tot (g_ref35_count_3 N m x) fun o => o = .inl (((cnt l name : Int), ()), ()) := by
    refine Tot.range l.length fun m i x ha hi rec => ?_
    subst ha
    rw [g_ref35_count_3_succ]
    unfold s_ref35_count_3
    by_cases hlt : i < l.length
    · have d0 : decide ((0 : Int) ≤ (i : Int)) = true := decide_eq_true (by omega)
      have d1 : decide ((i : Int) < ((l.length : Nat) : Int)) = true := decide_eq_true (by omega)
      have hc : cnt (l.take (i + 1)) name = cnt (l.take i) name + (if (!decide (l[i].2.2.1 = (3 : Int)) && decide (l[i].2.1 = name)) = true then 1 else 0) := by
        unfold cnt
        rw [List.take_add_one, at_lt hlt, List.filter_append, List.length_append]
        simp only [Option.toList_some, List.filter_cons, List.filter_nil]
        split <;> rfl
      have hle := cnt_le (l.take i) name
      have hlen : (l.take i).length ≤ i := by rw [List.length_take]; omega
      simp only [d0, d1, br_true, Int.toNat_natCast, at_lt hlt, Option.bind_some, wi (i := i) (by omega), wi (i := cnt (l.take i) name) (by omega)]
      cases h3 : decide (l[i].2.2.1 = (3 : Int)) <;> cases h4 : decide (l[i].2.1 = name) <;> rw [h3, h4] at hc <;> simp only [br_true, br_false, Bool.not_true, Bool.not_false] <;> refine rec (i + 1) _ (by omega) (by omega) ?_ <;> rw [hc] <;> rfl
    · have d1 : decide ((i : Int) < ((l.length : Nat) : Int)) = false := decide_eq_false (by omega)
      simp only [d1, br_false]
      rw [List.take_of_length_le (by omega)]
      exact Tot.some rfl
  unfold G_ref35_count S_ref35_count
  obtain ⟨o, e, rfl⟩ := loop N 0 ((l, name, 0, 0, ()), ()) (by omega) rfl (by omega)
  rw [e]; rfl

def allT (ll : List (List LInst)) (name : ByteArray) : Int := ll.foldl (fun a l => a + (cnt l name : Int)) 0
def peakT (ll : List (List LInst)) (name : ByteArray) : Int := ll.foldl (fun a l => max a (cnt l name : Int)) 0
theorem allT_snoc (ll : List (List LInst)) (l : List LInst) (name : ByteArray) : allT (ll ++ [l]) name = allT ll name + (cnt l name : Int) := by unfold allT; rw [List.foldl_append]; rfl
theorem peakT_snoc (ll : List (List LInst)) (l : List LInst) (name : ByteArray) : peakT (ll ++ [l]) name = max (peakT ll name) (cnt l name : Int) := by unfold peakT; rw [List.foldl_append]; rfl
theorem allT_in {ll : List (List LInst)} (hl : ∀ l ∈ ll, l.length ≤ 60) (name : ByteArray) : ∀ i, i ≤ ll.length → 0 ≤ allT (ll.take i) name ∧ allT (ll.take i) name ≤ 60 * (i : Int)
  | 0, _ => ⟨Int.le_refl _, by show (0 : Int) ≤ _; omega⟩
  | i + 1, h => by
    have hlt : i < ll.length := by omega
    have ih := allT_in hl name i (by omega)
    rw [List.take_add_one, at_lt hlt]
    show 0 ≤ allT (ll.take i ++ [ll[i]]) name ∧ allT (ll.take i ++ [ll[i]]) name ≤ _
    rw [allT_snoc]
    have := cnt_le ll[i] name
    have := hl _ (List.getElem_mem hlt)
    omega
theorem rowT_is {M : Type} {g : LGrp M} (h0 : 0 ≤ g.2.2.2.2.1) {ll : List (List LInst)} (hl : ∀ l ∈ ll, l.length ≤ 60) : ∀ i, i ≤ ll.length → rowT (ll.take i) g = (g.1, g.2.2.2.2.1, allT (ll.take i) g.1, peakT (ll.take i) g.1, min (allT (ll.take i) g.1 * g.2.2.2.2.1) LTop)
  | 0, _ => by
    show row0 g = _
    simp only [row0, List.take_zero, allT, peakT, List.foldl_nil, Int.zero_mul]
    rfl
  | i + 1, h => by
    have hlt : i < ll.length := by omega
    have ih := rowT_is h0 hl i (by omega)
    have hin := allT_in hl g.1 i (by omega)
    rw [List.take_add_one, at_lt hlt]
    show rowT (ll.take i ++ [ll[i]]) g = (g.1, g.2.2.2.2.1, allT (ll.take i ++ [ll[i]]) g.1, peakT (ll.take i ++ [ll[i]]) g.1, min (allT (ll.take i ++ [ll[i]]) g.1 * g.2.2.2.2.1) LTop)
    rw [rowT_snoc, ih, allT_snoc, peakT_snoc]
    simp only [more]
    have hq : 0 ≤ (cnt ll[i] g.1 : Int) * g.2.2.2.2.1 := Int.mul_nonneg (by omega) h0
    have hq2 : 0 ≤ allT (ll.take i) g.1 * g.2.2.2.2.1 := Int.mul_nonneg hin.1 h0
    rw [Int.add_mul]
    have : min (min (allT (ll.take i) g.1 * g.2.2.2.2.1) LTop + (cnt ll[i] g.1 : Int) * g.2.2.2.2.1) LTop = min (allT (ll.take i) g.1 * g.2.2.2.2.1 + (cnt ll[i] g.1 : Int) * g.2.2.2.2.1) LTop := by omega
    rw [this]

/-- The group that a name finds, by the document too. -/
theorem look_fnd {name : ByteArray} : ∀ (gs : List Grp) (i : Nat), (∃ g ∈ gs, g.1 = name) → ∃ (k : Nat) (g : Grp), gs[k]? = some g ∧ g.1 = name ∧ fndF name gs i = ((i + k : Nat) : Int) ∧ ∀ F : Grp → LRow, (∀ g, (F g).1 = g.1) → look (gs.map F) name = F g
  | [], _, ⟨g, h, _⟩ => by cases h
  | g :: gs, i, ⟨g', h, e⟩ => by
    by_cases hg : g.1 = name
    · exact ⟨0, g, rfl, hg, by simp only [fndF, if_pos hg]; rfl, fun F hF => by rw [List.map_cons, look, if_pos (by rw [hF]; exact hg)]⟩
    · have : ∃ g ∈ gs, g.1 = name := by
        rcases List.mem_cons.1 h with rfl | h
        · exact absurd e hg
        · exact ⟨g', h, e⟩
      obtain ⟨k, q, h1, h2, h3, h4⟩ := look_fnd gs (i + 1) this
      exact ⟨k + 1, q, h1, h2, by simp only [fndF, if_neg hg, h3]; congr 1; omega, fun F hF => by rw [List.map_cons, look, if_neg (by rw [hF]; exact hg)]; exact h4 F hF⟩

abbrev RAlA := (ByteArray × Int × Int × Unit) × ((List Grp × Unit) × List (List LInst) × Unit)
abbrev RAlO := ((Int × Unit) × ((List Grp × Unit) × List (List LInst) × Unit)) ⊕ (Unit × ((List Grp × Unit) × List (List LInst) × Unit))
def stAl (N : Nat) (op : Int → Int → Int) (k : RAlA → Option RAlO) (x : RAlA) : Option RAlO :=
  (br (decide (x.1.2.2.1 < (((List.length x.2.2.1) : Nat) : Int))) (Option.bind (G_ref16_Find N (x.2.1.1, x.1.1, ())) (fun v0 => (br (decide ((0 : Int) ≤ v0.1)) (br (Bool.and (decide ((0 : Int) ≤ x.1.2.2.1)) (decide (x.1.2.2.1 < (((List.length x.2.2.1) : Nat) : Int)))) (Option.bind (x.2.2.1[(Int.toNat x.1.2.2.1)]?) (fun v1 => (Option.bind (G_ref35_count N (v1, x.1.1, ())) (fun v2 => (k ((x.1.1, op x.1.2.1 v2.1, (IntKind.i64.wrap (x.1.2.2.1 + (1 : Int))), ()), (x.2.1.1, ()), x.2.2.1, ())))))) none) (some (Sum.inl ((x.1.2.1, ()), (x.2.1.1, ()), x.2.2.1, ())))))) (some (Sum.inl ((x.1.2.1, ()), (x.2.1.1, ()), x.2.2.1, ()))))
theorem al_loop {N : Nat} {op : Int → Int → Int} {f : Nat → RAlA → Option RAlO} (hf : ∀ m x, f (m + 1) x = stAl N op (f m) x) (hN : Big N) {gs : List Grp} (hgs : gs.length ≤ 1000) {ll : List (List LInst)} (hll : ll.length ≤ 1000) (hl : ∀ l ∈ ll, l.length ≤ 60) {name : ByteArray} (hn : 0 ≤ fnd gs name)
    (T : List (List LInst) → Int) (T0 : T [] = 0) (hT : ∀ (i : Nat) (hi : i < ll.length), op (T (ll.take i)) (cnt ll[i] name : Int) = T (ll.take (i + 1))) :
    f N ((name, 0, 0, ()), (gs, ()), ll, ()) = some (.inl ((T ll, ()), (gs, ()), ll, ())) := by
  have hN' := hN
  unfold Big at hN'
  have loop : ∀ m (i : Nat) x, i ≤ ll.length → x = ((name, T (ll.take i), (i : Int), ()), (gs, ()), ll, ()) → ll.length - i < m → Tot (f m x) fun o => o = .inl ((T ll, ()), (gs, ()), ll, ()) := by
    refine Tot.range ll.length fun m i x ha hi rec => ?_
    subst ha
    rw [hf]
    unfold stAl
    by_cases hlt : i < ll.length
    · have d0 : decide ((0 : Int) ≤ (i : Int)) = true := decide_eq_true (by omega)
      have d1 : decide ((i : Int) < ((ll.length : Nat) : Int)) = true := decide_eq_true (by omega)
      have d2 : decide ((0 : Int) ≤ fnd gs name) = true := decide_eq_true hn
      have hcount := ref35_count_is N hN (l := ll[i]) (by have := hl _ (List.getElem_mem hlt); omega) name
      simp only [d0, d1, d2, Bool.and_self, br_true, Int.toNat_natCast, at_lt hlt, Option.bind_some, ref16_Find_is N hN (by omega : gs.length ≤ 140737488355328), hcount, hT i hlt, wi (i := i) (by omega)]
      exact rec (i + 1) _ (by omega) (by omega) rfl
    · have d1 : decide ((i : Int) < ((ll.length : Nat) : Int)) = false := decide_eq_false (by omega)
      simp only [d1, br_false]
      rw [List.take_of_length_le (by omega)]
      exact Tot.some rfl
  obtain ⟨o, e, rfl⟩ := loop N 0 ((name, 0, 0, ()), (gs, ()), ll, ()) (by omega) (by rw [List.take_zero, T0]; rfl) (by omega)
  exact e

abbrev RSuA := (Int × Int × Int × Int × Unit) × ((List Grp × Unit) × List (List LInst) × Unit)
def stSu (k : RSuA → Option RAlO) (x : RSuA) : Option RAlO :=
  (br (decide (x.1.2.2.2.1 < x.1.2.2.1)) (br (decide ((0 : Int) ≤ x.1.1)) (Option.bind (x.2.1.1[(Int.toNat x.1.1)]?) (fun v0 => (k ((x.1.1, (List.foldl Min.min (IntKind.i64.wrap (x.1.2.1 + v0.2.2.2.2.1)) [(1125899906842624 : Int)]), x.1.2.2.1, (IntKind.i64.wrap (x.1.2.2.2.1 + (1 : Int))), ()), (x.2.1.1, ()), x.2.2.1, ())))) none) (some (Sum.inl ((x.1.2.1, ()), (x.2.1.1, ()), x.2.2.1, ()))))
theorem su_loop {N : Nat} {f : Nat → RSuA → Option RAlO} (hf : ∀ m x, f (m + 1) x = stSu (f m) x) (hN : Big N) {gs : List Grp} {k : Nat} {g : Grp} (hk : gs[k]? = some g) (h0 : 0 ≤ g.2.2.2.2.1) (h1 : g.2.2.2.2.1 ≤ LTop) {n : Int} (hn0 : 0 ≤ n) (hn1 : n ≤ 100000) (ll : List (List LInst)) :
    f N (((k : Int), 0, n, 0, ()), (gs, ()), ll, ()) = some (.inl ((min (n * g.2.2.2.2.1) LTop, ()), (gs, ()), ll, ())) := by
  unfold Big at hN
  have hT : LTop = 1125899906842624 := rfl
  obtain ⟨n, rfl⟩ : ∃ q : Nat, n = (q : Int) := ⟨n.toNat, (Int.toNat_of_nonneg hn0).symm⟩
  have loop : ∀ m (j : Nat) x, j ≤ n → x = (((k : Int), min ((j : Int) * g.2.2.2.2.1) LTop, (n : Int), (j : Int), ()), (gs, ()), ll, ()) → n - j < m → Tot (f m x) fun o => o = .inl ((min ((n : Int) * g.2.2.2.2.1) LTop, ()), (gs, ()), ll, ()) := by
    refine Tot.range n fun m j x ha hj rec => ?_
    subst ha
    rw [hf]
    unfold stSu
    by_cases hjn : j < n
    · have d0 : decide ((0 : Int) ≤ (k : Int)) = true := decide_eq_true (by omega)
      have d1 : decide ((j : Int) < (n : Int)) = true := decide_eq_true (by omega)
      have hp : 0 ≤ (j : Int) * g.2.2.2.2.1 := Int.mul_nonneg (by omega) h0
      have e1 : ((j + 1 : Nat) : Int) * g.2.2.2.2.1 = (j : Int) * g.2.2.2.2.1 + g.2.2.2.2.1 := by rw [Int.natCast_succ, Int.add_mul, Int.one_mul]
      simp only [d0, d1, br_true, Int.toNat_natCast, hk, Option.bind_some, List.foldl_cons, List.foldl_nil, wi (i := j) (by omega)]
      refine rec (j + 1) _ (by omega) (by omega) ?_
      rw [w64 (by omega) (by omega), e1]
      have : min (min ((j : Int) * g.2.2.2.2.1) LTop + g.2.2.2.2.1) 1125899906842624 = min ((j : Int) * g.2.2.2.2.1 + g.2.2.2.2.1) LTop := by omega
      rw [this]
    · have d1 : decide ((j : Int) < (n : Int)) = false := decide_eq_false (by omega)
      have : j = n := by omega
      subst this
      simp only [d1, br_false]
      exact Tot.some rfl
  obtain ⟨o, e, rfl⟩ := loop N 0 (((k : Int), 0, (n : Int), 0, ()), (gs, ()), ll, ()) (by omega) (by
    have : ((0 : Nat) : Int) * g.2.2.2.2.1 = 0 := by simp
    rw [this]; rfl) (by omega)
  exact e
end Go.Proofs.Ytiiiipdnodgkmaa.Lt
