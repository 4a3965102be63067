/- TaintsMore: what the law computes is true. -/
import Derived.Test.YtfifgcaielmbiaaTaiAPTrD
import Derived.Test.YtfifgcaielmbiaaTaiDPTrD
namespace Go.Proofs.Ytfifgcaielmbiaa.TrD
open Go Go.VI
set_option linter.unusedVariables false
set_option linter.unusedSimpArgs false
set_option maxRecDepth 100000

theorem known_is (m : Nat) : G_law06_known (m + 300) () = some (true, ()) := by kernel_rfl
def freshKey : ByteArray := ByteArray.mk (List.toArray [102, 114, 101, 115, 104])
theorem borne_more (l : List Tol) (t : Tol) (x : Tai) : borneB (l ++ [t]) x = (borneB l x || bearB t x) := by
  unfold borneB; rw [List.any_append]; simp
theorem unb_more (l : List Tol) (t : Tol) (xs : List Tai) : xs.filter (unbB (l ++ [t]) 0) = (xs.filter (unbB l 0)).filter (fun x => !bearB t x) := by
  rw [List.filter_filter]
  congr 1
  funext x
  unfold unbB
  rw [borne_more]
  cases ofB 0 x <;> cases borneB l x <;> cases bearB t x <;> rfl
theorem sub_step {α : Type} {x y : α} {l m : List α} (h : (x :: l).Sublist (y :: m)) : (y ≠ x → (x :: l).Sublist m) ∧ (y = x → l.Sublist m) := by
  constructor
  · intro hne
    cases h with
    | cons _ h => exact h
    | cons_cons _ h => exact absurd rfl hne
  · intro e
    cases h with
    | cons _ h => exact (List.sublist_cons_self _ _).trans h
    | cons_cons _ h => exact h
theorem pureTaintsMore (x : List Tol × List Tai × Tol × Unit) (hw : Ty.wf (.slice tyTol) x.1 ∧ Ty.wf (.slice tyTai) x.2.1 ∧ Ty.wf tyTol x.2.2.1 ∧ True) : ∃ N, G_law06_TaintsMore N x = some (true, ()) := by
  obtain ⟨l, xs, t, ⟨⟩⟩ := x
  have hl : l.length ≤ 140737488355328 := Nat.le_trans hw.1.1 reach_le
  have hx : xs.length ≤ 140737488355328 := Nat.le_trans hw.2.1.1 reach_le
  clear hw
  refine ⟨281474976710656 + 300, ?_⟩
  have hk := known_is 281474976710656
  have hN := big
  generalize 281474976710656 + 300 = N at *
  have hN' := hN
  unfold Big at hN'
  obtain ⟨⟨b1, ⟨⟩⟩, e1, k1⟩ := ref06_Light_tot N hN l xs hl hx
  unfold G_law06_TaintsMore S_law06_TaintsMore
  simp only [e1, hk, Option.bind_some]
  cases b1
  · rfl
  obtain ⟨hl40, hx40⟩ := k1 rfl
  simp only [Bool.not_true, br_false]
  by_cases hz : (300 : Int) < ((t.1.size : Nat) : Int)
  · rw [decide_eq_true hz]; rfl
  rw [decide_eq_false hz, br_false]
  by_cases hz2 : (300 : Int) < ((t.2.1.size : Nat) : Int)
  · rw [decide_eq_true hz2]; rfl
  rw [decide_eq_false hz2, br_false]
  have hb1 : Nat.ble (0 + l.length) maxElems = true := Nat.ble_eq_true_of_le (by unfold maxElems; omega)
  have hb2 : Nat.ble (l.length + 1) maxElems = true := Nat.ble_eq_true_of_le (by unfold maxElems; omega)
  have hlm : (l ++ [t]).length ≤ 1000000 := by rw [List.length_append]; simp only [List.length_singleton]; omega
  simp only [List.nil_append, hb1, hb2, br_true, taints_Unborne_is N hN (l := l) (xs := xs) (by omega) (by omega), taints_Unborne_is N hN (l := l ++ [t]) (xs := xs) hlm (by omega), Option.bind_some, unb_more]
  have hal := List.length_filter_le (unbB l 0) xs
  generalize xs.filter (unbB l 0) = a at hal ⊢
  have hbl := List.length_filter_le (fun x => !bearB t x) a
  have hbm : ∀ x ∈ a.filter (fun x => !bearB t x), bearB t x = false := fun x hx => by simpa using (List.mem_filter.1 hx).2
  have hsub : (a.filter (fun x => !bearB t x)).Sublist a := List.filter_sublist
  generalize a.filter (fun x => !bearB t x) = b at hbl hbm hsub ⊢
  -- the place of the next one
  have l11 : ∀ (i : Nat) (hi : i < b.length), ∀ m (at_ : Nat) y, at_ ≤ a.length → (y = ((xs, a, b, (at_ : Int), (i : Int), ()), (t, ()), ()) ∧ (b[i] :: b.drop (i + 1)).Sublist (a.drop at_)) → a.length - at_ < m →
      Tot (g_law06_TaintsMore_11 N m y) fun o => ∃ k, k < a.length ∧ o = .inl ((xs, a, b, (k : Int), (i : Int), ()), (t, ()), ()) ∧ (b.drop (i + 1)).Sublist (a.drop (k + 1)) := by
    intro i hi
    refine Tot.range a.length fun m k y hy hk rec => ?_
    obtain ⟨rfl, hs⟩ := hy
    rw [g_law06_TaintsMore_11_succ]
    unfold s_law06_TaintsMore_11
    by_cases hlt : k < a.length
    · have d0 : decide ((0 : Int) ≤ (k : Int)) = true := decide_eq_true (by omega)
      have d0' : decide ((0 : Int) ≤ (i : Int)) = true := decide_eq_true (by omega)
      have d1 : decide ((k : Int) < ((a.length : Nat) : Int)) = true := decide_eq_true (by omega)
      simp only [d0, d0', d1, br_true, Int.toNat_natCast, at_lt hlt, at_lt hi, Option.bind_some, wi (i := k) (by omega)]
      rw [List.drop_eq_getElem_cons hlt] at hs
      obtain ⟨s1, s2⟩ := sub_step hs
      generalize a[k] = u at *
      generalize b[i] = v at *
      by_cases e : u = v
      · subst e
        simp only [decide_true, Bool.and_true, Bool.not_true, br_false]
        exact Tot.some ⟨k, hlt, rfl, s2 rfl⟩
      · have hne : (Bool.and (decide (u.1 = v.1)) (Bool.and (decide (u.2.1 = v.2.1)) (Bool.and (decide (u.2.2 = v.2.2)) true))) = false := by
          cases hx : (Bool.and (decide (u.1 = v.1)) (Bool.and (decide (u.2.1 = v.2.1)) (Bool.and (decide (u.2.2 = v.2.2)) true))) with
          | false => rfl
          | true =>
            exfalso
            have hx : (decide (u.1 = v.1) && (decide (u.2.1 = v.2.1) && (decide (u.2.2 = v.2.2) && true))) = true := hx
            simp only [Bool.and_eq_true, decide_eq_true_eq] at hx
            exact e (Prod.ext hx.1 (Prod.ext hx.2.1 hx.2.2.1))
        rw [hne, Bool.not_false, br_true]
        exact rec (k + 1) _ (by omega) (by omega) ⟨rfl, s1 e⟩
    · exfalso
      have := hs.length_le
      rw [List.length_cons, List.length_drop, List.length_drop] at this
      omega
  have l9 : ∀ m (i : Nat) y, i ≤ b.length → (∃ k : Nat, k ≤ a.length ∧ y = ((xs, a, b, (k : Int), (i : Int), ()), (t, ()), ()) ∧ (b.drop i).Sublist (a.drop k)) → b.length - i < m → Tot (g_law06_TaintsMore_9 N m y) fun o => o = .inl ((xs, ()), (t, ()), ()) := by
    refine Tot.range b.length fun m i y hy hi rec => ?_
    obtain ⟨k, hk, rfl, hs⟩ := hy
    rw [g_law06_TaintsMore_9_succ]
    unfold s_law06_TaintsMore_9
    by_cases hlt : i < b.length
    · have d0 : decide ((0 : Int) ≤ (i : Int)) = true := decide_eq_true (by omega)
      have d1 : decide ((i : Int) < ((b.length : Nat) : Int)) = true := decide_eq_true (by omega)
      simp only [d1, br_true]
      rw [List.drop_eq_getElem_cons hlt] at hs
      refine Tot.bind (l11 i hlt N k _ hk ⟨rfl, hs⟩ (by omega)) fun v hv => ?_
      obtain ⟨j, hj, rfl, hs'⟩ := hv
      have d2 : decide ((j : Int) = ((a.length : Nat) : Int)) = false := decide_eq_false (by omega)
      simp only [Sum.elim_inl, d2, br_false, d0, br_true, Int.toNat_natCast, at_lt hlt, Option.bind_some, taints_Bears_is, hbm _ (List.getElem_mem hlt), wi (i := i) (by omega), wi (i := j) (by omega)]
      exact rec (i + 1) _ (by omega) (by omega) ⟨j + 1, by omega, rfl, hs'⟩
    · have d1 : decide ((i : Int) < ((b.length : Nat) : Int)) = false := decide_eq_false (by omega)
      simp only [d1, br_false]
      exact Tot.some rfl
  obtain ⟨o9, a9, rfl⟩ := l9 N 0 ((xs, a, b, 0, 0, ()), (t, ()), ()) (by omega) ⟨0, by omega, rfl, hsub⟩ (by omega)
  simp only [a9, Option.bind_some, Sum.elim_inl]
  have hall : ∀ x : Tai, borneB [(nameless, nameless, true, 0)] x = true := fun x => by
    unfold borneB bearB
    simp
  have hnil : ∀ e, xs.filter (unbB [(nameless, nameless, true, 0)] e) = [] := fun e => by
    rw [List.filter_eq_nil_iff]
    intro x _
    unfold unbB
    rw [hall]; simp
  have hal2 : allowsB [(nameless, nameless, true, 0)] xs = true := by
    unfold allowsB
    rw [Bool.not_eq_true', List.any_eq_false]
    intro x _
    rw [hall]; simp
  have u1 := taints_Unborne_is N hN (l := [(nameless, nameless, true, 0)]) (xs := xs) (by simp) (by omega) 0
  have u2 := taints_Allows_is N hN (l := [(nameless, nameless, true, 0)]) (xs := xs) (by simp) (by omega)
  rw [hnil] at u1
  rw [hal2] at u2
  simp only [u1, u2, Option.bind_some, Bool.not_true, br_false]
  rw [decide_eq_false (show ¬ (0 : Int) < ((([] : List Tai).length : Nat) : Int) by simp), br_false]
  have l21 := Tot.all (f := g_law06_TaintsMore_21 N) (Inv := fun i y => y = ((xs, (i : Int), ()), ((freshKey, nameless, 1), ()), ())) (Y := fun o => o = .inl ((xs, ()), ((freshKey, nameless, 1), ()), ())) (No := fun o => ∃ y, o = .inr ((true, ()), y)) xs.length (atP (fun x : Tai => !decide (x.1 = freshKey)) xs)
    (fun m y hy => by
      subst hy
      rw [g_law06_TaintsMore_21_succ]
      unfold s_law06_TaintsMore_21
      exact Tot.brD (fun h => absurd h (by dsimp only; omega)) fun _ => Tot.some rfl)
    (fun m i y Q hy hi rec no => by
      subst hy
      rw [g_law06_TaintsMore_21_succ]
      unfold s_law06_TaintsMore_21
      have d0 : decide ((0 : Int) ≤ (i : Int)) = true := decide_eq_true (by omega)
      have d1 : decide ((i : Int) < ((xs.length : Nat) : Int)) = true := decide_eq_true (by omega)
      simp only [d0, d1, br_true, Int.toNat_natCast, at_lt hi, Option.bind_some, hk, wi (i := i) (by omega)]
      rw [atP_lt hi] at rec no
      by_cases e : xs[i].1 = freshKey
      · rw [decide_eq_true e] at no
        rw [show decide (xs[i].1 = ByteArray.mk (List.toArray [102, 114, 101, 115, 104])) = true from decide_eq_true e, br_true]
        exact Tot.some (no rfl _ ⟨_, rfl⟩)
      · rw [decide_eq_false e] at rec
        rw [show decide (xs[i].1 = ByteArray.mk (List.toArray [102, 114, 101, 115, 104])) = false from decide_eq_false e, br_false]
        exact rec rfl _ rfl)
    N 0 ((xs, 0, ()), ((freshKey, nameless, 1), ()), ()) (by omega) rfl (by omega)
  obtain ⟨o, e21, ho⟩ := l21
  rw [Nat.sub_zero, all_full] at ho
  have e21 : g_law06_TaintsMore_21 N N ((xs, 0, ()), ((ByteArray.mk (List.toArray [102, 114, 101, 115, 104]), ByteArray.mk (List.toArray []), 1), ()), ()) = some o := e21
  simp only [e21, Option.bind_some]
  split at ho
  · rename_i hy
    subst ho
    have hno : ∀ x ∈ xs, ¬ x.1 = freshKey := fun x hx => by have := List.all_eq_true.1 hy x hx; simpa using this
    have f1 : xs.filter (addB (freshKey, nameless, 1)) = xs := List.filter_eq_self.2 fun x hx => by
      unfold addB
      rw [decide_eq_false (fun e => hno x hx e.symm)]; rfl
    have g1 := taints_Add_is N hN (l := xs) (by omega) (freshKey, nameless, 1)
    rw [f1] at g1
    have f2 : (xs ++ [((freshKey, nameless, 1) : Tai)]).filter (dropB' freshKey 0) = xs := by
      rw [List.filter_append]
      have h1 : xs.filter (dropB' freshKey 0) = xs := List.filter_eq_self.2 fun x hx => by
        unfold dropB'
        rw [decide_eq_false (hno x hx)]; rfl
      have h2 : [((freshKey, nameless, 1) : Tai)].filter (dropB' freshKey 0) = [] := by
        rw [List.filter_eq_nil_iff]
        intro x hx
        rw [List.mem_singleton.1 hx]
        unfold dropB' ofB
        simp
      rw [h1, h2, List.append_nil]
    have g2 := taints_Drop_is N hN (l := xs ++ [((freshKey, nameless, 1) : Tai)]) (by rw [List.length_append]; simp only [List.length_singleton]; omega) freshKey 0
    rw [f2] at g2
    have s3 := ref06_Same_is N hN (a := xs) (b := xs) (by omega)
    rw [decide_eq_true rfl] at s3
    have g1' : G_taints_Add N (xs, (ByteArray.mk (List.toArray [102, 114, 101, 115, 104]), ByteArray.mk (List.toArray []), 1), ()) = _ := g1
    have g2' : G_taints_Drop N (xs ++ [(freshKey, nameless, 1)], ByteArray.mk (List.toArray [102, 114, 101, 115, 104]), 0, ()) = _ := g2
    simp only [Sum.elim_inl, g1, g1', g2, g2', s3, Option.bind_some, br_true]
  · obtain ⟨y, rfl⟩ := ho; rfl
end Go.Proofs.Ytfifgcaielmbiaa.TrD
