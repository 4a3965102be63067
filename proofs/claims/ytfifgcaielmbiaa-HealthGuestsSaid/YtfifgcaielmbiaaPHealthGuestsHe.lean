/- HealthGuests: what the law computes is true. -/
import Derived.Test.YtfifgcaielmbiaaGrpLHe
import Derived.Test.YtfifgcaielmbiaaGrpFHe
import Derived.Test.YtfifgcaielmbiaaGrpNHe
import Derived.Test.YtfifgcaielmbiaaNumGHe
import Derived.Test.YtfifgcaielmbiaaNumFHe
import Derived.Test.YtfifgcaielmbiaaMacEHe
namespace Go.Proofs.Ytfifgcaielmbiaa.He
open Go Go.VI
set_option linter.unusedVariables false
set_option linter.unusedSimpArgs false
set_option maxRecDepth 100000

theorem known_is (m : Nat) : G_law29_known (m + 300) () = some (true, ()) := by kernel_rfl
abbrev Inst := ByteArray × ByteArray × Int × Int × Int
@[reducible] def tyInst : Ty := (.agg (.pair .str (.pair .str (.pair (.int .i64) (.pair (.int .i64) (.int .i64))))))
theorem light29_tot (N : Nat) (hN : Big N) (l : List Inst) (hl : l.length ≤ 140737488355328) : Tot (G_law29_light N (l, ())) fun v => v.1 = true → l.length ≤ 60 ∧ ∀ x ∈ l, x.1.size ≤ 300 := by
  have hN' := hN
  unfold Big at hN'
  have loop := Tot.all (f := g_law29_light_4 N) (Inv := fun i x => x = ((l, (i : Int), ()), ())) (Y := fun o => ∃ y, o = .inl y) (No := fun o => ∃ y, o = .inr ((false, ()), y)) l.length
    (atP (fun x : Inst => decide (x.1.size ≤ 300) && decide (x.2.1.size ≤ 300)) l)
    (fun m a ha => by
      subst ha
      rw [g_law29_light_4_succ]
      unfold s_law29_light_4
      exact Tot.brD (fun h => absurd h (by dsimp only; omega)) fun _ => Tot.some ⟨_, rfl⟩)
    (fun m i a Q ha hi rec no => by
      subst ha
      rw [g_law29_light_4_succ]
      unfold s_law29_light_4
      have d0 : decide ((0 : Int) ≤ (i : Int)) = true := decide_eq_true (by omega)
      have d1 : decide ((i : Int) < ((l.length : Nat) : Int)) = true := decide_eq_true (by omega)
      simp only [d0, d1, br_true, Int.toNat_natCast, at_lt hi, Option.bind_some, wi (i := i) (by omega)]
      rw [atP_lt hi] at rec no
      by_cases h1 : l[i].1.size ≤ 300
      · rw [decide_eq_false (show ¬ (300 : Int) < ((l[i].1.size : Nat) : Int) by omega), br_false]
        rw [decide_eq_true h1] at rec no
        by_cases h2 : l[i].2.1.size ≤ 300
        · rw [decide_eq_false (show ¬ (300 : Int) < ((l[i].2.1.size : Nat) : Int) by omega), br_false]
          rw [decide_eq_true h2] at rec
          exact rec rfl _ rfl
        · rw [decide_eq_true (show (300 : Int) < ((l[i].2.1.size : Nat) : Int) by omega), br_true]
          rw [decide_eq_false h2] at no
          exact Tot.some (no rfl _ ⟨_, rfl⟩)
      · rw [decide_eq_true (show (300 : Int) < ((l[i].1.size : Nat) : Int) by omega), br_true]
        rw [decide_eq_false h1] at no
        exact Tot.some (no rfl _ ⟨_, rfl⟩))
    N 0 ((l, 0, ()), ()) (by omega) rfl (by omega)
  obtain ⟨o, e, ho⟩ := loop
  rw [Nat.sub_zero, all_full] at ho
  unfold G_law29_light S_law29_light
  simp only [e, Option.bind_some]
  refine Tot.brD (fun _ => Tot.some fun h => by cases h) fun h => ?_
  have h : ¬ ((60 : Int) < ((l.length : Nat) : Int)) := h
  split at ho
  · rename_i hy
    obtain ⟨y, rfl⟩ := ho
    refine Tot.some fun _ => ⟨by omega, fun x hx => ?_⟩
    have := List.all_eq_true.1 hy x hx
    simp only [Bool.and_eq_true, decide_eq_true_eq] at this
    exact this.1
  · obtain ⟨y, rfl⟩ := ho; exact Tot.some fun h => by cases h

/-- The machine that an instance will be. -/
def guestB (gs : List Grp) (x : Inst) : Option Mach := if fnd gs x.2.1 < 0 then none else match gs[(fnd gs x.2.1).toNat]? with
  | some g => if 0 < numL (hdG g) x.1.data.toList then some (machB g (numL (hdG g) x.1.data.toList : Int)) else none
  | none => none
theorem fndF_lt (name : ByteArray) : ∀ (l : List Grp) (i : Nat), fndF name l i < ((i + l.length : Nat) : Int)
  | [], i => by simp only [fndF]; omega
  | g :: l, i => by
    simp only [fndF]
    split
    · simp only [List.length_cons]; omega
    · have := fndF_lt name l (i + 1)
      simp only [List.length_cons]; omega
theorem fnd_lt {l : List Grp} {name : ByteArray} (h : ¬ fnd l name < 0) : (fnd l name).toNat < l.length := by
  have := fndF_lt name l 0
  unfold fnd at h ⊢
  omega
theorem fmap_succ {α β : Type} {f : α → Option β} {l : List α} {i : Nat} (h : i < l.length) : (l.take (i + 1)).filterMap f = (l.take i).filterMap f ++ (f l[i]).toList := by
  rw [List.take_add_one, at_lt h, List.filterMap_append]
  simp only [Option.toList_some, List.filterMap_cons, List.filterMap_nil]
  cases f l[i] <;> rfl
theorem ble_fmap {α β : Type} {f : α → Option β} {l : List α} {i : Nat} (h : l.length ≤ 1000000) : Nat.ble (((l.take i).filterMap f).length + 1) maxElems = true :=
  Nat.ble_eq_true_of_le (by
    have : ((l.take i).filterMap f).length ≤ l.length := Nat.le_trans (List.length_filterMap_le _ _) (by rw [List.length_take]; omega)
    unfold maxElems; omega)
theorem pureHealthGuests (x : List Grp × List Inst × Unit) (hw : Ty.wf (.slice tyGrp) x.1 ∧ Ty.wf (.slice tyInst) x.2.1 ∧ True) : ∃ N, G_law29_HealthGuests N x = some (true, ()) := by
  obtain ⟨gs, l, ⟨⟩⟩ := x
  have hgs : okGs gs := okGs_of hw.1
  have hl : l.length ≤ 140737488355328 := Nat.le_trans hw.2.1.1 reach_le
  clear hw
  refine ⟨281474976710656 + 300, ?_⟩
  have hk := known_is 281474976710656
  have hN := big
  generalize 281474976710656 + 300 = N at *
  have hN' := hN
  unfold Big at hN'
  obtain ⟨⟨b1, ⟨⟩⟩, e1, k1⟩ := ref16_Light_tot N hN hgs
  obtain ⟨⟨b2, ⟨⟩⟩, e2, k2⟩ := light29_tot N hN l hl
  unfold G_law29_HealthGuests S_law29_HealthGuests
  simp only [e1, e2, hk, ref16_Right_is N hN hgs, Option.bind_some]
  cases b1
  · rfl
  cases hr : rightGs N gs
  · rfl
  cases b2
  · rfl
  obtain ⟨hlen, hnm⟩ := k2 rfl
  simp only [Bool.not_true, br_false]
  unfold rightGs at hr
  rw [Bool.and_eq_true, allN_iff] at hr
  have lit : ∀ i (hi : i < gs.length), litG gs[i] := fun i hi => by
    have := hr.2 i (by omega) (by omega)
    unfold okGr at this
    rw [at_lt hi] at this
    simp only [Bool.and_eq_true, decide_eq_true_eq] at this
    obtain ⟨r1, r2, _⟩ := this
    unfold rightG at r1
    simp only [Bool.and_eq_true] at r1
    have r3 := r1.2.2.2.2.2.1
    unfold rightM at r3
    simp only [Bool.and_eq_true] at r3
    have r4 := r3.2.2.2.1
    have r5 := r3.2.2.2.2
    unfold rightL at r4
    unfold rightT at r5
    simp only [Bool.and_eq_true, decide_eq_true_eq] at r4 r5
    exact ⟨by omega, by omega, by omega⟩
  have gl1 : ∀ m (i : Nat) y, i ≤ l.length → y = ((gs, l, (l.length : Int), (i : Int), ()), (l.take i).filterMap (guestB gs), ()) → l.length - i < m → Tot (g_health_Guests_3 N m y) fun o => o = .inl ((), l.filterMap (guestB gs), ()) := by
    refine Tot.range l.length fun m i y hy hi rec => ?_
    subst hy
    rw [g_health_Guests_3_succ]
    unfold s_health_Guests_3
    by_cases hlt : i < l.length
    · have d0 : decide ((0 : Int) ≤ (i : Int)) = true := decide_eq_true (by omega)
      have d1 : decide ((i : Int) < ((l.length : Nat) : Int)) = true := decide_eq_true (by omega)
      have hs := fmap_succ (f := guestB gs) hlt
      have hF := group_Find_is N hN hgs.1 l[i].2.1
      simp only [d0, d1, br_true, Int.toNat_natCast, at_lt hlt, Option.bind_some, hF, wi (i := i) (by omega)]
      by_cases c : fnd gs l[i].2.1 < 0
      · rw [decide_eq_true c, br_true]
        refine rec (i + 1) _ (by omega) (by omega) ?_
        rw [hs]
        unfold guestB
        rw [if_pos c]
        simp
      · have hlt2 := fnd_lt c
        have hNum := group_Number_is N hN (lit _ hlt2) (name := l[i].1) (by have := hnm _ (List.getElem_mem hlt); omega)
        rw [decide_eq_false c, br_false, decide_eq_true (show (0 : Int) ≤ fnd gs l[i].2.1 by omega), br_true]
        simp only [at_lt hlt2, Option.bind_some, hNum, br_true]
        have hM := group_Machine_is N hN (lit _ hlt2) (numL (hdG gs[(fnd gs l[i].2.1).toNat]) l[i].1.data.toList : Int)
        by_cases hz : 0 < numL (hdG gs[(fnd gs l[i].2.1).toNat]) l[i].1.data.toList
        · rw [decide_eq_true (show (0 : Int) < ((numL (hdG gs[(fnd gs l[i].2.1).toNat]) l[i].1.data.toList : Nat) : Int) by omega), br_true]
          simp only [hM, Option.bind_some, ble_fmap (f := guestB gs) (l := l) (i := i) (by omega), br_true]
          refine rec (i + 1) _ (by omega) (by omega) ?_
          rw [hs]
          have : guestB gs l[i] = some (machB gs[(fnd gs l[i].2.1).toNat] (numL (hdG gs[(fnd gs l[i].2.1).toNat]) l[i].1.data.toList : Int)) := by
            unfold guestB
            rw [if_neg c, at_lt hlt2]
            exact if_pos hz
          rw [this]; rfl
        · rw [decide_eq_false (show ¬ (0 : Int) < ((numL (hdG gs[(fnd gs l[i].2.1).toNat]) l[i].1.data.toList : Nat) : Int) by omega), br_false]
          refine rec (i + 1) _ (by omega) (by omega) ?_
          rw [hs]
          have : guestB gs l[i] = none := by
            unfold guestB
            rw [if_neg c, at_lt hlt2]
            exact if_neg hz
          rw [this]; simp
    · have d1 : decide ((i : Int) < ((l.length : Nat) : Int)) = false := decide_eq_false (by omega)
      simp only [d1, br_false]
      rw [List.take_of_length_le (by omega)]
      exact Tot.some rfl
  have gl2 : ∀ m (i : Nat) y, i ≤ l.length → y = ((gs, l, (i : Int), ()), (l.take i).filterMap (guestB gs), ()) → l.length - i < m → Tot (g_ref29_Guests_3 N m y) fun o => o = .inl ((), l.filterMap (guestB gs), ()) := by
    refine Tot.range l.length fun m i y hy hi rec => ?_
    subst hy
    rw [g_ref29_Guests_3_succ]
    unfold s_ref29_Guests_3
    by_cases hlt : i < l.length
    · have d0 : decide ((0 : Int) ≤ (i : Int)) = true := decide_eq_true (by omega)
      have d1 : decide ((i : Int) < ((l.length : Nat) : Int)) = true := decide_eq_true (by omega)
      have hs := fmap_succ (f := guestB gs) hlt
      have hF := ref16_Find_is N hN hgs.1 l[i].2.1
      simp only [d0, d1, br_true, Int.toNat_natCast, at_lt hlt, Option.bind_some, hF, wi (i := i) (by omega)]
      by_cases c : fnd gs l[i].2.1 < 0
      · rw [decide_eq_true c, br_true]
        refine rec (i + 1) _ (by omega) (by omega) ?_
        rw [hs]
        unfold guestB
        rw [if_pos c]
        simp
      · have hlt2 := fnd_lt c
        have hNum := ref16_Number_is N hN (lit _ hlt2) (name := l[i].1) (by have := hnm _ (List.getElem_mem hlt); omega)
        rw [decide_eq_false c, br_false, decide_eq_true (show (0 : Int) ≤ fnd gs l[i].2.1 by omega), br_true]
        simp only [at_lt hlt2, Option.bind_some, hNum, br_true]
        have hM := ref16_Machine_is N hN (lit _ hlt2) (numL (hdG gs[(fnd gs l[i].2.1).toNat]) l[i].1.data.toList : Int)
        by_cases hz : 0 < numL (hdG gs[(fnd gs l[i].2.1).toNat]) l[i].1.data.toList
        · rw [decide_eq_true (show (0 : Int) < ((numL (hdG gs[(fnd gs l[i].2.1).toNat]) l[i].1.data.toList : Nat) : Int) by omega), br_true]
          simp only [hM, Option.bind_some, ble_fmap (f := guestB gs) (l := l) (i := i) (by omega), br_true]
          refine rec (i + 1) _ (by omega) (by omega) ?_
          rw [hs]
          have : guestB gs l[i] = some (machB gs[(fnd gs l[i].2.1).toNat] (numL (hdG gs[(fnd gs l[i].2.1).toNat]) l[i].1.data.toList : Int)) := by
            unfold guestB
            rw [if_neg c, at_lt hlt2]
            exact if_pos hz
          rw [this]; rfl
        · rw [decide_eq_false (show ¬ (0 : Int) < ((numL (hdG gs[(fnd gs l[i].2.1).toNat]) l[i].1.data.toList : Nat) : Int) by omega), br_false]
          refine rec (i + 1) _ (by omega) (by omega) ?_
          rw [hs]
          have : guestB gs l[i] = none := by
            unfold guestB
            rw [if_neg c, at_lt hlt2]
            exact if_neg hz
          rw [this]; simp
    · have d1 : decide ((i : Int) < ((l.length : Nat) : Int)) = false := decide_eq_false (by omega)
      simp only [d1, br_false]
      rw [List.take_of_length_le (by omega)]
      exact Tot.some rfl
  obtain ⟨o1, a1, rfl⟩ := gl1 N 0 _ (by omega) rfl (by omega)
  obtain ⟨o2, a2, rfl⟩ := gl2 N 0 _ (by omega) rfl (by omega)
  have f1 : G_health_Guests N (gs, l, ()) = some (l.filterMap (guestB gs), ()) := by
    have a1 : g_health_Guests_3 N N ((gs, l, (l.length : Int), 0, ()), [], ()) = _ := a1
    unfold G_health_Guests S_health_Guests
    simp only [a1, Option.bind_some, Sum.elim_inl]
  have f2 : G_ref29_Guests N (gs, l, ()) = some (l.filterMap (guestB gs), ()) := by
    have a2 : g_ref29_Guests_3 N N ((gs, l, 0, ()), [], ()) = _ := a2
    unfold G_ref29_Guests S_ref29_Guests
    simp only [a2, Option.bind_some, Sum.elim_inl]
  simp only [f1, f2, Option.bind_some, decide_true, Bool.not_true, br_false]
  have hml : ∀ m ∈ l.filterMap (guestB gs), m.2.2.2.1.length ≤ 1000000 ∧ m.2.2.2.2.1.length ≤ 1000000 := fun m hm => by
    obtain ⟨x, _, hx⟩ := List.mem_filterMap.1 hm
    unfold guestB at hx
    split at hx
    · cases hx
    rename_i c
    have hlt2 := fnd_lt c
    rw [at_lt hlt2] at hx
    have hx : (if 0 < numL (hdG gs[(fnd gs x.2.1).toNat]) x.1.data.toList then some (machB gs[(fnd gs x.2.1).toNat] (numL (hdG gs[(fnd gs x.2.1).toNat]) x.1.data.toList : Int)) else none) = some m := hx
    split at hx
    · injection hx with hx
      obtain ⟨l1, l2, l3⟩ := lit _ hlt2
      rw [← hx]
      unfold machB
      split
      · exact ⟨by show 0 ≤ _; omega, by show 0 ≤ _; omega⟩
      · exact ⟨by show _ ≤ 1000000; exact Nat.le_trans l2 (by omega), by show _ ≤ 1000000; exact Nat.le_trans l3 (by omega)⟩
    · cases hx
  have hfl : (l.filterMap (guestB gs)).length ≤ l.length := List.length_filterMap_le _ _
  generalize l.filterMap (guestB gs) = ms at hml hfl ⊢
  have last : ∀ m (i : Nat) y, i ≤ ms.length → y = ((ms, ms, (i : Int), ()), ()) → ms.length - i < m → Tot (g_law29_HealthGuests_8 N m y) fun o => ∃ y, o = .inl y := by
    refine Tot.range ms.length fun m i y hy hi rec => ?_
    subst hy
    rw [g_law29_HealthGuests_8_succ]
    unfold s_law29_HealthGuests_8
    by_cases hlt : i < ms.length
    · have d0 : decide ((0 : Int) ≤ (i : Int)) = true := decide_eq_true (by omega)
      have d1 : decide ((i : Int) < ((ms.length : Nat) : Int)) = true := decide_eq_true (by omega)
      obtain ⟨q1, q2⟩ := hml _ (List.getElem_mem hlt)
      have hS := SameMachine_same N hN ms[i] q1 q2
      simp only [d0, d1, br_true, Int.toNat_natCast, at_lt hlt, Option.bind_some, hS, Bool.not_true, br_false, wi (i := i) (by omega)]
      exact rec (i + 1) _ (by omega) (by omega) rfl
    · have d1 : decide ((i : Int) < ((ms.length : Nat) : Int)) = false := decide_eq_false (by omega)
      simp only [d1, br_false]
      exact Tot.some ⟨_, rfl⟩
  obtain ⟨o3, a3, y3, rfl⟩ := last N 0 ((ms, ms, 0, ()), ()) (by omega) rfl (by omega)
  simp only [a3, Option.bind_some, Sum.elim_inl]
end Go.Proofs.Ytfifgcaielmbiaa.He
