-- PRINTED by print.py (a twelfth state) out of the translation. Not trusted: Lean checks it.
import Derived.Test.YtplgkdfmpbkfpaaHEx0
import Derived.Test.YtplgkdfmpbkfpaaHEx3
import Derived.Test.YtplgkdfmpbkfpaaHEx4
import Derived.Test.YtplgkdfmpbkfpaaHExOp
namespace Go.Proofs.Ytplgkdfmpbkfpaa.HEx
open Go.RowKit Go.Proofs.YtplgkdfmpbkfpaaW.PrintWords Go.Proofs.YtplgkdfmpbkfpaaW.PrintLast Go.Proofs.YtplgkdfmpbkfpaaW.PrintMore
attribute [local go_sem] max2_int min2_int max_two min_two max_three min_three max_four min_four   -- for this text's walks alone
attribute [local go_sem] run_store_fnW fnW_nil fnW_75 fnW_76 fnW_77 fnW_78 fnW_79
set_option linter.unusedVariables false
set_option linter.unusedSimpArgs false

/-! ### triremelaw21_ExpandOne: function 7 -/
mutual
def triremelaw21_ExpandOne.j0 : Nat → List (S27) → Int → Bool → ByteArray → Int → List ByteArray → Int → Int → Int → Option (Bool)
  | 0, _, _, _, _, _, _, _, _, _ => none
  | k + 1, x0, x7, x29, x218000, x218001, x218002, x218003, x218004, x218005 => if x29 = true then (some false) else ((expand_Choose.f k x0 x7 0).bind fun t227 => (if t227 < 0 then (triremelaw21_ExpandOne.j1 k x0 x7 t227 true x218000 x218001 x218002 x218003 x218004 x218005) else (triremelaw21_ExpandOne.j1 k x0 x7 t227 (decide (t227 ≥ (x0.length : Int))) x218000 x218001 x218002 x218003 x218004 x218005)))
def triremelaw21_ExpandOne.j1 : Nat → List (S27) → Int → Int → Bool → ByteArray → Int → List ByteArray → Int → Int → Int → Option (Bool)
  | 0, _, _, _, _, _, _, _, _, _, _ => none
  | k + 1, x0, x7, x8, x40, x218000, x218001, x218002, x218003, x218004, x218005 => if x40 = true then (if (x0.length : Int) = 0 then ((triremelaw21_known.f k).bind fun t228 => (some t228)) else (some false)) else ((some (([] : List (S27)) : List (S27))).bind fun y229 => (if y229.length + x0.length < 1954687338268 then ((some (y229 ++ x0 : List (S27))).bind fun y232 => (if y232.length < 1954687338268 then ((expand_Choose.f k (y232 ++ [(⟨x218000, x218001, x218002, x218003, x218004, x218005⟩ : S27)]) x7 0).bind fun t238 => (if 0 ≤ x8 then (if x8 < (x0.length : Int) then ((expand_Better.f k x218000 x218001 x218002 x218003 x218004 x218005 ((rd_T27 x0 x8).f0) ((rd_T27 x0 x8).f1) ((rd_T27 x0 x8).f2) ((rd_T27 x0 x8).f3) ((rd_T27 x0 x8).f4) ((rd_T27 x0 x8).f5) x7).bind fun t240 => (if t240 = true then (if t238 = (x0.length : Int) then ((triremelaw21_known.f k).bind fun t241 => (some t241)) else (some false)) else (if t238 = x8 then ((triremelaw21_known.f k).bind fun t242 => (some t242)) else (some false)))) else (none)) else (none))) else (none))) else (none)))
end
def triremelaw21_ExpandOne.f (k : Nat) (l0 : List (S27)) (a1_0 : ByteArray) (a1_1 : Int) (l1_2 : List ByteArray) (a1_3 : Int) (a1_4 : Int) (a1_5 : Int) (a2 : Int) : Option (Bool) := if (l0.length : Int) > 60 then ((triremelaw21_known.f k).bind fun t218 => (some t218)) else ((expand_Choose.f k (([(⟨a1_0, a1_1, l1_2, a1_3, a1_4, a1_5⟩ : S27)] : List (S27))) (wrap64 (1 + (Int.tmod (wrap64 (a2)) 3))) 5).bind fun t222 => (if t222 = 0 then ((expand_Choose.f k (([(⟨a1_0, a1_1, l1_2, a1_3, a1_4, a1_5⟩ : S27)] : List (S27))) 4 5).bind fun t226 => (triremelaw21_ExpandOne.j0 k l0 (wrap64 (1 + (Int.tmod (wrap64 (a2)) 3))) (t226 != 0) a1_0 a1_1 l1_2 a1_3 a1_4 a1_5)) else (triremelaw21_ExpandOne.j0 k l0 (wrap64 (1 + (Int.tmod (wrap64 (a2)) 3))) true a1_0 a1_1 l1_2 a1_3 a1_4 a1_5)))
theorem triremelaw21_ExpandOne.mono_l : ∀ k, (∀ y0 y1 y2 y3 y4 y5 y6 y7 y8, LeO (triremelaw21_ExpandOne.j0 k y0 y1 y2 y3 y4 y5 y6 y7 y8) (triremelaw21_ExpandOne.j0 (k + 1) y0 y1 y2 y3 y4 y5 y6 y7 y8)) ∧ (∀ y0 y1 y2 y3 y4 y5 y6 y7 y8 y9, LeO (triremelaw21_ExpandOne.j1 k y0 y1 y2 y3 y4 y5 y6 y7 y8 y9) (triremelaw21_ExpandOne.j1 (k + 1) y0 y1 y2 y3 y4 y5 y6 y7 y8 y9))
  | 0 => ⟨fun _ _ _ _ _ _ _ _ _ r h => by simp [triremelaw21_ExpandOne.j0] at h, fun _ _ _ _ _ _ _ _ _ _ r h => by simp [triremelaw21_ExpandOne.j1] at h⟩
  | k + 1 => by
    obtain ⟨ih0, ih1⟩ := triremelaw21_ExpandOne.mono_l k
    refine ⟨?_, ?_⟩
    · intro y0 y1 y2 y3 y4 y5 y6 y7 y8
      unfold triremelaw21_ExpandOne.j0
      repeat' first
      | (with_reducible exact ih0 _ _ _ _ _ _ _ _ _)
      | (with_reducible exact ih1 _ _ _ _ _ _ _ _ _ _)
      | (with_reducible exact expand_Better.mono _ _ _ _ _ _ _ _ _ _ _ _ _ _)
      | (with_reducible exact expand_Choose.mono _ _ _ _)
      | (with_reducible exact triremelaw21_known.mono _)
      | (with_reducible exact LeO.refl _)
      | (with_reducible exact LeO.none _)
      | (with_reducible refine LeO.ite ?_ ?_)
      | (with_reducible refine LeO.bind ?_ (fun _ => ?_))
      | exact ih0 _ _ _ _ _ _ _ _ _
      | exact ih1 _ _ _ _ _ _ _ _ _ _
      | exact expand_Better.mono _ _ _ _ _ _ _ _ _ _ _ _ _ _
      | exact expand_Choose.mono _ _ _ _
      | exact triremelaw21_known.mono _
      | exact LeO.none _
      | refine LeO.ite ?_ ?_
      | refine LeO.bind ?_ (fun _ => ?_)
    · intro y0 y1 y2 y3 y4 y5 y6 y7 y8 y9
      unfold triremelaw21_ExpandOne.j1
      repeat' first
      | (with_reducible exact ih0 _ _ _ _ _ _ _ _ _)
      | (with_reducible exact ih1 _ _ _ _ _ _ _ _ _ _)
      | (with_reducible exact expand_Better.mono _ _ _ _ _ _ _ _ _ _ _ _ _ _)
      | (with_reducible exact expand_Choose.mono _ _ _ _)
      | (with_reducible exact triremelaw21_known.mono _)
      | (with_reducible exact LeO.refl _)
      | (with_reducible exact LeO.none _)
      | (with_reducible refine LeO.ite ?_ ?_)
      | (with_reducible refine LeO.bind ?_ (fun _ => ?_))
      | exact ih0 _ _ _ _ _ _ _ _ _
      | exact ih1 _ _ _ _ _ _ _ _ _ _
      | exact expand_Better.mono _ _ _ _ _ _ _ _ _ _ _ _ _ _
      | exact expand_Choose.mono _ _ _ _
      | exact triremelaw21_known.mono _
      | exact LeO.none _
      | refine LeO.ite ?_ ?_
      | refine LeO.bind ?_ (fun _ => ?_)
theorem triremelaw21_ExpandOne.mono : ∀ a0 a1 a2 a3 a4 a5 a6 a7 k, LeO (triremelaw21_ExpandOne.f k a0 a1 a2 a3 a4 a5 a6 a7) (triremelaw21_ExpandOne.f (k + 1) a0 a1 a2 a3 a4 a5 a6 a7) := by
  intro a0 a1 a2 a3 a4 a5 a6 a7 k
  obtain ⟨ih0, ih1⟩ := triremelaw21_ExpandOne.mono_l k
  unfold triremelaw21_ExpandOne.f
  repeat' first
      | (with_reducible exact ih0 _ _ _ _ _ _ _ _ _)
      | (with_reducible exact ih1 _ _ _ _ _ _ _ _ _ _)
      | (with_reducible exact expand_Better.mono _ _ _ _ _ _ _ _ _ _ _ _ _ _)
      | (with_reducible exact expand_Choose.mono _ _ _ _)
      | (with_reducible exact triremelaw21_known.mono _)
      | (with_reducible exact LeO.refl _)
      | (with_reducible exact LeO.none _)
      | (with_reducible refine LeO.ite ?_ ?_)
      | (with_reducible refine LeO.bind ?_ (fun _ => ?_))
      | exact ih0 _ _ _ _ _ _ _ _ _
      | exact ih1 _ _ _ _ _ _ _ _ _ _
      | exact expand_Better.mono _ _ _ _ _ _ _ _ _ _ _ _ _ _
      | exact expand_Choose.mono _ _ _ _
      | exact triremelaw21_known.mono _
      | exact LeO.none _
      | refine LeO.ite ?_ ?_
      | refine LeO.bind ?_ (fun _ => ?_)
set_option maxHeartbeats 8000000 in
set_option maxRecDepth 100000 in
theorem triremelaw21_ExpandOne.calls (k : Nat) (P0_ : Nat → Prop) (A0 : Option Addr) (c0 : Nat) (l0 : List (S27)) (a1_0 : ByteArray) (a1_1 : Int) (P1_2_ : Nat → Prop) (A1_2 : Option Addr) (c1_2 : Nat) (l1_2 : List ByteArray) (a1_3 : Int) (a1_4 : Int) (a1_5 : Int) (a2 : Int) (r : Bool) (w : World) (hs0 : Kd.V k27 27 w w.heap.size (fun k_ => P0_ k_) (.slice A0 l0.length c0) l0) (hs1_2 : Kd.V Kd.string 9 w w.heap.size (fun k_ => P1_2_ k_) (.slice A1_2 l1_2.length c1_2) l1_2) (h : triremelaw21_ExpandOne.f k l0 a1_0 a1_1 l1_2 a1_3 a1_4 a1_5 a2 = some r) :
    Calls Try.prog 7 #[.slice A0 l0.length c0, .agg #[.string a1_0, .int .i64 a1_1, .slice A1_2 l1_2.length c1_2, .int .i64 a1_3, .int .i64 a1_4, .int .i64 a1_5], .int .u8 a2] w fun e w' => e = .returned (.bool r) ∧ Below w.heap.size w w' := by
  have hu27 := Try.underlying27
  have HO0 := Aside0.mk (show Kd.V k27 27 w w.heap.size (fun k_ => ((P0_ k_ ∨ P1_2_ k_) ∨ w.heap.size ≤ k_)) (.slice A0 l0.length c0) l0 from Kd.V_mono hs0 (fun k_ hk => .inl (.inl hk)))
  have HO1_2 := Aside0.mk (show Kd.V Kd.string 9 w w.heap.size (fun k_ => ((P0_ k_ ∨ P1_2_ k_) ∨ w.heap.size ≤ k_)) (.slice A1_2 l1_2.length c1_2) l1_2 from Kd.V_mono hs1_2 (fun k_ hk => .inl (.inr hk)))
  have HB := Aside0.mk (Below.refl w.heap.size w)
  have H : (if (l0.length : Int) > 60 then ((triremelaw21_known.f k).bind fun t218 => (some t218)) else ((expand_Choose.f k (([(⟨a1_0, a1_1, l1_2, a1_3, a1_4, a1_5⟩ : S27)] : List (S27))) (wrap64 (1 + (Int.tmod (wrap64 (a2)) 3))) 5).bind fun t222 => (if t222 = 0 then ((expand_Choose.f k (([(⟨a1_0, a1_1, l1_2, a1_3, a1_4, a1_5⟩ : S27)] : List (S27))) 4 5).bind fun t226 => (triremelaw21_ExpandOne.j0 k l0 (wrap64 (1 + (Int.tmod (wrap64 (a2)) 3))) (t226 != 0) a1_0 a1_1 l1_2 a1_3 a1_4 a1_5)) else (triremelaw21_ExpandOne.j0 k l0 (wrap64 (1 + (Int.tmod (wrap64 (a2)) 3))) true a1_0 a1_1 l1_2 a1_3 a1_4 a1_5)))) = some r := h
  clear h
  by_cases c4 : (l0.length : Int) > 60
  · rw [if_pos c4] at H
    have c4b0 : decide (60 < (l0.length : Int)) = true := decide_eq_true c4
    have c4b1 : decide (60 < l0.length) = true := decide_eq_true (by omega)
    clear c4
    replace H := Option.bind_eq_some_iff.mp H
    obtain ⟨t218, A50, H⟩ := H
    replace H : (some t218) = some r := H
    have A5 := Aside0.mk A50
    clear A50
    obtain rfl := Option.some.inj H
    go_enter Try.func7, Try.ntmps7
    go_wp2_with (first | ((with_reducible refine gate_dst (N := 4) rfl ?_); (try (refine gate_guard (by rfl) ?_; dsimp only)); refine box_event ?hg (N := 4) ?hd (cs := #[.string a1_0, .int .i64 a1_1, .slice A1_2 l1_2.length c1_2, .int .i64 a1_3, .int .i64 a1_4, .int .i64 a1_5]) (t := 27) ?hr ?_; (case hd => rfl); (case hg => rfl); (case hr => first | (go_simp; done) | (go_simp; rfl)); intro gb217 hg w6 hbox hb; have n0_ := Aside0.mk (Kd.V_below (Kd.V_elderB (by (with_reducible repeat (first | apply Kd.V_alloc | apply Kd.V_drewN | apply Kd.V_drew)); exact HO0.out) gb217 (Nat.le_of_eq hg.symm)) hb); have n1_ := Aside0.mk (Kd.V_below (Kd.V_elderB (by (with_reducible repeat (first | apply Kd.V_alloc | apply Kd.V_drewN | apply Kd.V_drew)); exact HO1_2.out) gb217 (Nat.le_of_eq hg.symm)) hb); have n2_ := Aside0.mk (below_step (by repeat (first | (with_reducible first | exact HB.out | apply below_alloc | apply pw_below_drewN | apply below_drew1) | exact HB.out)) hb); have n3_ := Aside0.mk (hbox); have n4_ := Aside0.mk ((by rw [hg]; exact (below_size (by repeat (first | (with_reducible first | exact HB.out | apply below_alloc | apply pw_below_drewN | apply below_drew1) | exact HB.out))) : w.heap.size ≤ gb217)); have n5_ := Aside0.mk ((by rw [hg]; exact (below_size (by repeat (first | (with_reducible first | exact HB.out | apply below_alloc | apply pw_below_drewN | apply below_drew1) | exact HB.out))) : w.heap.size ≤ gb217)); clear HO0; clear HO1_2; clear HB; have HO0 := n0_; have HO1_2 := n1_; have HB := n2_; have BK217 := n3_; have GW217 := n4_; have GE217 := n5_; clear n0_ n1_ n2_ n3_ n4_ n5_; clear hb hbox hg) | ((with_reducible refine gate_callee (f := 15) rfl ?_); refine goesL_ (some 14) rfl rfl Try.func15 (by kernel_rfl) rfl #[] rfl (by (try simp only [List.map_toArray, List.map_cons, List.map_nil]); first | done | rfl | (simp only [List.length_drop, List.length_take]; rfl)) ?_; (with_reducible refine (triremelaw21_known.calls k  t218 _ A5.out).mono ?_); rintro e w7 ⟨rfl, hb⟩; refine ⟨_, rfl, ?_⟩; have n0_ := Aside0.mk (Kd.V_below (by (with_reducible repeat (first | apply Kd.V_alloc | apply Kd.V_drewN | apply Kd.V_drew)); exact HO0.out) hb); have n1_ := Aside0.mk (Kd.V_below (by (with_reducible repeat (first | apply Kd.V_alloc | apply Kd.V_drewN | apply Kd.V_drew)); exact HO1_2.out) hb); have n2_ := Aside0.mk (blk_below (g := gb217) (o := .cells #[.string a1_0, .int .i64 a1_1, .slice A1_2 l1_2.length c1_2, .int .i64 a1_3, .int .i64 a1_4, .int .i64 a1_5] 27 (0, 0)) (by (with_reducible repeat (first | refine blk_drewN ?_ _ | refine blk_drew ?_ | refine blk_alloc ?_ _)); exact BK217.out) hb); have n3_ := Aside0.mk (below_step (by repeat (first | (with_reducible first | exact HB.out | apply below_alloc | apply pw_below_drewN | apply below_drew1 | refine below_set ?_ GE217.out) | exact HB.out)) hb); clear HO0; clear HO1_2; clear BK217; clear HB; have HO0 := n0_; have HO1_2 := n1_; have BK217 := n2_; have HB := n3_; clear n0_ n1_ n2_ n3_; (try clear hb); (try clear hb2); (try clear hk); (try clear hi)))
    go_ret
    exact ⟨by first | rfl | (simp [errW_none, errW_some] <;> rfl) | (simp [*, errW_none, errW_some] <;> rfl), by repeat (first | (with_reducible first | exact HB.out | apply below_alloc | apply pw_below_drewN | apply below_drew1 | refine below_set ?_ GE217.out) | exact HB.out)⟩
  · rw [if_neg c4] at H
    have c4b0 : decide (60 < (l0.length : Int)) = false := decide_eq_false c4
    have c4b1 : decide (60 < l0.length) = false := decide_eq_false (by omega)
    clear c4
    have HC8 := Aside0.mk H
    clear H
    go_enter Try.func7, Try.ntmps7
    go_upto_region 4 with (first | ((with_reducible refine gate_dst (N := 4) rfl ?_); (try (refine gate_guard (by rfl) ?_; dsimp only)); refine box_event ?hg (N := 4) ?hd (cs := #[.string a1_0, .int .i64 a1_1, .slice A1_2 l1_2.length c1_2, .int .i64 a1_3, .int .i64 a1_4, .int .i64 a1_5]) (t := 27) ?hr ?_; (case hd => rfl); (case hg => rfl); (case hr => first | (go_simp; done) | (go_simp; rfl)); intro gb217 hg w9 hbox hb; have n0_ := Aside0.mk (Kd.V_below (Kd.V_elderB (by (with_reducible repeat (first | apply Kd.V_alloc | apply Kd.V_drewN | apply Kd.V_drew)); exact HO0.out) gb217 (Nat.le_of_eq hg.symm)) hb); have n1_ := Aside0.mk (Kd.V_below (Kd.V_elderB (by (with_reducible repeat (first | apply Kd.V_alloc | apply Kd.V_drewN | apply Kd.V_drew)); exact HO1_2.out) gb217 (Nat.le_of_eq hg.symm)) hb); have n2_ := Aside0.mk (below_step (by repeat (first | (with_reducible first | exact HB.out | apply below_alloc | apply pw_below_drewN | apply below_drew1) | exact HB.out)) hb); have n3_ := Aside0.mk (hbox); have n4_ := Aside0.mk ((by rw [hg]; exact (below_size (by repeat (first | (with_reducible first | exact HB.out | apply below_alloc | apply pw_below_drewN | apply below_drew1) | exact HB.out))) : w.heap.size ≤ gb217)); have n5_ := Aside0.mk ((by rw [hg]; exact (below_size (by repeat (first | (with_reducible first | exact HB.out | apply below_alloc | apply pw_below_drewN | apply below_drew1) | exact HB.out))) : w.heap.size ≤ gb217)); clear HO0; clear HO1_2; clear HB; have HO0 := n0_; have HO1_2 := n1_; have HB := n2_; have BK217 := n3_; have GW217 := n4_; have GE217 := n5_; clear n0_ n1_ n2_ n3_ n4_ n5_; clear hb hbox hg))
    (try simp only [Act.put, List.setIfInBounds_toArray, List.set_cons_zero, List.set_cons_succ])
    go_cut [29] (fun v29 wc => ∃ (kq : Nat) (x29_7 : Bool), v29 = .bool x29_7 ∧ Aside0 (triremelaw21_ExpandOne.j0 kq l0 (wrap64 (1 + (Int.tmod (wrap64 (a2)) 3))) x29_7 a1_0 a1_1 l1_2 a1_3 a1_4 a1_5 = some r) ∧ Aside0 (kq ≤ k) ∧ Aside0 (Kd.V k27 27 wc w.heap.size (fun k_ => ((P0_ k_ ∨ P1_2_ k_) ∨ w.heap.size ≤ k_) ∧ k_ ≠ gb217) (.slice A0 l0.length c0) l0) ∧ Aside0 (Kd.V Kd.string 9 wc w.heap.size (fun k_ => ((P0_ k_ ∨ P1_2_ k_) ∨ w.heap.size ≤ k_) ∧ k_ ≠ gb217) (.slice A1_2 l1_2.length c1_2) l1_2) ∧ Aside0 (wc.heap[gb217]? = some (.cells #[.string a1_0, .int .i64 a1_1, (.slice A1_2 l1_2.length c1_2), .int .i64 a1_3, .int .i64 a1_4, .int .i64 a1_5] 27 (0, 0))) ∧ Aside0 (Below w.heap.size w wc))
    case first =>
      have H := HC8.out
      clear HC8
      obtain ⟨y219, hy219⟩ : ∃ y_ : List (S27), y_ = (([(⟨a1_0, a1_1, l1_2, a1_3, a1_4, a1_5⟩ : S27)] : List (S27))) := ⟨_, rfl⟩
      replace H : ((expand_Choose.f k y219 (wrap64 (1 + (Int.tmod (wrap64 (a2)) 3))) 5).bind fun t222 => (if t222 = 0 then ((expand_Choose.f k (([(⟨a1_0, a1_1, l1_2, a1_3, a1_4, a1_5⟩ : S27)] : List (S27))) 4 5).bind fun t226 => (triremelaw21_ExpandOne.j0 k l0 (wrap64 (1 + (Int.tmod (wrap64 (a2)) 3))) (t226 != 0) a1_0 a1_1 l1_2 a1_3 a1_4 a1_5)) else (triremelaw21_ExpandOne.j0 k l0 (wrap64 (1 + (Int.tmod (wrap64 (a2)) 3))) true a1_0 a1_1 l1_2 a1_3 a1_4 a1_5))) = some r := by first | (rw [hy219]; with_reducible exact H) | (have H2_ := (Option.bind_some _ _).symm.trans H; rw [hy219]; with_reducible exact H2_) | (have H2_ := (Option.bind_some _ _).symm.trans H; with_reducible exact H2_) | with_reducible exact H | (rw [hy219]; exact H) | exact H
      have Ny219 := Aside0.mk hy219
      clear hy219
      replace H := Option.bind_eq_some_iff.mp H
      obtain ⟨t222, A100, H⟩ := H
      replace H : (if t222 = 0 then ((expand_Choose.f k (([(⟨a1_0, a1_1, l1_2, a1_3, a1_4, a1_5⟩ : S27)] : List (S27))) 4 5).bind fun t226 => (triremelaw21_ExpandOne.j0 k l0 (wrap64 (1 + (Int.tmod (wrap64 (a2)) 3))) (t226 != 0) a1_0 a1_1 l1_2 a1_3 a1_4 a1_5)) else (triremelaw21_ExpandOne.j0 k l0 (wrap64 (1 + (Int.tmod (wrap64 (a2)) 3))) true a1_0 a1_1 l1_2 a1_3 a1_4 a1_5)) = some r := H
      have A10 := Aside0.mk A100
      clear A100
      by_cases c11 : t222 = 0
      · rw [if_pos c11] at H
        have c11b0 : (t222 == 0) = true := beq_iff_eq.mpr c11
        have c11b1 : (t222 != 0) = false := bne_eq_false_iff_eq.mpr c11
        clear c11
        (first | rw [c11b0] | (simp only [i64_w, i32_w]; rw [c11b0]) | skip)
        obtain ⟨y223, hy223⟩ : ∃ y_ : List (S27), y_ = (([(⟨a1_0, a1_1, l1_2, a1_3, a1_4, a1_5⟩ : S27)] : List (S27))) := ⟨_, rfl⟩
        replace H : ((expand_Choose.f k y223 4 5).bind fun t226 => (triremelaw21_ExpandOne.j0 k l0 (wrap64 (1 + (Int.tmod (wrap64 (a2)) 3))) (t226 != 0) a1_0 a1_1 l1_2 a1_3 a1_4 a1_5)) = some r := by first | (rw [hy223]; with_reducible exact H) | (have H2_ := (Option.bind_some _ _).symm.trans H; rw [hy223]; with_reducible exact H2_) | (have H2_ := (Option.bind_some _ _).symm.trans H; with_reducible exact H2_) | with_reducible exact H | (rw [hy223]; exact H) | exact H
        have Ny223 := Aside0.mk hy223
        clear hy223
        replace H := Option.bind_eq_some_iff.mp H
        obtain ⟨t226, A120, H⟩ := H
        replace H : (triremelaw21_ExpandOne.j0 k l0 (wrap64 (1 + (Int.tmod (wrap64 (a2)) 3))) (t226 != 0) a1_0 a1_1 l1_2 a1_3 a1_4 a1_5) = some r := H
        have A12 := Aside0.mk A120
        clear A120
        have H' := Aside0.mk H
        clear H
        have hcz13_0 : w9.cell? ⟨gb217, 0, none⟩ = some (.string a1_0) := (blk_cell BK217.out 0).trans rfl
        have hcz13_1 : w9.cell? ⟨gb217, 1, none⟩ = some (.int .i64 a1_1) := (blk_cell BK217.out 1).trans rfl
        have hcz13_2 : w9.cell? ⟨gb217, 2, none⟩ = some (.slice A1_2 l1_2.length c1_2) := (blk_cell BK217.out 2).trans rfl
        have hcz13_3 : w9.cell? ⟨gb217, 3, none⟩ = some (.int .i64 a1_3) := (blk_cell BK217.out 3).trans rfl
        have hcz13_4 : w9.cell? ⟨gb217, 4, none⟩ = some (.int .i64 a1_4) := (blk_cell BK217.out 4).trans rfl
        have hcz13_5 : w9.cell? ⟨gb217, 5, none⟩ = some (.int .i64 a1_5) := (blk_cell BK217.out 5).trans rfl
        have hfz13_0 := blk_frozen BK217.out 0
        have hfz13_1 := blk_frozen BK217.out 1
        have hfz13_2 := blk_frozen BK217.out 2
        have hfz13_3 := blk_frozen BK217.out 3
        have hfz13_4 := blk_frozen BK217.out 4
        have hfz13_5 := blk_frozen BK217.out 5
        go_wp2_with (first | ((with_reducible refine gate_dst (N := 20) rfl ?_); (try (refine gate_guard (by rfl) ?_; dsimp only)); refine Kd.N_lit k27 _ 27 ?hg (N' := 20) ?hd (xs := ([(⟨a1_0, a1_1, l1_2, a1_3, a1_4, a1_5⟩ : S27)] : List (S27))) (inner := [.string a1_0, .int .i64 a1_1, .slice A1_2 l1_2.length c1_2, .int .i64 a1_3, .int .i64 a1_4, .int .i64 a1_5]) (ok := (fun k_ => ((P0_ k_ ∨ P1_2_ k_) ∨ w.heap.size ≤ k_) ∧ k_ ≠ gb217)) (okp := (fun k_ => ((P0_ k_ ∨ P1_2_ k_) ∨ w.heap.size ≤ k_) ∧ k_ ≠ gb217)) ?hr ?hp (fun _ hk => hk) ((show ∀ k_, w9.heap.size ≤ k_ → (fun k_ => ((P0_ k_ ∨ P1_2_ k_) ∨ w.heap.size ≤ k_) ∧ k_ ≠ gb217) k_ from fun k_ hk => ⟨(.inr (Nat.le_trans (below_size (by repeat (first | (with_reducible first | exact HB.out | apply below_alloc | apply pw_below_drewN | apply below_drew1 | refine below_set ?_ GE217.out) | exact HB.out))) hk)), Kd.freshB (g := gb217) (o := .cells #[.string a1_0, .int .i64 a1_1, .slice A1_2 l1_2.length c1_2, .int .i64 a1_3, .int .i64 a1_4, .int .i64 a1_5] 27 (0, 0)) (by (with_reducible repeat (first | refine blk_drewN ?_ _ | refine blk_drew ?_ | refine blk_alloc ?_ _)); exact BK217.out) k_ hk⟩) _ (Nat.le_refl _)) (Below.refl _ _) (Nat.le_refl _) (by simp) ?_; (case hd => rfl); (case hg => rfl); (case hr => first | (go_simp; done) | (go_simp; rfl)); (case hp => exact (Reps.c6 (show Kd.FK k27 _ _ (⟨a1_0, a1_1, l1_2, a1_3, a1_4, a1_5⟩ : S27) [.string a1_0, .int .i64 a1_1, .slice A1_2 l1_2.length c1_2, .int .i64 a1_3, .int .i64 a1_4, .int .i64 a1_5] from (k27_mkF _ _ (⟨a1_0, a1_1, l1_2, a1_3, a1_4, a1_5⟩ : S27) (Kd.V_reads' (Kd.V_mono (ok' := (fun k_ => ((P0_ k_ ∨ P1_2_ k_) ∨ w.heap.size ≤ k_) ∧ k_ ≠ gb217)) (HO1_2.out) (fun k_ hk => ⟨hk.1, hk.2⟩))).2.1 (Kd.V_F (Kd.V_mono (ok' := (fun k_ => ((P0_ k_ ∨ P1_2_ k_) ∨ w.heap.size ≤ k_) ∧ k_ ≠ gb217)) (HO1_2.out) (fun k_ hk => ⟨hk.1, hk.2⟩))))) (Reps.none _ _))); intro v220 w14 ho15 hb hg_ hnew_; clear hg_ hnew_; (first | rw [← Ny219.out] at ho15 | (simp only [Int.reduceToNat] at ho15; rw [← Ny219.out] at ho15)); have n0_ := Aside0.mk (Kd.V_elder' (by (with_reducible repeat (first | apply Kd.V_alloc | apply Kd.V_drewN | apply Kd.V_drew)); exact HO0.out) (Kd.N_base ho15) hb); have n1_ := Aside0.mk (Kd.V_elder' (by (with_reducible repeat (first | apply Kd.V_alloc | apply Kd.V_drewN | apply Kd.V_drew)); exact HO1_2.out) (Kd.N_base ho15) hb); have n2_ := Aside0.mk (Kd.N_lower ho15 (below_size (by repeat (first | (with_reducible first | exact HB.out | apply below_alloc | apply pw_below_drewN | apply below_drew1 | refine below_set ?_ GE217.out) | exact HB.out)))); have n3_ := Aside0.mk (blk_below (g := gb217) (o := .cells #[.string a1_0, .int .i64 a1_1, .slice A1_2 l1_2.length c1_2, .int .i64 a1_3, .int .i64 a1_4, .int .i64 a1_5] 27 (0, 0)) (by (with_reducible repeat (first | refine blk_drewN ?_ _ | refine blk_drew ?_ | refine blk_alloc ?_ _)); exact BK217.out) hb); have n4_ := Aside0.mk (below_step (by repeat (first | (with_reducible first | exact HB.out | apply below_alloc | apply pw_below_drewN | apply below_drew1 | refine below_set ?_ GE217.out) | exact HB.out)) hb); clear HO0; clear HO1_2; clear BK217; clear HB; have HO0 := n0_; have HO1_2 := n1_; have HO221 := n2_; have BK217 := n3_; have HB := n4_; clear n0_ n1_ n2_ n3_ n4_; clear hb ho15; obtain ⟨Ao16, co16, eo16⟩ := Kd.N_slice HO221.out; subst eo16) | ((with_reducible refine gate_callee (f := 18) rfl ?_); refine goesL_ (some 22) rfl rfl Try.func18 (by kernel_rfl) rfl #[.slice Ao16 y219.length co16, .int .i64 (wrap64 (1 + (Int.tmod (wrap64 (a2)) 3))), .int .i64 5] rfl (by (try simp only [List.map_toArray, List.map_cons, List.map_nil]); first | done | rfl | (simp only [List.length_drop, List.length_take]; rfl)) ?_; (with_reducible refine (expand_Choose.calls k _ _ y219 (wrap64 (1 + (Int.tmod (wrap64 (a2)) 3))) 5 t222 _ ?side1 ?side2 A10.out).mono ?_); (case side1 => repeat (first | exact (Kd.N_reads' HO221.out).2.2 | (with_reducible refine Kd.C_alloc ?_ _) | (with_reducible refine Kd.C_drewN ?_ _) | (with_reducible refine Kd.C_drew ?_))); (case side2 => exact (Kd.N_reads' HO221.out).2.1); rintro e w17 ⟨rfl, hb⟩; refine ⟨_, rfl, ?_⟩; have n0_ := Aside0.mk (Kd.V_below (by (with_reducible repeat (first | apply Kd.V_alloc | apply Kd.V_drewN | apply Kd.V_drew)); exact HO0.out) hb); have n1_ := Aside0.mk (Kd.V_below (by (with_reducible repeat (first | apply Kd.V_alloc | apply Kd.V_drewN | apply Kd.V_drew)); exact HO1_2.out) hb); have n2_ := Aside0.mk (Kd.N_below (by (with_reducible repeat (first | apply Kd.N_alloc | apply Kd.N_drewN | apply Kd.N_drew)); exact HO221.out) hb); have n3_ := Aside0.mk (blk_below (g := gb217) (o := .cells #[.string a1_0, .int .i64 a1_1, .slice A1_2 l1_2.length c1_2, .int .i64 a1_3, .int .i64 a1_4, .int .i64 a1_5] 27 (0, 0)) (by (with_reducible repeat (first | refine blk_drewN ?_ _ | refine blk_drew ?_ | refine blk_alloc ?_ _)); exact BK217.out) hb); have n4_ := Aside0.mk (below_step (by repeat (first | (with_reducible first | exact HB.out | apply below_alloc | apply pw_below_drewN | apply below_drew1 | refine below_set ?_ GE217.out) | exact HB.out)) hb); clear HO0; clear HO1_2; clear HO221; clear BK217; clear HB; have HO0 := n0_; have HO1_2 := n1_; have HO221 := n2_; have BK217 := n3_; have HB := n4_; clear n0_ n1_ n2_ n3_ n4_; (try clear hb); (try clear hb2); (try clear hk); (try clear hi); have hcz18_0 : w17.cell? ⟨gb217, 0, none⟩ = some (.string a1_0) := (blk_cell BK217.out 0).trans rfl; have hcz18_1 : w17.cell? ⟨gb217, 1, none⟩ = some (.int .i64 a1_1) := (blk_cell BK217.out 1).trans rfl; have hcz18_2 : w17.cell? ⟨gb217, 2, none⟩ = some (.slice A1_2 l1_2.length c1_2) := (blk_cell BK217.out 2).trans rfl; have hcz18_3 : w17.cell? ⟨gb217, 3, none⟩ = some (.int .i64 a1_3) := (blk_cell BK217.out 3).trans rfl; have hcz18_4 : w17.cell? ⟨gb217, 4, none⟩ = some (.int .i64 a1_4) := (blk_cell BK217.out 4).trans rfl; have hcz18_5 : w17.cell? ⟨gb217, 5, none⟩ = some (.int .i64 a1_5) := (blk_cell BK217.out 5).trans rfl; have hfz18_0 := blk_frozen BK217.out 0; have hfz18_1 := blk_frozen BK217.out 1; have hfz18_2 := blk_frozen BK217.out 2; have hfz18_3 := blk_frozen BK217.out 3; have hfz18_4 := blk_frozen BK217.out 4; have hfz18_5 := blk_frozen BK217.out 5) | ((with_reducible refine gate_dst (N := 26) rfl ?_); (try (refine gate_guard (by rfl) ?_; dsimp only)); refine Kd.N_lit k27 _ 27 ?hg (N' := 26) ?hd (xs := ([(⟨a1_0, a1_1, l1_2, a1_3, a1_4, a1_5⟩ : S27)] : List (S27))) (inner := [.string a1_0, .int .i64 a1_1, .slice A1_2 l1_2.length c1_2, .int .i64 a1_3, .int .i64 a1_4, .int .i64 a1_5]) (ok := (fun k_ => ((P0_ k_ ∨ P1_2_ k_) ∨ w.heap.size ≤ k_) ∧ some k_ ≠ (.slice Ao16 y219.length co16 : Value).ownBlock ∧ k_ ≠ gb217)) (okp := (fun k_ => ((P0_ k_ ∨ P1_2_ k_) ∨ w.heap.size ≤ k_) ∧ some k_ ≠ (.slice Ao16 y219.length co16 : Value).ownBlock ∧ k_ ≠ gb217)) ?hr ?hp (fun _ hk => hk) ((show ∀ k_, w17.heap.size ≤ k_ → (fun k_ => ((P0_ k_ ∨ P1_2_ k_) ∨ w.heap.size ≤ k_) ∧ some k_ ≠ (.slice Ao16 y219.length co16 : Value).ownBlock ∧ k_ ≠ gb217) k_ from fun k_ hk => ⟨(.inr (Nat.le_trans (below_size (by repeat (first | (with_reducible first | exact HB.out | apply below_alloc | apply pw_below_drewN | apply below_drew1 | refine below_set ?_ GE217.out) | exact HB.out))) hk)), Kd.fresh' (Kd.N_lt (by (with_reducible repeat (first | apply Kd.N_alloc | apply Kd.N_drewN | apply Kd.N_drew)); exact HO221.out)) k_ hk, Kd.freshB (g := gb217) (o := .cells #[.string a1_0, .int .i64 a1_1, .slice A1_2 l1_2.length c1_2, .int .i64 a1_3, .int .i64 a1_4, .int .i64 a1_5] 27 (0, 0)) (by (with_reducible repeat (first | refine blk_drewN ?_ _ | refine blk_drew ?_ | refine blk_alloc ?_ _)); exact BK217.out) k_ hk⟩) _ (Nat.le_refl _)) (Below.refl _ _) (Nat.le_refl _) (by simp) ?_; (case hd => rfl); (case hg => rfl); (case hr => first | (go_simp; done) | (go_simp; rfl)); (case hp => exact (Reps.c6 (show Kd.FK k27 _ _ (⟨a1_0, a1_1, l1_2, a1_3, a1_4, a1_5⟩ : S27) [.string a1_0, .int .i64 a1_1, .slice A1_2 l1_2.length c1_2, .int .i64 a1_3, .int .i64 a1_4, .int .i64 a1_5] from (k27_mkF _ _ (⟨a1_0, a1_1, l1_2, a1_3, a1_4, a1_5⟩ : S27) (Kd.V_reads' (Kd.V_mono (ok' := (fun k_ => ((P0_ k_ ∨ P1_2_ k_) ∨ w.heap.size ≤ k_) ∧ some k_ ≠ (.slice Ao16 y219.length co16 : Value).ownBlock ∧ k_ ≠ gb217)) (HO1_2.out) (fun k_ hk => ⟨hk.1.1, ⟨hk.2, hk.1.2⟩⟩))).2.1 (Kd.V_F (Kd.V_mono (ok' := (fun k_ => ((P0_ k_ ∨ P1_2_ k_) ∨ w.heap.size ≤ k_) ∧ some k_ ≠ (.slice Ao16 y219.length co16 : Value).ownBlock ∧ k_ ≠ gb217)) (HO1_2.out) (fun k_ hk => ⟨hk.1.1, ⟨hk.2, hk.1.2⟩⟩))))) (Reps.none _ _))); intro v224 w19 ho20 hb hg_ hnew_; clear hg_ hnew_; (first | rw [← Ny223.out] at ho20 | (simp only [Int.reduceToNat] at ho20; rw [← Ny223.out] at ho20)); have n0_ := Aside0.mk (Kd.V_elder' (by (with_reducible repeat (first | apply Kd.V_alloc | apply Kd.V_drewN | apply Kd.V_drew)); exact HO0.out) (Kd.N_base ho20) hb); have n1_ := Aside0.mk (Kd.V_elder' (by (with_reducible repeat (first | apply Kd.V_alloc | apply Kd.V_drewN | apply Kd.V_drew)); exact HO1_2.out) (Kd.N_base ho20) hb); have n2_ := Aside0.mk (Kd.N_elder' (by (with_reducible repeat (first | apply Kd.N_alloc | apply Kd.N_drewN | apply Kd.N_drew)); exact HO221.out) (Kd.N_base ho20) hb); have n3_ := Aside0.mk (Kd.N_lower ho20 (below_size (by repeat (first | (with_reducible first | exact HB.out | apply below_alloc | apply pw_below_drewN | apply below_drew1 | refine below_set ?_ GE217.out) | exact HB.out)))); have n4_ := Aside0.mk (blk_below (g := gb217) (o := .cells #[.string a1_0, .int .i64 a1_1, .slice A1_2 l1_2.length c1_2, .int .i64 a1_3, .int .i64 a1_4, .int .i64 a1_5] 27 (0, 0)) (by (with_reducible repeat (first | refine blk_drewN ?_ _ | refine blk_drew ?_ | refine blk_alloc ?_ _)); exact BK217.out) hb); have n5_ := Aside0.mk (below_step (by repeat (first | (with_reducible first | exact HB.out | apply below_alloc | apply pw_below_drewN | apply below_drew1 | refine below_set ?_ GE217.out) | exact HB.out)) hb); clear HO0; clear HO1_2; clear HO221; clear BK217; clear HB; have HO0 := n0_; have HO1_2 := n1_; have HO221 := n2_; have HO225 := n3_; have BK217 := n4_; have HB := n5_; clear n0_ n1_ n2_ n3_ n4_ n5_; clear hb ho20; obtain ⟨Ao21, co21, eo21⟩ := Kd.N_slice HO225.out; subst eo21) | (go_at_call 18; (with_reducible refine (expand_Choose.calls k _ _ y223 4 5 t226 _ ?side1 ?side2 A12.out).mono ?_); (case side1 => repeat (first | exact (Kd.N_reads' HO225.out).2.2 | (with_reducible refine Kd.C_alloc ?_ _) | (with_reducible refine Kd.C_drewN ?_ _) | (with_reducible refine Kd.C_drew ?_))); (case side2 => exact (Kd.N_reads' HO225.out).2.1); rintro e w22 ⟨rfl, hb⟩; have n0_ := Aside0.mk (Kd.V_below (by (with_reducible repeat (first | apply Kd.V_alloc | apply Kd.V_drewN | apply Kd.V_drew)); exact HO0.out) hb); have n1_ := Aside0.mk (Kd.V_below (by (with_reducible repeat (first | apply Kd.V_alloc | apply Kd.V_drewN | apply Kd.V_drew)); exact HO1_2.out) hb); have n2_ := Aside0.mk (Kd.N_below (by (with_reducible repeat (first | apply Kd.N_alloc | apply Kd.N_drewN | apply Kd.N_drew)); exact HO221.out) hb); have n3_ := Aside0.mk (Kd.N_below (by (with_reducible repeat (first | apply Kd.N_alloc | apply Kd.N_drewN | apply Kd.N_drew)); exact HO225.out) hb); have n4_ := Aside0.mk (blk_below (g := gb217) (o := .cells #[.string a1_0, .int .i64 a1_1, .slice A1_2 l1_2.length c1_2, .int .i64 a1_3, .int .i64 a1_4, .int .i64 a1_5] 27 (0, 0)) (by (with_reducible repeat (first | refine blk_drewN ?_ _ | refine blk_drew ?_ | refine blk_alloc ?_ _)); exact BK217.out) hb); have n5_ := Aside0.mk (below_step (by repeat (first | (with_reducible first | exact HB.out | apply below_alloc | apply pw_below_drewN | apply below_drew1 | refine below_set ?_ GE217.out) | exact HB.out)) hb); clear HO0; clear HO1_2; clear HO221; clear HO225; clear BK217; clear HB; have HO0 := n0_; have HO1_2 := n1_; have HO221 := n2_; have HO225 := n3_; have BK217 := n4_; have HB := n5_; clear n0_ n1_ n2_ n3_ n4_ n5_; (try clear hb); (try clear hb2); (try clear hk); (try clear hi)))
        go_meet
        case rel => exact ⟨_, ((t226 != 0)), (by first | rfl | (simp; done) | (simp [*]; done)), H', ⟨by first | omega | exact Nat.le_refl _⟩, ⟨by (with_reducible repeat (first | apply Kd.V_alloc | apply Kd.V_drewN | apply Kd.V_drew)); exact Kd.V_mono HO0.out (fun _ hk => ⟨hk.1.1.1, hk.1.1.2⟩)⟩, ⟨by (with_reducible repeat (first | apply Kd.V_alloc | apply Kd.V_drewN | apply Kd.V_drew)); exact Kd.V_mono HO1_2.out (fun _ hk => ⟨hk.1.1.1, hk.1.1.2⟩)⟩, ⟨by (with_reducible repeat (first | refine blk_drewN ?_ _ | refine blk_drew ?_ | refine blk_alloc ?_ _)); exact BK217.out⟩, ⟨by repeat (first | (with_reducible first | exact HB.out | apply below_alloc | apply pw_below_drewN | apply below_drew1 | refine below_set ?_ GE217.out) | exact HB.out)⟩⟩
      · rw [if_neg c11] at H
        have c11b0 : (t222 == 0) = false := beq_eq_false_iff_ne.mpr c11
        have c11b1 : (t222 != 0) = true := bne_iff_ne.mpr c11
        (first | rw [c11b0] | (simp only [i64_w, i32_w]; rw [c11b0]) | skip)
        have H' := Aside0.mk H
        clear H
        have hcz23_0 : w9.cell? ⟨gb217, 0, none⟩ = some (.string a1_0) := (blk_cell BK217.out 0).trans rfl
        have hcz23_1 : w9.cell? ⟨gb217, 1, none⟩ = some (.int .i64 a1_1) := (blk_cell BK217.out 1).trans rfl
        have hcz23_2 : w9.cell? ⟨gb217, 2, none⟩ = some (.slice A1_2 l1_2.length c1_2) := (blk_cell BK217.out 2).trans rfl
        have hcz23_3 : w9.cell? ⟨gb217, 3, none⟩ = some (.int .i64 a1_3) := (blk_cell BK217.out 3).trans rfl
        have hcz23_4 : w9.cell? ⟨gb217, 4, none⟩ = some (.int .i64 a1_4) := (blk_cell BK217.out 4).trans rfl
        have hcz23_5 : w9.cell? ⟨gb217, 5, none⟩ = some (.int .i64 a1_5) := (blk_cell BK217.out 5).trans rfl
        have hfz23_0 := blk_frozen BK217.out 0
        have hfz23_1 := blk_frozen BK217.out 1
        have hfz23_2 := blk_frozen BK217.out 2
        have hfz23_3 := blk_frozen BK217.out 3
        have hfz23_4 := blk_frozen BK217.out 4
        have hfz23_5 := blk_frozen BK217.out 5
        go_wp2_with (first | ((with_reducible refine gate_dst (N := 20) rfl ?_); (try (refine gate_guard (by rfl) ?_; dsimp only)); refine Kd.N_lit k27 _ 27 ?hg (N' := 20) ?hd (xs := ([(⟨a1_0, a1_1, l1_2, a1_3, a1_4, a1_5⟩ : S27)] : List (S27))) (inner := [.string a1_0, .int .i64 a1_1, .slice A1_2 l1_2.length c1_2, .int .i64 a1_3, .int .i64 a1_4, .int .i64 a1_5]) (ok := (fun k_ => ((P0_ k_ ∨ P1_2_ k_) ∨ w.heap.size ≤ k_) ∧ k_ ≠ gb217)) (okp := (fun k_ => ((P0_ k_ ∨ P1_2_ k_) ∨ w.heap.size ≤ k_) ∧ k_ ≠ gb217)) ?hr ?hp (fun _ hk => hk) ((show ∀ k_, w9.heap.size ≤ k_ → (fun k_ => ((P0_ k_ ∨ P1_2_ k_) ∨ w.heap.size ≤ k_) ∧ k_ ≠ gb217) k_ from fun k_ hk => ⟨(.inr (Nat.le_trans (below_size (by repeat (first | (with_reducible first | exact HB.out | apply below_alloc | apply pw_below_drewN | apply below_drew1 | refine below_set ?_ GE217.out) | exact HB.out))) hk)), Kd.freshB (g := gb217) (o := .cells #[.string a1_0, .int .i64 a1_1, .slice A1_2 l1_2.length c1_2, .int .i64 a1_3, .int .i64 a1_4, .int .i64 a1_5] 27 (0, 0)) (by (with_reducible repeat (first | refine blk_drewN ?_ _ | refine blk_drew ?_ | refine blk_alloc ?_ _)); exact BK217.out) k_ hk⟩) _ (Nat.le_refl _)) (Below.refl _ _) (Nat.le_refl _) (by simp) ?_; (case hd => rfl); (case hg => rfl); (case hr => first | (go_simp; done) | (go_simp; rfl)); (case hp => exact (Reps.c6 (show Kd.FK k27 _ _ (⟨a1_0, a1_1, l1_2, a1_3, a1_4, a1_5⟩ : S27) [.string a1_0, .int .i64 a1_1, .slice A1_2 l1_2.length c1_2, .int .i64 a1_3, .int .i64 a1_4, .int .i64 a1_5] from (k27_mkF _ _ (⟨a1_0, a1_1, l1_2, a1_3, a1_4, a1_5⟩ : S27) (Kd.V_reads' (Kd.V_mono (ok' := (fun k_ => ((P0_ k_ ∨ P1_2_ k_) ∨ w.heap.size ≤ k_) ∧ k_ ≠ gb217)) (HO1_2.out) (fun k_ hk => ⟨hk.1, hk.2⟩))).2.1 (Kd.V_F (Kd.V_mono (ok' := (fun k_ => ((P0_ k_ ∨ P1_2_ k_) ∨ w.heap.size ≤ k_) ∧ k_ ≠ gb217)) (HO1_2.out) (fun k_ hk => ⟨hk.1, hk.2⟩))))) (Reps.none _ _))); intro v220 w24 ho25 hb hg_ hnew_; clear hg_ hnew_; (first | rw [← Ny219.out] at ho25 | (simp only [Int.reduceToNat] at ho25; rw [← Ny219.out] at ho25)); have n0_ := Aside0.mk (Kd.V_elder' (by (with_reducible repeat (first | apply Kd.V_alloc | apply Kd.V_drewN | apply Kd.V_drew)); exact HO0.out) (Kd.N_base ho25) hb); have n1_ := Aside0.mk (Kd.V_elder' (by (with_reducible repeat (first | apply Kd.V_alloc | apply Kd.V_drewN | apply Kd.V_drew)); exact HO1_2.out) (Kd.N_base ho25) hb); have n2_ := Aside0.mk (Kd.N_lower ho25 (below_size (by repeat (first | (with_reducible first | exact HB.out | apply below_alloc | apply pw_below_drewN | apply below_drew1 | refine below_set ?_ GE217.out) | exact HB.out)))); have n3_ := Aside0.mk (blk_below (g := gb217) (o := .cells #[.string a1_0, .int .i64 a1_1, .slice A1_2 l1_2.length c1_2, .int .i64 a1_3, .int .i64 a1_4, .int .i64 a1_5] 27 (0, 0)) (by (with_reducible repeat (first | refine blk_drewN ?_ _ | refine blk_drew ?_ | refine blk_alloc ?_ _)); exact BK217.out) hb); have n4_ := Aside0.mk (below_step (by repeat (first | (with_reducible first | exact HB.out | apply below_alloc | apply pw_below_drewN | apply below_drew1 | refine below_set ?_ GE217.out) | exact HB.out)) hb); clear HO0; clear HO1_2; clear BK217; clear HB; have HO0 := n0_; have HO1_2 := n1_; have HO221 := n2_; have BK217 := n3_; have HB := n4_; clear n0_ n1_ n2_ n3_ n4_; clear hb ho25; obtain ⟨Ao26, co26, eo26⟩ := Kd.N_slice HO221.out; subst eo26) | ((with_reducible refine gate_callee (f := 18) rfl ?_); refine goesL_ (some 22) rfl rfl Try.func18 (by kernel_rfl) rfl #[.slice Ao26 y219.length co26, .int .i64 (wrap64 (1 + (Int.tmod (wrap64 (a2)) 3))), .int .i64 5] rfl (by (try simp only [List.map_toArray, List.map_cons, List.map_nil]); first | done | rfl | (simp only [List.length_drop, List.length_take]; rfl)) ?_; (with_reducible refine (expand_Choose.calls k _ _ y219 (wrap64 (1 + (Int.tmod (wrap64 (a2)) 3))) 5 t222 _ ?side1 ?side2 A10.out).mono ?_); (case side1 => repeat (first | exact (Kd.N_reads' HO221.out).2.2 | (with_reducible refine Kd.C_alloc ?_ _) | (with_reducible refine Kd.C_drewN ?_ _) | (with_reducible refine Kd.C_drew ?_))); (case side2 => exact (Kd.N_reads' HO221.out).2.1); rintro e w27 ⟨rfl, hb⟩; refine ⟨_, rfl, ?_⟩; have n0_ := Aside0.mk (Kd.V_below (by (with_reducible repeat (first | apply Kd.V_alloc | apply Kd.V_drewN | apply Kd.V_drew)); exact HO0.out) hb); have n1_ := Aside0.mk (Kd.V_below (by (with_reducible repeat (first | apply Kd.V_alloc | apply Kd.V_drewN | apply Kd.V_drew)); exact HO1_2.out) hb); have n2_ := Aside0.mk (Kd.N_below (by (with_reducible repeat (first | apply Kd.N_alloc | apply Kd.N_drewN | apply Kd.N_drew)); exact HO221.out) hb); have n3_ := Aside0.mk (blk_below (g := gb217) (o := .cells #[.string a1_0, .int .i64 a1_1, .slice A1_2 l1_2.length c1_2, .int .i64 a1_3, .int .i64 a1_4, .int .i64 a1_5] 27 (0, 0)) (by (with_reducible repeat (first | refine blk_drewN ?_ _ | refine blk_drew ?_ | refine blk_alloc ?_ _)); exact BK217.out) hb); have n4_ := Aside0.mk (below_step (by repeat (first | (with_reducible first | exact HB.out | apply below_alloc | apply pw_below_drewN | apply below_drew1 | refine below_set ?_ GE217.out) | exact HB.out)) hb); clear HO0; clear HO1_2; clear HO221; clear BK217; clear HB; have HO0 := n0_; have HO1_2 := n1_; have HO221 := n2_; have BK217 := n3_; have HB := n4_; clear n0_ n1_ n2_ n3_ n4_; (try clear hb); (try clear hb2); (try clear hk); (try clear hi)))
        go_meet
        case rel => exact ⟨_, (true), (by first | rfl | (simp; done) | (simp [*]; done)), H', ⟨by first | omega | exact Nat.le_refl _⟩, ⟨by (with_reducible repeat (first | apply Kd.V_alloc | apply Kd.V_drewN | apply Kd.V_drew)); exact Kd.V_mono HO0.out (fun _ hk => ⟨hk.1.1, hk.1.2⟩)⟩, ⟨by (with_reducible repeat (first | apply Kd.V_alloc | apply Kd.V_drewN | apply Kd.V_drew)); exact Kd.V_mono HO1_2.out (fun _ hk => ⟨hk.1.1, hk.1.2⟩)⟩, ⟨by (with_reducible repeat (first | refine blk_drewN ?_ _ | refine blk_drew ?_ | refine blk_alloc ?_ _)); exact BK217.out⟩, ⟨by repeat (first | (with_reducible first | exact HB.out | apply below_alloc | apply pw_below_drewN | apply below_drew1 | refine below_set ?_ GE217.out) | exact HB.out)⟩⟩
    case rest =>
      clear HC8
      try clear c1
      try clear p2
      try clear c4
      try clear c4b0
      try clear c4b1
      try clear c6
      try clear p6
      try clear c7
      try clear c11
      try clear c11b0
      try clear c11b1
      try clear c15
      try clear c18
      try clear hcz13_0
      try clear hcz13_1
      try clear hcz13_2
      try clear hcz13_3
      try clear hcz13_4
      try clear hcz13_5
      try clear hcz18_0
      try clear hcz18_1
      try clear hcz18_2
      try clear hcz18_3
      try clear hcz18_4
      try clear hcz18_5
      try clear hcz23_0
      try clear hcz23_1
      try clear hcz23_2
      try clear hcz23_3
      try clear hcz23_4
      try clear hcz23_5
      try clear hfz13_0
      try clear hfz13_1
      try clear hfz13_2
      try clear hfz13_3
      try clear hfz13_4
      try clear hfz13_5
      try clear hfz18_0
      try clear hfz18_1
      try clear hfz18_2
      try clear hfz18_3
      try clear hfz18_4
      try clear hfz18_5
      try clear hfz23_0
      try clear hfz23_1
      try clear hfz23_2
      try clear hfz23_3
      try clear hfz23_4
      try clear hfz23_5
      obtain ⟨kq, x29_7, rfl, HA, HJ7, HO_0, HO_218002, BK217, HB⟩ := hcut
      cases kq with
      | zero => exact absurd HA.out (by simp [triremelaw21_ExpandOne.j0])
      | succ kj7 =>
        have H := HA.out
        clear HA
        simp only [triremelaw21_ExpandOne.j0] at H
        by_cases c28 : x29_7 = true
        · subst c28
          have H1 : (some false) = some r := by rw [if_pos rfl] at H; exact H
          clear H
          have H := H1
          clear H1
          obtain rfl := Option.some.inj H
          go_wp2
          go_ret
          exact ⟨by first | rfl | (simp [errW_none, errW_some] <;> rfl) | (simp [*, errW_none, errW_some] <;> rfl), by repeat (first | (with_reducible first | exact HB.out | apply below_alloc | apply pw_below_drewN | apply below_drew1 | refine below_set ?_ GE217.out) | exact HB.out)⟩
        · replace c28 := Bool.eq_false_iff.mpr c28
          subst c28
          have H1 : ((expand_Choose.f kj7 l0 (wrap64 (1 + (Int.tmod (wrap64 (a2)) 3))) 0).bind fun t227 => (if t227 < 0 then (triremelaw21_ExpandOne.j1 kj7 l0 (wrap64 (1 + (Int.tmod (wrap64 (a2)) 3))) t227 true a1_0 a1_1 l1_2 a1_3 a1_4 a1_5) else (triremelaw21_ExpandOne.j1 kj7 l0 (wrap64 (1 + (Int.tmod (wrap64 (a2)) 3))) t227 (decide (t227 ≥ (l0.length : Int))) a1_0 a1_1 l1_2 a1_3 a1_4 a1_5))) = some r := by rw [if_neg (show ¬ (false = true) by decide)] at H; exact H
          clear H
          have H := H1
          clear H1
          replace H := Option.bind_eq_some_iff.mp H
          obtain ⟨t227, A290, H⟩ := H
          replace H : (if t227 < 0 then (triremelaw21_ExpandOne.j1 kj7 l0 (wrap64 (1 + (Int.tmod (wrap64 (a2)) 3))) t227 true a1_0 a1_1 l1_2 a1_3 a1_4 a1_5) else (triremelaw21_ExpandOne.j1 kj7 l0 (wrap64 (1 + (Int.tmod (wrap64 (a2)) 3))) t227 (decide (t227 ≥ (l0.length : Int))) a1_0 a1_1 l1_2 a1_3 a1_4 a1_5)) = some r := H
          have A29 := Aside0.mk A290
          clear A290
          have HC30 := Aside0.mk H
          clear H
          go_upto_region 7 with (first | ((with_reducible refine gate_callee (f := 18) rfl ?_); refine goesL_ (some 32) rfl rfl Try.func18 (by kernel_rfl) rfl #[.slice A0 l0.length c0, .int .i64 (wrap64 (1 + (Int.tmod (wrap64 (a2)) 3))), .int .i64 0] rfl (by (try simp only [List.map_toArray, List.map_cons, List.map_nil]); first | done | rfl | (simp only [List.length_drop, List.length_take]; rfl)) ?_; (with_reducible refine (expand_Choose.calls kj7 _ _ l0 (wrap64 (1 + (Int.tmod (wrap64 (a2)) 3))) 0 t227 _ ?side1 ?side2 A29.out).mono ?_); (case side1 => repeat (first | exact (Kd.V_reads' HO_0.out).2.2 | (with_reducible refine Kd.C_alloc ?_ _) | (with_reducible refine Kd.C_drewN ?_ _) | (with_reducible refine Kd.C_drew ?_))); (case side2 => exact (Kd.V_reads' HO_0.out).2.1); rintro e w31 ⟨rfl, hb⟩; refine ⟨_, rfl, ?_⟩; have n0_ := Aside0.mk (Kd.V_below (by (with_reducible repeat (first | apply Kd.V_alloc | apply Kd.V_drewN | apply Kd.V_drew)); exact HO_0.out) hb); have n1_ := Aside0.mk (Kd.V_below (by (with_reducible repeat (first | apply Kd.V_alloc | apply Kd.V_drewN | apply Kd.V_drew)); exact HO_218002.out) hb); have n2_ := Aside0.mk (blk_below (g := gb217) (o := .cells #[.string a1_0, .int .i64 a1_1, .slice A1_2 l1_2.length c1_2, .int .i64 a1_3, .int .i64 a1_4, .int .i64 a1_5] 27 (0, 0)) (by (with_reducible repeat (first | refine blk_drewN ?_ _ | refine blk_drew ?_ | refine blk_alloc ?_ _)); exact BK217.out) hb); have n3_ := Aside0.mk (below_step (by repeat (first | (with_reducible first | exact HB.out | apply below_alloc | apply pw_below_drewN | apply below_drew1 | refine below_set ?_ GE217.out) | exact HB.out)) hb); clear HO_0; clear HO_218002; clear BK217; clear HB; have HO_0 := n0_; have HO_218002 := n1_; have BK217 := n2_; have HB := n3_; clear n0_ n1_ n2_ n3_; (try clear hb); (try clear hb2); (try clear hk); (try clear hi)))
          (try simp only [Act.put, List.setIfInBounds_toArray, List.set_cons_zero, List.set_cons_succ])
          go_cut [40] (fun v40 wc => ∃ (kq : Nat) (x40_29 : Bool), v40 = .bool x40_29 ∧ Aside0 (triremelaw21_ExpandOne.j1 kq l0 (wrap64 (1 + (Int.tmod (wrap64 (a2)) 3))) t227 x40_29 a1_0 a1_1 l1_2 a1_3 a1_4 a1_5 = some r) ∧ Aside0 (kq ≤ kj7) ∧ Aside0 (Kd.V k27 27 wc w.heap.size (fun k_ => ((P0_ k_ ∨ P1_2_ k_) ∨ w.heap.size ≤ k_) ∧ k_ ≠ gb217) (.slice A0 l0.length c0) l0) ∧ Aside0 (Kd.V Kd.string 9 wc w.heap.size (fun k_ => ((P0_ k_ ∨ P1_2_ k_) ∨ w.heap.size ≤ k_) ∧ k_ ≠ gb217) (.slice A1_2 l1_2.length c1_2) l1_2) ∧ Aside0 (wc.heap[gb217]? = some (.cells #[.string a1_0, .int .i64 a1_1, (.slice A1_2 l1_2.length c1_2), .int .i64 a1_3, .int .i64 a1_4, .int .i64 a1_5] 27 (0, 0))) ∧ Aside0 (Below w.heap.size w wc))
          case first =>
            have H := HC30.out
            clear HC30
            by_cases c32 : t227 < 0
            · rw [if_pos c32] at H
              have c32b0 : decide (t227 < 0) = true := decide_eq_true c32
              clear c32
              (first | rw [c32b0] | (simp only [i64_w, i32_w]; rw [c32b0]) | skip)
              have H' := Aside0.mk H
              clear H
              go_wp2
              go_meet
              case rel => exact ⟨_, (true), (by first | rfl | (simp; done) | (simp [*]; done)), H', ⟨by have := HJ7.out; first | omega | exact Nat.le_refl _⟩, ⟨by (with_reducible repeat (first | apply Kd.V_alloc | apply Kd.V_drewN | apply Kd.V_drew)); exact HO_0.out⟩, ⟨by (with_reducible repeat (first | apply Kd.V_alloc | apply Kd.V_drewN | apply Kd.V_drew)); exact HO_218002.out⟩, ⟨by (with_reducible repeat (first | refine blk_drewN ?_ _ | refine blk_drew ?_ | refine blk_alloc ?_ _)); exact BK217.out⟩, ⟨by repeat (first | (with_reducible first | exact HB.out | apply below_alloc | apply pw_below_drewN | apply below_drew1 | refine below_set ?_ GE217.out) | exact HB.out)⟩⟩
            · rw [if_neg c32] at H
              have c32b0 : decide (t227 < 0) = false := decide_eq_false c32
              clear c32
              (first | rw [c32b0] | (simp only [i64_w, i32_w]; rw [c32b0]) | skip)
              have H' := Aside0.mk H
              clear H
              go_wp2
              go_meet
              case rel => exact ⟨_, (decide (t227 ≥ (l0.length : Int))), (by first | rfl | (simp; done) | (simp [*]; done)), H', ⟨by have := HJ7.out; first | omega | exact Nat.le_refl _⟩, ⟨by (with_reducible repeat (first | apply Kd.V_alloc | apply Kd.V_drewN | apply Kd.V_drew)); exact HO_0.out⟩, ⟨by (with_reducible repeat (first | apply Kd.V_alloc | apply Kd.V_drewN | apply Kd.V_drew)); exact HO_218002.out⟩, ⟨by (with_reducible repeat (first | refine blk_drewN ?_ _ | refine blk_drew ?_ | refine blk_alloc ?_ _)); exact BK217.out⟩, ⟨by repeat (first | (with_reducible first | exact HB.out | apply below_alloc | apply pw_below_drewN | apply below_drew1 | refine below_set ?_ GE217.out) | exact HB.out)⟩⟩
          case rest =>
            clear HC30
            try clear c1
            try clear c2
            try clear p2
            try clear c3
            try clear c4
            try clear c4b0
            try clear c4b1
            try clear c6
            try clear p6
            try clear c7
            try clear c11
            try clear c11b0
            try clear c11b1
            try clear c15
            try clear c18
            try clear c28
            try clear c32
            try clear c32b0
            try clear hcz13_0
            try clear hcz13_1
            try clear hcz13_2
            try clear hcz13_3
            try clear hcz13_4
            try clear hcz13_5
            try clear hcz18_0
            try clear hcz18_1
            try clear hcz18_2
            try clear hcz18_3
            try clear hcz18_4
            try clear hcz18_5
            try clear hcz23_0
            try clear hcz23_1
            try clear hcz23_2
            try clear hcz23_3
            try clear hcz23_4
            try clear hcz23_5
            try clear hfz13_0
            try clear hfz13_1
            try clear hfz13_2
            try clear hfz13_3
            try clear hfz13_4
            try clear hfz13_5
            try clear hfz18_0
            try clear hfz18_1
            try clear hfz18_2
            try clear hfz18_3
            try clear hfz18_4
            try clear hfz18_5
            try clear hfz23_0
            try clear hfz23_1
            try clear hfz23_2
            try clear hfz23_3
            try clear hfz23_4
            try clear hfz23_5
            try clear p2
            try clear p6
            obtain ⟨kq, x40_29, rfl, HA, HJ29, HO_0, HO_218002, BK217, HB⟩ := hcut
            cases kq with
            | zero => exact absurd HA.out (by simp [triremelaw21_ExpandOne.j1])
            | succ kj29 =>
              have H := HA.out
              clear HA
              simp only [triremelaw21_ExpandOne.j1] at H
              by_cases c33 : x40_29 = true
              · subst c33
                have H1 : (if (l0.length : Int) = 0 then ((triremelaw21_known.f kj29).bind fun t228 => (some t228)) else (some false)) = some r := by rw [if_pos rfl] at H; exact H
                clear H
                have H := H1
                clear H1
                by_cases c34 : (l0.length : Int) = 0
                · rw [if_pos c34] at H
                  have c34b0 : ((l0.length : Int) == 0) = true := beq_iff_eq.mpr c34
                  have c34b1 : ((l0.length : Int) != 0) = false := bne_eq_false_iff_eq.mpr c34
                  clear c34
                  replace H := Option.bind_eq_some_iff.mp H
                  obtain ⟨t228, A350, H⟩ := H
                  replace H : (some t228) = some r := H
                  have A35 := Aside0.mk A350
                  clear A350
                  obtain rfl := Option.some.inj H
                  go_wp2_with (first | (go_at_call 15; (with_reducible refine (triremelaw21_known.calls kj29  t228 _ A35.out).mono ?_); rintro e w36 ⟨rfl, hb⟩; have n0_ := Aside0.mk (Kd.V_below (by (with_reducible repeat (first | apply Kd.V_alloc | apply Kd.V_drewN | apply Kd.V_drew)); exact HO_0.out) hb); have n1_ := Aside0.mk (Kd.V_below (by (with_reducible repeat (first | apply Kd.V_alloc | apply Kd.V_drewN | apply Kd.V_drew)); exact HO_218002.out) hb); have n2_ := Aside0.mk (blk_below (g := gb217) (o := .cells #[.string a1_0, .int .i64 a1_1, .slice A1_2 l1_2.length c1_2, .int .i64 a1_3, .int .i64 a1_4, .int .i64 a1_5] 27 (0, 0)) (by (with_reducible repeat (first | refine blk_drewN ?_ _ | refine blk_drew ?_ | refine blk_alloc ?_ _)); exact BK217.out) hb); have n3_ := Aside0.mk (below_step (by repeat (first | (with_reducible first | exact HB.out | apply below_alloc | apply pw_below_drewN | apply below_drew1 | refine below_set ?_ GE217.out) | exact HB.out)) hb); clear HO_0; clear HO_218002; clear BK217; clear HB; have HO_0 := n0_; have HO_218002 := n1_; have BK217 := n2_; have HB := n3_; clear n0_ n1_ n2_ n3_; (try clear hb); (try clear hb2); (try clear hk); (try clear hi)))
                  go_ret
                  exact ⟨by first | rfl | (simp [errW_none, errW_some] <;> rfl) | (simp [*, errW_none, errW_some] <;> rfl), by repeat (first | (with_reducible first | exact HB.out | apply below_alloc | apply pw_below_drewN | apply below_drew1 | refine below_set ?_ GE217.out) | exact HB.out)⟩
                · rw [if_neg c34] at H
                  have c34b0 : ((l0.length : Int) == 0) = false := beq_eq_false_iff_ne.mpr c34
                  have c34b1 : ((l0.length : Int) != 0) = true := bne_iff_ne.mpr c34
                  have c34b2 : ¬ (l0 = []) := fun h_ => c34 (by rw [h_]; rfl)
                  obtain rfl := Option.some.inj H
                  go_wp2
                  go_ret
                  exact ⟨by first | rfl | (simp [errW_none, errW_some] <;> rfl) | (simp [*, errW_none, errW_some] <;> rfl), by repeat (first | (with_reducible first | exact HB.out | apply below_alloc | apply pw_below_drewN | apply below_drew1 | refine below_set ?_ GE217.out) | exact HB.out)⟩
              · replace c33 := Bool.eq_false_iff.mpr c33
                subst c33
                have H1 : ((some (([] : List (S27)) : List (S27))).bind fun y229 => (if y229.length + l0.length < 1954687338268 then ((some (y229 ++ l0 : List (S27))).bind fun y232 => (if y232.length < 1954687338268 then ((expand_Choose.f kj29 (y232 ++ [(⟨a1_0, a1_1, l1_2, a1_3, a1_4, a1_5⟩ : S27)]) (wrap64 (1 + (Int.tmod (wrap64 (a2)) 3))) 0).bind fun t238 => (if 0 ≤ t227 then (if t227 < (l0.length : Int) then ((expand_Better.f kj29 a1_0 a1_1 l1_2 a1_3 a1_4 a1_5 ((rd_T27 l0 t227).f0) ((rd_T27 l0 t227).f1) ((rd_T27 l0 t227).f2) ((rd_T27 l0 t227).f3) ((rd_T27 l0 t227).f4) ((rd_T27 l0 t227).f5) (wrap64 (1 + (Int.tmod (wrap64 (a2)) 3)))).bind fun t240 => (if t240 = true then (if t238 = (l0.length : Int) then ((triremelaw21_known.f kj29).bind fun t241 => (some t241)) else (some false)) else (if t238 = t227 then ((triremelaw21_known.f kj29).bind fun t242 => (some t242)) else (some false)))) else (none)) else (none))) else (none))) else (none))) = some r := by rw [if_neg (show ¬ (false = true) by decide)] at H; exact H
                clear H
                have H := H1
                clear H1
                obtain ⟨y229, hy229⟩ : ∃ y_ : List (S27), y_ = (([] : List (S27))) := ⟨_, rfl⟩
                replace H : (if y229.length + l0.length < 1954687338268 then ((some (y229 ++ l0 : List (S27))).bind fun y232 => (if y232.length < 1954687338268 then ((expand_Choose.f kj29 (y232 ++ [(⟨a1_0, a1_1, l1_2, a1_3, a1_4, a1_5⟩ : S27)]) (wrap64 (1 + (Int.tmod (wrap64 (a2)) 3))) 0).bind fun t238 => (if 0 ≤ t227 then (if t227 < (l0.length : Int) then ((expand_Better.f kj29 a1_0 a1_1 l1_2 a1_3 a1_4 a1_5 ((rd_T27 l0 t227).f0) ((rd_T27 l0 t227).f1) ((rd_T27 l0 t227).f2) ((rd_T27 l0 t227).f3) ((rd_T27 l0 t227).f4) ((rd_T27 l0 t227).f5) (wrap64 (1 + (Int.tmod (wrap64 (a2)) 3)))).bind fun t240 => (if t240 = true then (if t238 = (l0.length : Int) then ((triremelaw21_known.f kj29).bind fun t241 => (some t241)) else (some false)) else (if t238 = t227 then ((triremelaw21_known.f kj29).bind fun t242 => (some t242)) else (some false)))) else (none)) else (none))) else (none))) else (none)) = some r := by first | (rw [hy229]; with_reducible exact H) | (have H2_ := (Option.bind_some _ _).symm.trans H; rw [hy229]; with_reducible exact H2_) | (have H2_ := (Option.bind_some _ _).symm.trans H; with_reducible exact H2_) | with_reducible exact H | (rw [hy229]; exact H) | exact H
                have Ny229 := Aside0.mk hy229
                clear hy229
                by_cases c37 : y229.length + l0.length < 1954687338268
                · rw [if_pos c37] at H
                  have LMc37 := Aside0.mk c37
                  clear c37
                  obtain ⟨y232, hy232⟩ : ∃ y_ : List (S27), y_ = (y229 ++ l0) := ⟨_, rfl⟩
                  replace H : (if y232.length < 1954687338268 then ((expand_Choose.f kj29 (y232 ++ [(⟨a1_0, a1_1, l1_2, a1_3, a1_4, a1_5⟩ : S27)]) (wrap64 (1 + (Int.tmod (wrap64 (a2)) 3))) 0).bind fun t238 => (if 0 ≤ t227 then (if t227 < (l0.length : Int) then ((expand_Better.f kj29 a1_0 a1_1 l1_2 a1_3 a1_4 a1_5 ((rd_T27 l0 t227).f0) ((rd_T27 l0 t227).f1) ((rd_T27 l0 t227).f2) ((rd_T27 l0 t227).f3) ((rd_T27 l0 t227).f4) ((rd_T27 l0 t227).f5) (wrap64 (1 + (Int.tmod (wrap64 (a2)) 3)))).bind fun t240 => (if t240 = true then (if t238 = (l0.length : Int) then ((triremelaw21_known.f kj29).bind fun t241 => (some t241)) else (some false)) else (if t238 = t227 then ((triremelaw21_known.f kj29).bind fun t242 => (some t242)) else (some false)))) else (none)) else (none))) else (none)) = some r := by first | (rw [hy232]; with_reducible exact H) | (have H2_ := (Option.bind_some _ _).symm.trans H; rw [hy232]; with_reducible exact H2_) | (have H2_ := (Option.bind_some _ _).symm.trans H; with_reducible exact H2_) | with_reducible exact H | (rw [hy232]; exact H) | exact H
                  have Ny232 := Aside0.mk hy232
                  clear hy232
                  by_cases c38 : y232.length < 1954687338268
                  · rw [if_pos c38] at H
                    have LMc38 := Aside0.mk c38
                    clear c38
                    obtain ⟨y235, hy235⟩ : ∃ y_ : List (S27), y_ = (y232 ++ [(⟨a1_0, a1_1, l1_2, a1_3, a1_4, a1_5⟩ : S27)]) := ⟨_, rfl⟩
                    replace H : ((expand_Choose.f kj29 y235 (wrap64 (1 + (Int.tmod (wrap64 (a2)) 3))) 0).bind fun t238 => (if 0 ≤ t227 then (if t227 < (l0.length : Int) then ((expand_Better.f kj29 a1_0 a1_1 l1_2 a1_3 a1_4 a1_5 ((rd_T27 l0 t227).f0) ((rd_T27 l0 t227).f1) ((rd_T27 l0 t227).f2) ((rd_T27 l0 t227).f3) ((rd_T27 l0 t227).f4) ((rd_T27 l0 t227).f5) (wrap64 (1 + (Int.tmod (wrap64 (a2)) 3)))).bind fun t240 => (if t240 = true then (if t238 = (l0.length : Int) then ((triremelaw21_known.f kj29).bind fun t241 => (some t241)) else (some false)) else (if t238 = t227 then ((triremelaw21_known.f kj29).bind fun t242 => (some t242)) else (some false)))) else (none)) else (none))) = some r := by first | (rw [hy235]; with_reducible exact H) | (have H2_ := (Option.bind_some _ _).symm.trans H; rw [hy235]; with_reducible exact H2_) | (have H2_ := (Option.bind_some _ _).symm.trans H; with_reducible exact H2_) | with_reducible exact H | (rw [hy235]; exact H) | exact H
                    have Ny235 := Aside0.mk hy235
                    clear hy235
                    replace H := Option.bind_eq_some_iff.mp H
                    obtain ⟨t238, A390, H⟩ := H
                    replace H : (if 0 ≤ t227 then (if t227 < (l0.length : Int) then ((expand_Better.f kj29 a1_0 a1_1 l1_2 a1_3 a1_4 a1_5 ((rd_T27 l0 t227).f0) ((rd_T27 l0 t227).f1) ((rd_T27 l0 t227).f2) ((rd_T27 l0 t227).f3) ((rd_T27 l0 t227).f4) ((rd_T27 l0 t227).f5) (wrap64 (1 + (Int.tmod (wrap64 (a2)) 3)))).bind fun t240 => (if t240 = true then (if t238 = (l0.length : Int) then ((triremelaw21_known.f kj29).bind fun t241 => (some t241)) else (some false)) else (if t238 = t227 then ((triremelaw21_known.f kj29).bind fun t242 => (some t242)) else (some false)))) else (none)) else (none)) = some r := H
                    have A39 := Aside0.mk A390
                    clear A390
                    by_cases c40 : 0 ≤ t227
                    · rw [if_pos c40] at H
                      have c40b0 : decide (0 ≤ t227) = true := decide_eq_true c40
                      clear c40
                      by_cases c41 : t227 < (l0.length : Int)
                      · rw [if_pos c41] at H
                        have c41b0 : decide (t227 < (l0.length : Int)) = true := decide_eq_true c41
                        clear c41
                        replace H := Option.bind_eq_some_iff.mp H
                        obtain ⟨t240, A420, H⟩ := H
                        replace H : (if t240 = true then (if t238 = (l0.length : Int) then ((triremelaw21_known.f kj29).bind fun t241 => (some t241)) else (some false)) else (if t238 = t227 then ((triremelaw21_known.f kj29).bind fun t242 => (some t242)) else (some false))) = some r := H
                        have A42 := Aside0.mk A420
                        clear A420
                        by_cases c43 : t240 = true
                        · subst c43
                          have H1 : (if t238 = (l0.length : Int) then ((triremelaw21_known.f kj29).bind fun t241 => (some t241)) else (some false)) = some r := by rw [if_pos rfl] at H; exact H
                          clear H
                          have H := H1
                          clear H1
                          by_cases c44 : t238 = (l0.length : Int)
                          · rw [if_pos c44] at H
                            have c44b0 : (t238 == (l0.length : Int)) = true := beq_iff_eq.mpr c44
                            have c44b1 : (t238 != (l0.length : Int)) = false := bne_eq_false_iff_eq.mpr c44
                            clear c44
                            replace H := Option.bind_eq_some_iff.mp H
                            obtain ⟨t241, A450, H⟩ := H
                            replace H : (some t241) = some r := H
                            have A45 := Aside0.mk A450
                            clear A450
                            obtain rfl := Option.some.inj H
                            try go_wp2_with (first | ((with_reducible refine gate_dst (N := 47) rfl ?_); (try (refine gate_guard (by rfl) ?_; dsimp only)); refine Kd.N_lit k27 _ 27 ?hg (N' := 47) ?hd (xs := ([] : List (S27))) (inner := []) (ok := (fun k_ => ((P0_ k_ ∨ P1_2_ k_) ∨ w.heap.size ≤ k_) ∧ k_ ≠ gb217)) (okp := (fun k_ => ((P0_ k_ ∨ P1_2_ k_) ∨ w.heap.size ≤ k_) ∧ k_ ≠ gb217)) ?hr ?hp (fun _ hk => hk) ((show ∀ k_, wc.heap.size ≤ k_ → (fun k_ => ((P0_ k_ ∨ P1_2_ k_) ∨ w.heap.size ≤ k_) ∧ k_ ≠ gb217) k_ from fun k_ hk => ⟨(.inr (Nat.le_trans (below_size (by repeat (first | (with_reducible first | exact HB.out | apply below_alloc | apply pw_below_drewN | apply below_drew1 | refine below_set ?_ GE217.out) | exact HB.out))) hk)), Kd.freshB (g := gb217) (o := .cells #[.string a1_0, .int .i64 a1_1, .slice A1_2 l1_2.length c1_2, .int .i64 a1_3, .int .i64 a1_4, .int .i64 a1_5] 27 (0, 0)) (by (with_reducible repeat (first | refine blk_drewN ?_ _ | refine blk_drew ?_ | refine blk_alloc ?_ _)); exact BK217.out) k_ hk⟩) _ (Nat.le_refl _)) (Below.refl _ _) (Nat.le_refl _) (by simp) ?_; (case hd => rfl); (case hg => rfl); (case hr => first | (go_simp; done) | (go_simp; rfl)); (case hp => exact (Reps.none _ _)); intro v230 w46 ho47 hb hg_ hnew_; clear hg_ hnew_; (first | rw [← Ny229.out] at ho47 | (simp only [Int.reduceToNat] at ho47; rw [← Ny229.out] at ho47)); have n0_ := Aside0.mk (Kd.V_elder' (by (with_reducible repeat (first | apply Kd.V_alloc | apply Kd.V_drewN | apply Kd.V_drew)); exact HO_0.out) (Kd.N_base ho47) hb); have n1_ := Aside0.mk (Kd.V_elder' (by (with_reducible repeat (first | apply Kd.V_alloc | apply Kd.V_drewN | apply Kd.V_drew)); exact HO_218002.out) (Kd.N_base ho47) hb); have n2_ := Aside0.mk (Kd.N_lower ho47 (below_size (by repeat (first | (with_reducible first | exact HB.out | apply below_alloc | apply pw_below_drewN | apply below_drew1 | refine below_set ?_ GE217.out) | exact HB.out)))); have n3_ := Aside0.mk (blk_below (g := gb217) (o := .cells #[.string a1_0, .int .i64 a1_1, .slice A1_2 l1_2.length c1_2, .int .i64 a1_3, .int .i64 a1_4, .int .i64 a1_5] 27 (0, 0)) (by (with_reducible repeat (first | refine blk_drewN ?_ _ | refine blk_drew ?_ | refine blk_alloc ?_ _)); exact BK217.out) hb); have n4_ := Aside0.mk (below_step (by repeat (first | (with_reducible first | exact HB.out | apply below_alloc | apply pw_below_drewN | apply below_drew1 | refine below_set ?_ GE217.out) | exact HB.out)) hb); clear HO_0; clear HO_218002; clear BK217; clear HB; have HO_0 := n0_; have HO_218002 := n1_; have HO231 := n2_; have BK217 := n3_; have HB := n4_; clear n0_ n1_ n2_ n3_ n4_; clear hb ho47) | ((with_reducible refine gate_builtin (b := .append) (xs := #[.tmp 47, .tmp 48]) rfl ?_); (try (refine gate_guard (by rfl) ?_; dsimp only)); at_builtin; refine Kd.N_append_rows k27 (w0 := w) w.heap.size rfl (.tmp 47) (.tmp 48) 22 27 (.agg #[(.string ⟨#[]⟩), (.int .i64 0), (.slice none 0 0), (.int .i64 0), (.int .i64 0), (.int .i64 0)]) 72 rfl Try.underlying22 info27 rfl (by decide) (by omega) v230 y229 l0 _ _ _ (fun k_ => ((P0_ k_ ∨ P1_2_ k_) ∨ w.heap.size ≤ k_) ∧ k_ ≠ gb217) (fun k_ => ((fun k_ => ((P0_ k_ ∨ P1_2_ k_) ∨ w.heap.size ≤ k_) ∧ k_ ≠ gb217)) k_ ∧ some k_ ≠ (v230 : Value).ownBlock) rfl rfl ?aO ?aR (fun _ hk => hk) ?aF ?aB ?aS ?aL ?_; (case aR => exact (by skip; exact Kd.V_F (Kd.V_mono (ok' := (fun k_ => ((fun k_ => ((P0_ k_ ∨ P1_2_ k_) ∨ w.heap.size ≤ k_) ∧ k_ ≠ gb217)) k_ ∧ some k_ ≠ (v230 : Value).ownBlock)) (HO_0.out) (fun k_ hk => ⟨⟨hk.1.1, hk.1.2⟩, hk.2⟩)))); (case aB => exact (by repeat (first | (with_reducible first | exact HB.out | apply below_alloc | apply pw_below_drewN | apply below_drew1 | refine below_set ?_ GE217.out) | exact HB.out))); (case aF => exact (fun k_ hk => ⟨(.inr (Nat.le_trans (below_size (by repeat (first | (with_reducible first | exact HB.out | apply below_alloc | apply pw_below_drewN | apply below_drew1 | refine below_set ?_ GE217.out) | exact HB.out))) hk)), Kd.freshB (g := gb217) (o := .cells #[.string a1_0, .int .i64 a1_1, .slice A1_2 l1_2.length c1_2, .int .i64 a1_3, .int .i64 a1_4, .int .i64 a1_5] 27 (0, 0)) (by (with_reducible repeat (first | refine blk_drewN ?_ _ | refine blk_drew ?_ | refine blk_alloc ?_ _)); exact BK217.out) k_ hk⟩)); (case aO => exact (by (with_reducible repeat (first | apply Kd.N_alloc | apply Kd.N_drewN | apply Kd.N_drew)); exact HO231.out)); (case aS => exact (below_size (by repeat (first | (with_reducible first | exact HB.out | apply below_alloc | apply pw_below_drewN | apply below_drew1 | refine below_set ?_ GE217.out) | exact HB.out)))); (case aL => have := LMc37.out; omega); intro v233 w48 ho hb hg hat; rw [← Ny232.out] at ho; have n0_ := Aside0.mk (Kd.V_afterv (ok := (fun k_ => ((P0_ k_ ∨ P1_2_ k_) ∨ w.heap.size ≤ k_) ∧ k_ ≠ gb217)) (by (with_reducible repeat (first | apply Kd.V_alloc | apply Kd.V_drewN | apply Kd.V_drew)); exact HO_0.out) hg hat); have n1_ := Aside0.mk (Kd.V_afterv (ok := (fun k_ => ((P0_ k_ ∨ P1_2_ k_) ∨ w.heap.size ≤ k_) ∧ k_ ≠ gb217)) (by (with_reducible repeat (first | apply Kd.V_alloc | apply Kd.V_drewN | apply Kd.V_drew)); exact HO_218002.out) hg hat); have n2_ := Aside0.mk (blk_grown (g := gb217) (o := .cells #[.string a1_0, .int .i64 a1_1, .slice A1_2 l1_2.length c1_2, .int .i64 a1_3, .int .i64 a1_4, .int .i64 a1_5] 27 (0, 0)) (by (with_reducible repeat (first | refine blk_drewN ?_ _ | refine blk_drew ?_ | refine blk_alloc ?_ _)); exact BK217.out) hg (Kd.N_away HO231.out (fun _ hk => hk.2))); have n3_ := Aside0.mk (hb); have n4_ := Aside0.mk (ho); clear HO_0; clear HO_218002; clear BK217; clear HB; clear HO231; have HO_0 := n0_; have HO_218002 := n1_; have BK217 := n2_; have HB := n3_; have HO234 := n4_; clear n0_ n1_ n2_ n3_ n4_; clear ho hb hg hat; have hcz49_0 : w48.cell? ⟨gb217, 0, none⟩ = some (.string a1_0) := (blk_cell BK217.out 0).trans rfl; have hcz49_1 : w48.cell? ⟨gb217, 1, none⟩ = some (.int .i64 a1_1) := (blk_cell BK217.out 1).trans rfl; have hcz49_2 : w48.cell? ⟨gb217, 2, none⟩ = some (.slice A1_2 l1_2.length c1_2) := (blk_cell BK217.out 2).trans rfl; have hcz49_3 : w48.cell? ⟨gb217, 3, none⟩ = some (.int .i64 a1_3) := (blk_cell BK217.out 3).trans rfl; have hcz49_4 : w48.cell? ⟨gb217, 4, none⟩ = some (.int .i64 a1_4) := (blk_cell BK217.out 4).trans rfl; have hcz49_5 : w48.cell? ⟨gb217, 5, none⟩ = some (.int .i64 a1_5) := (blk_cell BK217.out 5).trans rfl; have hfz49_0 := blk_frozen BK217.out 0; have hfz49_1 := blk_frozen BK217.out 1; have hfz49_2 := blk_frozen BK217.out 2; have hfz49_3 := blk_frozen BK217.out 3; have hfz49_4 := blk_frozen BK217.out 4; have hfz49_5 := blk_frozen BK217.out 5) | ((with_reducible refine gate_builtin (b := .append) (xs := #[.tmp 50, .tmp 52]) rfl ?_); (try (refine gate_guard (by rfl) ?_; dsimp only)); at_builtin; refine Kd.N_append k27 (w0 := w) w.heap.size rfl (.tmp 50) (.tmp 52) 22 27 (.agg #[(.string ⟨#[]⟩), (.int .i64 0), (.slice none 0 0), (.int .i64 0), (.int .i64 0), (.int .i64 0)]) 72 rfl Try.underlying22 info27 rfl (by decide) (by omega) v233 y232 (⟨a1_0, a1_1, l1_2, a1_3, a1_4, a1_5⟩ : S27) [.string a1_0, .int .i64 a1_1, .slice A1_2 l1_2.length c1_2, .int .i64 a1_3, .int .i64 a1_4, .int .i64 a1_5] (fun k_ => ((P0_ k_ ∨ P1_2_ k_) ∨ w.heap.size ≤ k_) ∧ k_ ≠ gb217) (fun k_ => ((fun k_ => ((P0_ k_ ∨ P1_2_ k_) ∨ w.heap.size ≤ k_) ∧ k_ ≠ gb217)) k_ ∧ some k_ ≠ (v233 : Value).ownBlock) rfl rfl ?aP (fun _ hk => hk) ?aF ?aO ?aB ?aS ?aL ?_; (case aP => exact (k27_mkF _ _ (⟨a1_0, a1_1, l1_2, a1_3, a1_4, a1_5⟩ : S27) (Kd.V_reads' (Kd.V_mono (ok' := (fun k_ => ((fun k_ => ((P0_ k_ ∨ P1_2_ k_) ∨ w.heap.size ≤ k_) ∧ k_ ≠ gb217)) k_ ∧ some k_ ≠ (v233 : Value).ownBlock)) (HO_218002.out) (fun k_ hk => ⟨⟨hk.1.1, hk.1.2⟩, hk.2⟩))).2.1 (Kd.V_F (Kd.V_mono (ok' := (fun k_ => ((fun k_ => ((P0_ k_ ∨ P1_2_ k_) ∨ w.heap.size ≤ k_) ∧ k_ ≠ gb217)) k_ ∧ some k_ ≠ (v233 : Value).ownBlock)) (HO_218002.out) (fun k_ hk => ⟨⟨hk.1.1, hk.1.2⟩, hk.2⟩))))); (case aB => exact (by repeat (first | (with_reducible first | exact HB.out | apply below_alloc | apply pw_below_drewN | apply below_drew1 | refine below_set ?_ GE217.out) | exact HB.out))); (case aF => exact (fun k_ hk => ⟨(.inr (Nat.le_trans (below_size (by repeat (first | (with_reducible first | exact HB.out | apply below_alloc | apply pw_below_drewN | apply below_drew1 | refine below_set ?_ GE217.out) | exact HB.out))) hk)), Kd.freshB (g := gb217) (o := .cells #[.string a1_0, .int .i64 a1_1, .slice A1_2 l1_2.length c1_2, .int .i64 a1_3, .int .i64 a1_4, .int .i64 a1_5] 27 (0, 0)) (by (with_reducible repeat (first | refine blk_drewN ?_ _ | refine blk_drew ?_ | refine blk_alloc ?_ _)); exact BK217.out) k_ hk⟩)); (case aO => exact (by (with_reducible repeat (first | apply Kd.N_alloc | apply Kd.N_drewN | apply Kd.N_drew)); exact HO234.out)); (case aS => exact (below_size (by repeat (first | (with_reducible first | exact HB.out | apply below_alloc | apply pw_below_drewN | apply below_drew1 | refine below_set ?_ GE217.out) | exact HB.out)))); (case aL => have := LMc38.out; omega); intro v236 w50 ho hb hg hat; rw [← Ny235.out] at ho; have n0_ := Aside0.mk (Kd.V_afterv (ok := (fun k_ => ((P0_ k_ ∨ P1_2_ k_) ∨ w.heap.size ≤ k_) ∧ k_ ≠ gb217)) (by (with_reducible repeat (first | apply Kd.V_alloc | apply Kd.V_drewN | apply Kd.V_drew)); exact HO_0.out) hg hat); have n1_ := Aside0.mk (Kd.V_afterv (ok := (fun k_ => ((P0_ k_ ∨ P1_2_ k_) ∨ w.heap.size ≤ k_) ∧ k_ ≠ gb217)) (by (with_reducible repeat (first | apply Kd.V_alloc | apply Kd.V_drewN | apply Kd.V_drew)); exact HO_218002.out) hg hat); have n2_ := Aside0.mk (blk_grown (g := gb217) (o := .cells #[.string a1_0, .int .i64 a1_1, .slice A1_2 l1_2.length c1_2, .int .i64 a1_3, .int .i64 a1_4, .int .i64 a1_5] 27 (0, 0)) (by (with_reducible repeat (first | refine blk_drewN ?_ _ | refine blk_drew ?_ | refine blk_alloc ?_ _)); exact BK217.out) hg (Kd.N_away HO234.out (fun _ hk => hk.2))); have n3_ := Aside0.mk (hb); have n4_ := Aside0.mk (ho); clear HO_0; clear HO_218002; clear BK217; clear HB; clear HO234; have HO_0 := n0_; have HO_218002 := n1_; have BK217 := n2_; have HB := n3_; have HO237 := n4_; clear n0_ n1_ n2_ n3_ n4_; clear ho hb hg hat; obtain ⟨Ao51, co51, eo51⟩ := Kd.N_slice HO237.out; subst eo51) | ((with_reducible refine gate_callee (f := 18) rfl ?_); refine goesL_ (some 56) rfl rfl Try.func18 (by kernel_rfl) rfl #[.slice Ao51 y235.length co51, .int .i64 (wrap64 (1 + (Int.tmod (wrap64 (a2)) 3))), .int .i64 0] rfl (by (try simp only [List.map_toArray, List.map_cons, List.map_nil]); first | done | rfl | (simp only [List.length_drop, List.length_take]; rfl)) ?_; (with_reducible refine (expand_Choose.calls kj29 _ _ y235 (wrap64 (1 + (Int.tmod (wrap64 (a2)) 3))) 0 t238 _ ?side1 ?side2 A39.out).mono ?_); (case side1 => repeat (first | exact (Kd.N_reads' HO237.out).2.2 | (with_reducible refine Kd.C_alloc ?_ _) | (with_reducible refine Kd.C_drewN ?_ _) | (with_reducible refine Kd.C_drew ?_))); (case side2 => exact (Kd.N_reads' HO237.out).2.1); rintro e w52 ⟨rfl, hb⟩; refine ⟨_, rfl, ?_⟩; have n0_ := Aside0.mk (Kd.V_below (by (with_reducible repeat (first | apply Kd.V_alloc | apply Kd.V_drewN | apply Kd.V_drew)); exact HO_0.out) hb); have n1_ := Aside0.mk (Kd.V_below (by (with_reducible repeat (first | apply Kd.V_alloc | apply Kd.V_drewN | apply Kd.V_drew)); exact HO_218002.out) hb); have n2_ := Aside0.mk (Kd.N_below (by (with_reducible repeat (first | apply Kd.N_alloc | apply Kd.N_drewN | apply Kd.N_drew)); exact HO237.out) hb); have n3_ := Aside0.mk (blk_below (g := gb217) (o := .cells #[.string a1_0, .int .i64 a1_1, .slice A1_2 l1_2.length c1_2, .int .i64 a1_3, .int .i64 a1_4, .int .i64 a1_5] 27 (0, 0)) (by (with_reducible repeat (first | refine blk_drewN ?_ _ | refine blk_drew ?_ | refine blk_alloc ?_ _)); exact BK217.out) hb); have n4_ := Aside0.mk (below_step (by repeat (first | (with_reducible first | exact HB.out | apply below_alloc | apply pw_below_drewN | apply below_drew1 | refine below_set ?_ GE217.out) | exact HB.out)) hb); clear HO_0; clear HO_218002; clear HO237; clear BK217; clear HB; have HO_0 := n0_; have HO_218002 := n1_; have HO237 := n2_; have BK217 := n3_; have HB := n4_; clear n0_ n1_ n2_ n3_ n4_; (try clear hb); (try clear hb2); (try clear hk); (try clear hi)))
                            have n0_ := Aside0.mk (Kd.V_drew HO_0.out)
                            have n1_ := Aside0.mk (Kd.V_drew HO_218002.out)
                            have n2_ := Aside0.mk (Kd.N_drew HO237.out)
                            have n3_ := Aside0.mk (blk_drew BK217.out)
                            have n4_ := Aside0.mk (below_drew1 HB.out)
                            clear HO_0
                            clear HO_218002
                            clear HO237
                            clear BK217
                            clear HB
                            have HO_0 := n0_
                            have HO_218002 := n1_
                            have HO237 := n2_
                            have BK217 := n3_
                            have HB := n4_
                            clear n0_ n1_ n2_ n3_ n4_
                            have p239 : 0 ≤ (t227 : Int) := of_decide_eq_true (by first | (with_reducible assumption) | assumption)
                            have q239 : t227 < (l0.length : Int) := of_decide_eq_true (by first | (with_reducible assumption) | assumption)
                            obtain ⟨ad239, A239_2, c239_2, e239, hx239_0, hx239_1, hx239_2, hx239_3, hx239_4, hx239_5, hl239_2, hi239_2⟩ := at_T27 (Kd.V_reads' HO_0.out).2.2 t227 p239 q239
                            cases e239
                            obtain ⟨ce239, hce239, hMe239, hcc239⟩ := Kd.V_get HO_0.out z27 t227 p239 (by first | exact q239 | exact of_decide_eq_true (by first | (with_reducible assumption) | assumption) | (have e_ := (Kd.V_reads' HO_0.out).1; omega))
                            obtain ⟨ua239_2, uc239_2, rfl, ul239_2, ge239_2⟩ := k27_openF hMe239
                            have hv239_2 := hcc239 2 _ rfl
                            rw [add_field _ _ 2 (by omega)] at hv239_2
                            replace hv239_2 := Option.some.inj (hv239_2.symm.trans hx239_2)
                            injection hv239_2 with hva_ hvn_ hvc_
                            rw [hva_] at ge239_2
                            rw [hvc_] at ul239_2
                            have HL239_2 := Aside0.mk (show Kd.V Kd.string 9 _ w.heap.size _ _ ((rd_T27 l0 t227).f2) from Kd.V_mk ul239_2 ge239_2)
                            clear hva_ hvn_ hvc_ ge239_2 ul239_2
                            clear hcc239 hce239
                            have HR239_2 := Aside0.mk hi239_2
                            have HC239_2 := Aside0.mk hl239_2
                            clear hi239_2 hl239_2
                            replace p239 := eq_true p239
                            replace q239 := eq_true q239
                            refine start_ (n := 7) (S := fun w' => w'.cell? ⟨gb217, 0, none⟩ = some (.string a1_0) ∧ w'.cell? ⟨gb217, 1, none⟩ = some (.int .i64 a1_1) ∧ w'.cell? ⟨gb217, 2, none⟩ = some (.slice A1_2 l1_2.length c1_2) ∧ w'.cell? ⟨gb217, 3, none⟩ = some (.int .i64 a1_3) ∧ w'.cell? ⟨gb217, 4, none⟩ = some (.int .i64 a1_4) ∧ w'.cell? ⟨gb217, 5, none⟩ = some (.int .i64 a1_5) ∧ w'.cell? (ad239.add ((t227).toNat * 6)) = some (.string ((rd_T27 l0 t227).f0)) ∧ w'.cell? ⟨(ad239.add ((t227).toNat * 6)).block, (ad239.add ((t227).toNat * 6)).off + 1, none⟩ = some (.int .i64 ((rd_T27 l0 t227).f1)) ∧ w'.cell? ⟨(ad239.add ((t227).toNat * 6)).block, (ad239.add ((t227).toNat * 6)).off + 2, none⟩ = some (.slice A239_2 ((rd_T27 l0 t227).f2).length c239_2) ∧ w'.cell? ⟨(ad239.add ((t227).toNat * 6)).block, (ad239.add ((t227).toNat * 6)).off + 3, none⟩ = some (.int .i64 ((rd_T27 l0 t227).f3)) ∧ w'.cell? ⟨(ad239.add ((t227).toNat * 6)).block, (ad239.add ((t227).toNat * 6)).off + 4, none⟩ = some (.int .i64 ((rd_T27 l0 t227).f4)) ∧ w'.cell? ⟨(ad239.add ((t227).toNat * 6)).block, (ad239.add ((t227).toNat * 6)).off + 5, none⟩ = some (.int .i64 ((rd_T27 l0 t227).f5))) (ds := []) #[false, false, false, false, false, false, false] (by kernel_rfl) rfl rfl ⟨(blk_cell BK217.out 0).trans rfl, (blk_cell BK217.out 1).trans rfl, (blk_cell BK217.out 2).trans rfl, (blk_cell BK217.out 3).trans rfl, (blk_cell BK217.out 4).trans rfl, (blk_cell BK217.out 5).trans rfl, hx239_0, hx239_1, hx239_2, hx239_3, hx239_4, hx239_5⟩ (fun hHeld => ?_)
                            generalize w52.drew = w53 at HO_0 HO_218002 HO237 BK217 HB HL239_2 HR239_2 hx239_0 hx239_1 hx239_2 hx239_3 hx239_4 hx239_5 hHeld ⊢
                            refine pure_ (i := 1) (N := some 58) (v := ?_) (a' := ?_) #[false, true, false, false, false, false, false] rfl rfl (by kernel_rfl) (fun _ _ _ h => h) (Or.inl ⟨by rfl, ?_⟩) ?_ ?_
                            rotate_left
                            · intro w'
                              go_simp
                              with_reducible rfl
                            rotate_left
                            · simp only [Act.put, List.setIfInBounds_toArray, List.set_cons_zero, List.set_cons_succ, i64_w, i32_w]
                              rfl
                            refine pure_ (i := 2) (N := some 59) (v := ?_) (a' := ?_) #[false, true, true, false, false, false, false] rfl rfl (by kernel_rfl) (fun _ _ _ h => h) (Or.inl ⟨by rfl, ?_⟩) ?_ ?_
                            rotate_left
                            · intro w'
                              go_simp
                              with_reducible rfl
                            rotate_left
                            · simp only [Act.put, List.setIfInBounds_toArray, List.set_cons_zero, List.set_cons_succ, i64_w, i32_w]
                              rfl
                            refine pure_ (i := 3) (N := some 60) (v := ?_) (a' := ?_) #[false, true, true, true, false, false, false] rfl rfl (by kernel_rfl) (fun _ _ _ h => h) (Or.inl ⟨by rfl, ?_⟩) ?_ ?_
                            rotate_left
                            · intro w'
                              go_simp
                              with_reducible rfl
                            rotate_left
                            · simp only [Act.put, List.setIfInBounds_toArray, List.set_cons_zero, List.set_cons_succ, i64_w, i32_w]
                              rfl
                            refine pure_ (i := 5) (N := some 62) (v := ?_) (a' := ?_) #[false, true, true, true, false, true, false] rfl rfl (by kernel_rfl) (fun _ _ _ h => h) (Or.inl ⟨by rfl, ?_⟩) ?_ ?_
                            rotate_left
                            · intro w'
                              go_simp
                              with_reducible rfl
                            rotate_left
                            · simp only [Act.put, List.setIfInBounds_toArray, List.set_cons_zero, List.set_cons_succ, i64_w, i32_w]
                              rfl
                            refine take_ (i := 0) (N := some 57) (v := ?_) (a' := ?_) #[true, true, true, true, false, true, false] rfl rfl (by kernel_rfl) (fun _ _ _ h => h) (Or.inl ⟨by rfl, ?_⟩) hHeld ?_ ?_
                            rotate_left
                            · rintro w' ⟨s0, s1, s2, s3, s4, s5, s6, s7, s8, s9, s10, s11⟩
                              go_simp
                              with_reducible rfl
                            rotate_left
                            · simp only [Act.put, List.setIfInBounds_toArray, List.set_cons_zero, List.set_cons_succ, i64_w, i32_w]
                              rfl
                            refine take_ (i := 4) (N := some 61) (v := ?_) (a' := ?_) #[true, true, true, true, true, true, false] rfl rfl (by kernel_rfl) (fun _ _ _ h => h) (Or.inl ⟨by rfl, ?_⟩) hHeld ?_ ?_
                            rotate_left
                            · rintro w' ⟨s0, s1, s2, s3, s4, s5, s6, s7, s8, s9, s10, s11⟩
                              go_simp
                              with_reducible rfl
                            rotate_left
                            · simp only [Act.put, List.setIfInBounds_toArray, List.set_cons_zero, List.set_cons_succ, i64_w, i32_w]
                              rfl
                            refine one_ (i := 6) (N := some 63) #[true, true, true, true, true, true, true] rfl rfl (by kernel_rfl) (by decide) (fun K hK => ?_)
                            refine goes_ Try.func16 (by kernel_rfl) rfl #[.agg #[.string a1_0, .int .i64 a1_1, .slice A1_2 l1_2.length c1_2, .int .i64 a1_3, .int .i64 a1_4, .int .i64 a1_5], .agg #[.string ((rd_T27 l0 t227).f0), .int .i64 ((rd_T27 l0 t227).f1), .slice A239_2 ((rd_T27 l0 t227).f2).length c239_2, .int .i64 ((rd_T27 l0 t227).f3), .int .i64 ((rd_T27 l0 t227).f4), .int .i64 ((rd_T27 l0 t227).f5)], .int .i64 (wrap64 (1 + (Int.tmod (wrap64 (a2)) 3)))] (by rfl) rfl rfl (by (try simp only [List.map_toArray, List.map_cons, List.map_nil]); first | done | rfl | (simp only [List.length_drop, List.length_take]; rfl)) ?_
                            with_reducible refine (expand_Better.calls kj29 a1_0 a1_1 _ _ l1_2 a1_3 a1_4 a1_5 ((rd_T27 l0 t227).f0) ((rd_T27 l0 t227).f1) _ _ ((rd_T27 l0 t227).f2) ((rd_T27 l0 t227).f3) ((rd_T27 l0 t227).f4) ((rd_T27 l0 t227).f5) (wrap64 (1 + (Int.tmod (wrap64 (a2)) 3))) true _ ?side1 ?side2 ?side3 ?side4 A42.out).mono ?_
                            (case side1 => repeat (first | exact (Kd.V_reads' HO_218002.out).2.2 | (with_reducible refine Kd.C_alloc ?_ _) | (with_reducible refine Kd.C_drewN ?_ _) | (with_reducible refine Kd.C_drew ?_)))
                            (case side2 => exact (Kd.V_reads' HO_218002.out).2.1)
                            (case side3 => repeat (first | exact (by repeat (first | (with_reducible exact HR239_2.out) | (with_reducible refine Kd.C_alloc ?_ _) | (with_reducible refine Kd.C_drewN ?_ _) | (with_reducible refine Kd.C_drew ?_) | exact HR239_2.out)) | (with_reducible refine Kd.C_alloc ?_ _) | (with_reducible refine Kd.C_drewN ?_ _) | (with_reducible refine Kd.C_drew ?_)))
                            (case side4 => exact HC239_2.out)
                            rintro e w54 ⟨rfl, hb⟩
                            have HS6_ := (hb.cell (World.block_lt_of_cell? _ _ (hHeld.2.2.2.2.2.2.1))).trans (hHeld.2.2.2.2.2.2.1)
                            have HS7_ := (hb.cell (World.block_lt_of_cell? _ _ (hHeld.2.2.2.2.2.2.2.1))).trans (hHeld.2.2.2.2.2.2.2.1)
                            have HS8_ := (hb.cell (World.block_lt_of_cell? _ _ (hHeld.2.2.2.2.2.2.2.2.1))).trans (hHeld.2.2.2.2.2.2.2.2.1)
                            have HS9_ := (hb.cell (World.block_lt_of_cell? _ _ (hHeld.2.2.2.2.2.2.2.2.2.1))).trans (hHeld.2.2.2.2.2.2.2.2.2.1)
                            have HS10_ := (hb.cell (World.block_lt_of_cell? _ _ (hHeld.2.2.2.2.2.2.2.2.2.2.1))).trans (hHeld.2.2.2.2.2.2.2.2.2.2.1)
                            have HS11_ := (hb.cell (World.block_lt_of_cell? _ _ (hHeld.2.2.2.2.2.2.2.2.2.2.2))).trans (hHeld.2.2.2.2.2.2.2.2.2.2.2)
                            refine ⟨_, rfl, ?_⟩
                            have n0_ := Aside0.mk (Kd.V_below (by (with_reducible repeat (first | apply Kd.V_alloc | apply Kd.V_drewN | apply Kd.V_drew)); exact HO_0.out) hb)
                            have n1_ := Aside0.mk (Kd.V_below (by (with_reducible repeat (first | apply Kd.V_alloc | apply Kd.V_drewN | apply Kd.V_drew)); exact HO_218002.out) hb)
                            have n2_ := Aside0.mk (Kd.N_below (by (with_reducible repeat (first | apply Kd.N_alloc | apply Kd.N_drewN | apply Kd.N_drew)); exact HO237.out) hb)
                            have n3_ := Aside0.mk (Kd.V_below (by (with_reducible repeat (first | apply Kd.V_alloc | apply Kd.V_drewN | apply Kd.V_drew)); exact HL239_2.out) hb)
                            have n4_ := Aside0.mk (blk_below (g := gb217) (o := .cells #[.string a1_0, .int .i64 a1_1, .slice A1_2 l1_2.length c1_2, .int .i64 a1_3, .int .i64 a1_4, .int .i64 a1_5] 27 (0, 0)) (by (with_reducible repeat (first | refine blk_drewN ?_ _ | refine blk_drew ?_ | refine blk_alloc ?_ _)); exact BK217.out) hb)
                            have n5_ := Aside0.mk (Kd.C_below (by repeat (first | (with_reducible exact HR239_2.out) | (with_reducible refine Kd.C_alloc ?_ _) | (with_reducible refine Kd.C_drewN ?_ _) | (with_reducible refine Kd.C_drew ?_) | exact HR239_2.out)) hb)
                            have n6_ := Aside0.mk (below_step (by repeat (first | (with_reducible first | exact HB.out | apply below_alloc | apply pw_below_drewN | apply below_drew1 | refine below_set ?_ GE217.out) | exact HB.out)) hb)
                            clear HO_0
                            clear HO_218002
                            clear HO237
                            clear HL239_2
                            clear BK217
                            clear HR239_2
                            clear HB
                            have HO_0 := n0_
                            have HO_218002 := n1_
                            have HO237 := n2_
                            have HL239_2 := n3_
                            have BK217 := n4_
                            have HR239_2 := n5_
                            have HB := n6_
                            clear n0_ n1_ n2_ n3_ n4_ n5_ n6_
                            (try clear hb)
                            (try clear hb2)
                            (try clear hk)
                            (try clear hi)
                            refine hK.out _ _ ⟨(blk_cell BK217.out 0).trans rfl, (blk_cell BK217.out 1).trans rfl, (blk_cell BK217.out 2).trans rfl, (blk_cell BK217.out 3).trans rfl, (blk_cell BK217.out 4).trans rfl, (blk_cell BK217.out 5).trans rfl, HS6_, HS7_, HS8_, HS9_, HS10_, HS11_⟩ (fun hHeld => ?_)
                            clear hK K
                            refine norm_ (a' := ?_) ?_ ?_
                            rotate_left
                            · show Act.put _ (some 63) _ = _
                              simp only [Act.put, List.setIfInBounds_toArray, List.set_cons_zero, List.set_cons_succ, i64_w, i32_w]
                              rfl
                            refine done_ (by kernel_rfl) ?_
                            try go_wp2_with (first | (go_at_call 15; (with_reducible refine (triremelaw21_known.calls kj29  t241 _ A45.out).mono ?_); rintro e w55 ⟨rfl, hb⟩; have n0_ := Aside0.mk (Kd.V_below (by (with_reducible repeat (first | apply Kd.V_alloc | apply Kd.V_drewN | apply Kd.V_drew)); exact HO_0.out) hb); have n1_ := Aside0.mk (Kd.V_below (by (with_reducible repeat (first | apply Kd.V_alloc | apply Kd.V_drewN | apply Kd.V_drew)); exact HO_218002.out) hb); have n2_ := Aside0.mk (Kd.N_below (by (with_reducible repeat (first | apply Kd.N_alloc | apply Kd.N_drewN | apply Kd.N_drew)); exact HO237.out) hb); have n3_ := Aside0.mk (Kd.V_below (by (with_reducible repeat (first | apply Kd.V_alloc | apply Kd.V_drewN | apply Kd.V_drew)); exact HL239_2.out) hb); have n4_ := Aside0.mk (blk_below (g := gb217) (o := .cells #[.string a1_0, .int .i64 a1_1, .slice A1_2 l1_2.length c1_2, .int .i64 a1_3, .int .i64 a1_4, .int .i64 a1_5] 27 (0, 0)) (by (with_reducible repeat (first | refine blk_drewN ?_ _ | refine blk_drew ?_ | refine blk_alloc ?_ _)); exact BK217.out) hb); have n5_ := Aside0.mk (Kd.C_below (by repeat (first | (with_reducible exact HR239_2.out) | (with_reducible refine Kd.C_alloc ?_ _) | (with_reducible refine Kd.C_drewN ?_ _) | (with_reducible refine Kd.C_drew ?_) | exact HR239_2.out)) hb); have n6_ := Aside0.mk (below_step (by repeat (first | (with_reducible first | exact HB.out | apply below_alloc | apply pw_below_drewN | apply below_drew1 | refine below_set ?_ GE217.out) | exact HB.out)) hb); clear HO_0; clear HO_218002; clear HO237; clear HL239_2; clear BK217; clear HR239_2; clear HB; have HO_0 := n0_; have HO_218002 := n1_; have HO237 := n2_; have HL239_2 := n3_; have BK217 := n4_; have HR239_2 := n5_; have HB := n6_; clear n0_ n1_ n2_ n3_ n4_ n5_ n6_; (try clear hb); (try clear hb2); (try clear hk); (try clear hi)))
                            go_ret
                            exact ⟨by first | rfl | (simp [errW_none, errW_some] <;> rfl) | (simp [*, errW_none, errW_some] <;> rfl), by repeat (first | (with_reducible first | exact HB.out | apply below_alloc | apply pw_below_drewN | apply below_drew1 | refine below_set ?_ GE217.out) | exact HB.out)⟩
                          · rw [if_neg c44] at H
                            have c44b0 : (t238 == (l0.length : Int)) = false := beq_eq_false_iff_ne.mpr c44
                            have c44b1 : (t238 != (l0.length : Int)) = true := bne_iff_ne.mpr c44
                            obtain rfl := Option.some.inj H
                            try go_wp2_with (first | ((with_reducible refine gate_dst (N := 47) rfl ?_); (try (refine gate_guard (by rfl) ?_; dsimp only)); refine Kd.N_lit k27 _ 27 ?hg (N' := 47) ?hd (xs := ([] : List (S27))) (inner := []) (ok := (fun k_ => ((P0_ k_ ∨ P1_2_ k_) ∨ w.heap.size ≤ k_) ∧ k_ ≠ gb217)) (okp := (fun k_ => ((P0_ k_ ∨ P1_2_ k_) ∨ w.heap.size ≤ k_) ∧ k_ ≠ gb217)) ?hr ?hp (fun _ hk => hk) ((show ∀ k_, wc.heap.size ≤ k_ → (fun k_ => ((P0_ k_ ∨ P1_2_ k_) ∨ w.heap.size ≤ k_) ∧ k_ ≠ gb217) k_ from fun k_ hk => ⟨(.inr (Nat.le_trans (below_size (by repeat (first | (with_reducible first | exact HB.out | apply below_alloc | apply pw_below_drewN | apply below_drew1 | refine below_set ?_ GE217.out) | exact HB.out))) hk)), Kd.freshB (g := gb217) (o := .cells #[.string a1_0, .int .i64 a1_1, .slice A1_2 l1_2.length c1_2, .int .i64 a1_3, .int .i64 a1_4, .int .i64 a1_5] 27 (0, 0)) (by (with_reducible repeat (first | refine blk_drewN ?_ _ | refine blk_drew ?_ | refine blk_alloc ?_ _)); exact BK217.out) k_ hk⟩) _ (Nat.le_refl _)) (Below.refl _ _) (Nat.le_refl _) (by simp) ?_; (case hd => rfl); (case hg => rfl); (case hr => first | (go_simp; done) | (go_simp; rfl)); (case hp => exact (Reps.none _ _)); intro v230 w56 ho57 hb hg_ hnew_; clear hg_ hnew_; (first | rw [← Ny229.out] at ho57 | (simp only [Int.reduceToNat] at ho57; rw [← Ny229.out] at ho57)); have n0_ := Aside0.mk (Kd.V_elder' (by (with_reducible repeat (first | apply Kd.V_alloc | apply Kd.V_drewN | apply Kd.V_drew)); exact HO_0.out) (Kd.N_base ho57) hb); have n1_ := Aside0.mk (Kd.V_elder' (by (with_reducible repeat (first | apply Kd.V_alloc | apply Kd.V_drewN | apply Kd.V_drew)); exact HO_218002.out) (Kd.N_base ho57) hb); have n2_ := Aside0.mk (Kd.N_lower ho57 (below_size (by repeat (first | (with_reducible first | exact HB.out | apply below_alloc | apply pw_below_drewN | apply below_drew1 | refine below_set ?_ GE217.out) | exact HB.out)))); have n3_ := Aside0.mk (blk_below (g := gb217) (o := .cells #[.string a1_0, .int .i64 a1_1, .slice A1_2 l1_2.length c1_2, .int .i64 a1_3, .int .i64 a1_4, .int .i64 a1_5] 27 (0, 0)) (by (with_reducible repeat (first | refine blk_drewN ?_ _ | refine blk_drew ?_ | refine blk_alloc ?_ _)); exact BK217.out) hb); have n4_ := Aside0.mk (below_step (by repeat (first | (with_reducible first | exact HB.out | apply below_alloc | apply pw_below_drewN | apply below_drew1 | refine below_set ?_ GE217.out) | exact HB.out)) hb); clear HO_0; clear HO_218002; clear BK217; clear HB; have HO_0 := n0_; have HO_218002 := n1_; have HO231 := n2_; have BK217 := n3_; have HB := n4_; clear n0_ n1_ n2_ n3_ n4_; clear hb ho57) | ((with_reducible refine gate_builtin (b := .append) (xs := #[.tmp 47, .tmp 48]) rfl ?_); (try (refine gate_guard (by rfl) ?_; dsimp only)); at_builtin; refine Kd.N_append_rows k27 (w0 := w) w.heap.size rfl (.tmp 47) (.tmp 48) 22 27 (.agg #[(.string ⟨#[]⟩), (.int .i64 0), (.slice none 0 0), (.int .i64 0), (.int .i64 0), (.int .i64 0)]) 72 rfl Try.underlying22 info27 rfl (by decide) (by omega) v230 y229 l0 _ _ _ (fun k_ => ((P0_ k_ ∨ P1_2_ k_) ∨ w.heap.size ≤ k_) ∧ k_ ≠ gb217) (fun k_ => ((fun k_ => ((P0_ k_ ∨ P1_2_ k_) ∨ w.heap.size ≤ k_) ∧ k_ ≠ gb217)) k_ ∧ some k_ ≠ (v230 : Value).ownBlock) rfl rfl ?aO ?aR (fun _ hk => hk) ?aF ?aB ?aS ?aL ?_; (case aR => exact (by skip; exact Kd.V_F (Kd.V_mono (ok' := (fun k_ => ((fun k_ => ((P0_ k_ ∨ P1_2_ k_) ∨ w.heap.size ≤ k_) ∧ k_ ≠ gb217)) k_ ∧ some k_ ≠ (v230 : Value).ownBlock)) (HO_0.out) (fun k_ hk => ⟨⟨hk.1.1, hk.1.2⟩, hk.2⟩)))); (case aB => exact (by repeat (first | (with_reducible first | exact HB.out | apply below_alloc | apply pw_below_drewN | apply below_drew1 | refine below_set ?_ GE217.out) | exact HB.out))); (case aF => exact (fun k_ hk => ⟨(.inr (Nat.le_trans (below_size (by repeat (first | (with_reducible first | exact HB.out | apply below_alloc | apply pw_below_drewN | apply below_drew1 | refine below_set ?_ GE217.out) | exact HB.out))) hk)), Kd.freshB (g := gb217) (o := .cells #[.string a1_0, .int .i64 a1_1, .slice A1_2 l1_2.length c1_2, .int .i64 a1_3, .int .i64 a1_4, .int .i64 a1_5] 27 (0, 0)) (by (with_reducible repeat (first | refine blk_drewN ?_ _ | refine blk_drew ?_ | refine blk_alloc ?_ _)); exact BK217.out) k_ hk⟩)); (case aO => exact (by (with_reducible repeat (first | apply Kd.N_alloc | apply Kd.N_drewN | apply Kd.N_drew)); exact HO231.out)); (case aS => exact (below_size (by repeat (first | (with_reducible first | exact HB.out | apply below_alloc | apply pw_below_drewN | apply below_drew1 | refine below_set ?_ GE217.out) | exact HB.out)))); (case aL => have := LMc37.out; omega); intro v233 w58 ho hb hg hat; rw [← Ny232.out] at ho; have n0_ := Aside0.mk (Kd.V_afterv (ok := (fun k_ => ((P0_ k_ ∨ P1_2_ k_) ∨ w.heap.size ≤ k_) ∧ k_ ≠ gb217)) (by (with_reducible repeat (first | apply Kd.V_alloc | apply Kd.V_drewN | apply Kd.V_drew)); exact HO_0.out) hg hat); have n1_ := Aside0.mk (Kd.V_afterv (ok := (fun k_ => ((P0_ k_ ∨ P1_2_ k_) ∨ w.heap.size ≤ k_) ∧ k_ ≠ gb217)) (by (with_reducible repeat (first | apply Kd.V_alloc | apply Kd.V_drewN | apply Kd.V_drew)); exact HO_218002.out) hg hat); have n2_ := Aside0.mk (blk_grown (g := gb217) (o := .cells #[.string a1_0, .int .i64 a1_1, .slice A1_2 l1_2.length c1_2, .int .i64 a1_3, .int .i64 a1_4, .int .i64 a1_5] 27 (0, 0)) (by (with_reducible repeat (first | refine blk_drewN ?_ _ | refine blk_drew ?_ | refine blk_alloc ?_ _)); exact BK217.out) hg (Kd.N_away HO231.out (fun _ hk => hk.2))); have n3_ := Aside0.mk (hb); have n4_ := Aside0.mk (ho); clear HO_0; clear HO_218002; clear BK217; clear HB; clear HO231; have HO_0 := n0_; have HO_218002 := n1_; have BK217 := n2_; have HB := n3_; have HO234 := n4_; clear n0_ n1_ n2_ n3_ n4_; clear ho hb hg hat; have hcz59_0 : w58.cell? ⟨gb217, 0, none⟩ = some (.string a1_0) := (blk_cell BK217.out 0).trans rfl; have hcz59_1 : w58.cell? ⟨gb217, 1, none⟩ = some (.int .i64 a1_1) := (blk_cell BK217.out 1).trans rfl; have hcz59_2 : w58.cell? ⟨gb217, 2, none⟩ = some (.slice A1_2 l1_2.length c1_2) := (blk_cell BK217.out 2).trans rfl; have hcz59_3 : w58.cell? ⟨gb217, 3, none⟩ = some (.int .i64 a1_3) := (blk_cell BK217.out 3).trans rfl; have hcz59_4 : w58.cell? ⟨gb217, 4, none⟩ = some (.int .i64 a1_4) := (blk_cell BK217.out 4).trans rfl; have hcz59_5 : w58.cell? ⟨gb217, 5, none⟩ = some (.int .i64 a1_5) := (blk_cell BK217.out 5).trans rfl; have hfz59_0 := blk_frozen BK217.out 0; have hfz59_1 := blk_frozen BK217.out 1; have hfz59_2 := blk_frozen BK217.out 2; have hfz59_3 := blk_frozen BK217.out 3; have hfz59_4 := blk_frozen BK217.out 4; have hfz59_5 := blk_frozen BK217.out 5) | ((with_reducible refine gate_builtin (b := .append) (xs := #[.tmp 50, .tmp 52]) rfl ?_); (try (refine gate_guard (by rfl) ?_; dsimp only)); at_builtin; refine Kd.N_append k27 (w0 := w) w.heap.size rfl (.tmp 50) (.tmp 52) 22 27 (.agg #[(.string ⟨#[]⟩), (.int .i64 0), (.slice none 0 0), (.int .i64 0), (.int .i64 0), (.int .i64 0)]) 72 rfl Try.underlying22 info27 rfl (by decide) (by omega) v233 y232 (⟨a1_0, a1_1, l1_2, a1_3, a1_4, a1_5⟩ : S27) [.string a1_0, .int .i64 a1_1, .slice A1_2 l1_2.length c1_2, .int .i64 a1_3, .int .i64 a1_4, .int .i64 a1_5] (fun k_ => ((P0_ k_ ∨ P1_2_ k_) ∨ w.heap.size ≤ k_) ∧ k_ ≠ gb217) (fun k_ => ((fun k_ => ((P0_ k_ ∨ P1_2_ k_) ∨ w.heap.size ≤ k_) ∧ k_ ≠ gb217)) k_ ∧ some k_ ≠ (v233 : Value).ownBlock) rfl rfl ?aP (fun _ hk => hk) ?aF ?aO ?aB ?aS ?aL ?_; (case aP => exact (k27_mkF _ _ (⟨a1_0, a1_1, l1_2, a1_3, a1_4, a1_5⟩ : S27) (Kd.V_reads' (Kd.V_mono (ok' := (fun k_ => ((fun k_ => ((P0_ k_ ∨ P1_2_ k_) ∨ w.heap.size ≤ k_) ∧ k_ ≠ gb217)) k_ ∧ some k_ ≠ (v233 : Value).ownBlock)) (HO_218002.out) (fun k_ hk => ⟨⟨hk.1.1, hk.1.2⟩, hk.2⟩))).2.1 (Kd.V_F (Kd.V_mono (ok' := (fun k_ => ((fun k_ => ((P0_ k_ ∨ P1_2_ k_) ∨ w.heap.size ≤ k_) ∧ k_ ≠ gb217)) k_ ∧ some k_ ≠ (v233 : Value).ownBlock)) (HO_218002.out) (fun k_ hk => ⟨⟨hk.1.1, hk.1.2⟩, hk.2⟩))))); (case aB => exact (by repeat (first | (with_reducible first | exact HB.out | apply below_alloc | apply pw_below_drewN | apply below_drew1 | refine below_set ?_ GE217.out) | exact HB.out))); (case aF => exact (fun k_ hk => ⟨(.inr (Nat.le_trans (below_size (by repeat (first | (with_reducible first | exact HB.out | apply below_alloc | apply pw_below_drewN | apply below_drew1 | refine below_set ?_ GE217.out) | exact HB.out))) hk)), Kd.freshB (g := gb217) (o := .cells #[.string a1_0, .int .i64 a1_1, .slice A1_2 l1_2.length c1_2, .int .i64 a1_3, .int .i64 a1_4, .int .i64 a1_5] 27 (0, 0)) (by (with_reducible repeat (first | refine blk_drewN ?_ _ | refine blk_drew ?_ | refine blk_alloc ?_ _)); exact BK217.out) k_ hk⟩)); (case aO => exact (by (with_reducible repeat (first | apply Kd.N_alloc | apply Kd.N_drewN | apply Kd.N_drew)); exact HO234.out)); (case aS => exact (below_size (by repeat (first | (with_reducible first | exact HB.out | apply below_alloc | apply pw_below_drewN | apply below_drew1 | refine below_set ?_ GE217.out) | exact HB.out)))); (case aL => have := LMc38.out; omega); intro v236 w60 ho hb hg hat; rw [← Ny235.out] at ho; have n0_ := Aside0.mk (Kd.V_afterv (ok := (fun k_ => ((P0_ k_ ∨ P1_2_ k_) ∨ w.heap.size ≤ k_) ∧ k_ ≠ gb217)) (by (with_reducible repeat (first | apply Kd.V_alloc | apply Kd.V_drewN | apply Kd.V_drew)); exact HO_0.out) hg hat); have n1_ := Aside0.mk (Kd.V_afterv (ok := (fun k_ => ((P0_ k_ ∨ P1_2_ k_) ∨ w.heap.size ≤ k_) ∧ k_ ≠ gb217)) (by (with_reducible repeat (first | apply Kd.V_alloc | apply Kd.V_drewN | apply Kd.V_drew)); exact HO_218002.out) hg hat); have n2_ := Aside0.mk (blk_grown (g := gb217) (o := .cells #[.string a1_0, .int .i64 a1_1, .slice A1_2 l1_2.length c1_2, .int .i64 a1_3, .int .i64 a1_4, .int .i64 a1_5] 27 (0, 0)) (by (with_reducible repeat (first | refine blk_drewN ?_ _ | refine blk_drew ?_ | refine blk_alloc ?_ _)); exact BK217.out) hg (Kd.N_away HO234.out (fun _ hk => hk.2))); have n3_ := Aside0.mk (hb); have n4_ := Aside0.mk (ho); clear HO_0; clear HO_218002; clear BK217; clear HB; clear HO234; have HO_0 := n0_; have HO_218002 := n1_; have BK217 := n2_; have HB := n3_; have HO237 := n4_; clear n0_ n1_ n2_ n3_ n4_; clear ho hb hg hat; obtain ⟨Ao61, co61, eo61⟩ := Kd.N_slice HO237.out; subst eo61) | ((with_reducible refine gate_callee (f := 18) rfl ?_); refine goesL_ (some 56) rfl rfl Try.func18 (by kernel_rfl) rfl #[.slice Ao61 y235.length co61, .int .i64 (wrap64 (1 + (Int.tmod (wrap64 (a2)) 3))), .int .i64 0] rfl (by (try simp only [List.map_toArray, List.map_cons, List.map_nil]); first | done | rfl | (simp only [List.length_drop, List.length_take]; rfl)) ?_; (with_reducible refine (expand_Choose.calls kj29 _ _ y235 (wrap64 (1 + (Int.tmod (wrap64 (a2)) 3))) 0 t238 _ ?side1 ?side2 A39.out).mono ?_); (case side1 => repeat (first | exact (Kd.N_reads' HO237.out).2.2 | (with_reducible refine Kd.C_alloc ?_ _) | (with_reducible refine Kd.C_drewN ?_ _) | (with_reducible refine Kd.C_drew ?_))); (case side2 => exact (Kd.N_reads' HO237.out).2.1); rintro e w62 ⟨rfl, hb⟩; refine ⟨_, rfl, ?_⟩; have n0_ := Aside0.mk (Kd.V_below (by (with_reducible repeat (first | apply Kd.V_alloc | apply Kd.V_drewN | apply Kd.V_drew)); exact HO_0.out) hb); have n1_ := Aside0.mk (Kd.V_below (by (with_reducible repeat (first | apply Kd.V_alloc | apply Kd.V_drewN | apply Kd.V_drew)); exact HO_218002.out) hb); have n2_ := Aside0.mk (Kd.N_below (by (with_reducible repeat (first | apply Kd.N_alloc | apply Kd.N_drewN | apply Kd.N_drew)); exact HO237.out) hb); have n3_ := Aside0.mk (blk_below (g := gb217) (o := .cells #[.string a1_0, .int .i64 a1_1, .slice A1_2 l1_2.length c1_2, .int .i64 a1_3, .int .i64 a1_4, .int .i64 a1_5] 27 (0, 0)) (by (with_reducible repeat (first | refine blk_drewN ?_ _ | refine blk_drew ?_ | refine blk_alloc ?_ _)); exact BK217.out) hb); have n4_ := Aside0.mk (below_step (by repeat (first | (with_reducible first | exact HB.out | apply below_alloc | apply pw_below_drewN | apply below_drew1 | refine below_set ?_ GE217.out) | exact HB.out)) hb); clear HO_0; clear HO_218002; clear HO237; clear BK217; clear HB; have HO_0 := n0_; have HO_218002 := n1_; have HO237 := n2_; have BK217 := n3_; have HB := n4_; clear n0_ n1_ n2_ n3_ n4_; (try clear hb); (try clear hb2); (try clear hk); (try clear hi)))
                            have n0_ := Aside0.mk (Kd.V_drew HO_0.out)
                            have n1_ := Aside0.mk (Kd.V_drew HO_218002.out)
                            have n2_ := Aside0.mk (Kd.N_drew HO237.out)
                            have n3_ := Aside0.mk (blk_drew BK217.out)
                            have n4_ := Aside0.mk (below_drew1 HB.out)
                            clear HO_0
                            clear HO_218002
                            clear HO237
                            clear BK217
                            clear HB
                            have HO_0 := n0_
                            have HO_218002 := n1_
                            have HO237 := n2_
                            have BK217 := n3_
                            have HB := n4_
                            clear n0_ n1_ n2_ n3_ n4_
                            have p239 : 0 ≤ (t227 : Int) := of_decide_eq_true (by first | (with_reducible assumption) | assumption)
                            have q239 : t227 < (l0.length : Int) := of_decide_eq_true (by first | (with_reducible assumption) | assumption)
                            obtain ⟨ad239, A239_2, c239_2, e239, hx239_0, hx239_1, hx239_2, hx239_3, hx239_4, hx239_5, hl239_2, hi239_2⟩ := at_T27 (Kd.V_reads' HO_0.out).2.2 t227 p239 q239
                            cases e239
                            obtain ⟨ce239, hce239, hMe239, hcc239⟩ := Kd.V_get HO_0.out z27 t227 p239 (by first | exact q239 | exact of_decide_eq_true (by first | (with_reducible assumption) | assumption) | (have e_ := (Kd.V_reads' HO_0.out).1; omega))
                            obtain ⟨ua239_2, uc239_2, rfl, ul239_2, ge239_2⟩ := k27_openF hMe239
                            have hv239_2 := hcc239 2 _ rfl
                            rw [add_field _ _ 2 (by omega)] at hv239_2
                            replace hv239_2 := Option.some.inj (hv239_2.symm.trans hx239_2)
                            injection hv239_2 with hva_ hvn_ hvc_
                            rw [hva_] at ge239_2
                            rw [hvc_] at ul239_2
                            have HL239_2 := Aside0.mk (show Kd.V Kd.string 9 _ w.heap.size _ _ ((rd_T27 l0 t227).f2) from Kd.V_mk ul239_2 ge239_2)
                            clear hva_ hvn_ hvc_ ge239_2 ul239_2
                            clear hcc239 hce239
                            have HR239_2 := Aside0.mk hi239_2
                            have HC239_2 := Aside0.mk hl239_2
                            clear hi239_2 hl239_2
                            replace p239 := eq_true p239
                            replace q239 := eq_true q239
                            refine start_ (n := 7) (S := fun w' => w'.cell? ⟨gb217, 0, none⟩ = some (.string a1_0) ∧ w'.cell? ⟨gb217, 1, none⟩ = some (.int .i64 a1_1) ∧ w'.cell? ⟨gb217, 2, none⟩ = some (.slice A1_2 l1_2.length c1_2) ∧ w'.cell? ⟨gb217, 3, none⟩ = some (.int .i64 a1_3) ∧ w'.cell? ⟨gb217, 4, none⟩ = some (.int .i64 a1_4) ∧ w'.cell? ⟨gb217, 5, none⟩ = some (.int .i64 a1_5) ∧ w'.cell? (ad239.add ((t227).toNat * 6)) = some (.string ((rd_T27 l0 t227).f0)) ∧ w'.cell? ⟨(ad239.add ((t227).toNat * 6)).block, (ad239.add ((t227).toNat * 6)).off + 1, none⟩ = some (.int .i64 ((rd_T27 l0 t227).f1)) ∧ w'.cell? ⟨(ad239.add ((t227).toNat * 6)).block, (ad239.add ((t227).toNat * 6)).off + 2, none⟩ = some (.slice A239_2 ((rd_T27 l0 t227).f2).length c239_2) ∧ w'.cell? ⟨(ad239.add ((t227).toNat * 6)).block, (ad239.add ((t227).toNat * 6)).off + 3, none⟩ = some (.int .i64 ((rd_T27 l0 t227).f3)) ∧ w'.cell? ⟨(ad239.add ((t227).toNat * 6)).block, (ad239.add ((t227).toNat * 6)).off + 4, none⟩ = some (.int .i64 ((rd_T27 l0 t227).f4)) ∧ w'.cell? ⟨(ad239.add ((t227).toNat * 6)).block, (ad239.add ((t227).toNat * 6)).off + 5, none⟩ = some (.int .i64 ((rd_T27 l0 t227).f5))) (ds := []) #[false, false, false, false, false, false, false] (by kernel_rfl) rfl rfl ⟨(blk_cell BK217.out 0).trans rfl, (blk_cell BK217.out 1).trans rfl, (blk_cell BK217.out 2).trans rfl, (blk_cell BK217.out 3).trans rfl, (blk_cell BK217.out 4).trans rfl, (blk_cell BK217.out 5).trans rfl, hx239_0, hx239_1, hx239_2, hx239_3, hx239_4, hx239_5⟩ (fun hHeld => ?_)
                            generalize w62.drew = w63 at HO_0 HO_218002 HO237 BK217 HB HL239_2 HR239_2 hx239_0 hx239_1 hx239_2 hx239_3 hx239_4 hx239_5 hHeld ⊢
                            refine pure_ (i := 1) (N := some 58) (v := ?_) (a' := ?_) #[false, true, false, false, false, false, false] rfl rfl (by kernel_rfl) (fun _ _ _ h => h) (Or.inl ⟨by rfl, ?_⟩) ?_ ?_
                            rotate_left
                            · intro w'
                              go_simp
                              with_reducible rfl
                            rotate_left
                            · simp only [Act.put, List.setIfInBounds_toArray, List.set_cons_zero, List.set_cons_succ, i64_w, i32_w]
                              rfl
                            refine pure_ (i := 2) (N := some 59) (v := ?_) (a' := ?_) #[false, true, true, false, false, false, false] rfl rfl (by kernel_rfl) (fun _ _ _ h => h) (Or.inl ⟨by rfl, ?_⟩) ?_ ?_
                            rotate_left
                            · intro w'
                              go_simp
                              with_reducible rfl
                            rotate_left
                            · simp only [Act.put, List.setIfInBounds_toArray, List.set_cons_zero, List.set_cons_succ, i64_w, i32_w]
                              rfl
                            refine pure_ (i := 3) (N := some 60) (v := ?_) (a' := ?_) #[false, true, true, true, false, false, false] rfl rfl (by kernel_rfl) (fun _ _ _ h => h) (Or.inl ⟨by rfl, ?_⟩) ?_ ?_
                            rotate_left
                            · intro w'
                              go_simp
                              with_reducible rfl
                            rotate_left
                            · simp only [Act.put, List.setIfInBounds_toArray, List.set_cons_zero, List.set_cons_succ, i64_w, i32_w]
                              rfl
                            refine pure_ (i := 5) (N := some 62) (v := ?_) (a' := ?_) #[false, true, true, true, false, true, false] rfl rfl (by kernel_rfl) (fun _ _ _ h => h) (Or.inl ⟨by rfl, ?_⟩) ?_ ?_
                            rotate_left
                            · intro w'
                              go_simp
                              with_reducible rfl
                            rotate_left
                            · simp only [Act.put, List.setIfInBounds_toArray, List.set_cons_zero, List.set_cons_succ, i64_w, i32_w]
                              rfl
                            refine take_ (i := 0) (N := some 57) (v := ?_) (a' := ?_) #[true, true, true, true, false, true, false] rfl rfl (by kernel_rfl) (fun _ _ _ h => h) (Or.inl ⟨by rfl, ?_⟩) hHeld ?_ ?_
                            rotate_left
                            · rintro w' ⟨s0, s1, s2, s3, s4, s5, s6, s7, s8, s9, s10, s11⟩
                              go_simp
                              with_reducible rfl
                            rotate_left
                            · simp only [Act.put, List.setIfInBounds_toArray, List.set_cons_zero, List.set_cons_succ, i64_w, i32_w]
                              rfl
                            refine take_ (i := 4) (N := some 61) (v := ?_) (a' := ?_) #[true, true, true, true, true, true, false] rfl rfl (by kernel_rfl) (fun _ _ _ h => h) (Or.inl ⟨by rfl, ?_⟩) hHeld ?_ ?_
                            rotate_left
                            · rintro w' ⟨s0, s1, s2, s3, s4, s5, s6, s7, s8, s9, s10, s11⟩
                              go_simp
                              with_reducible rfl
                            rotate_left
                            · simp only [Act.put, List.setIfInBounds_toArray, List.set_cons_zero, List.set_cons_succ, i64_w, i32_w]
                              rfl
                            refine one_ (i := 6) (N := some 63) #[true, true, true, true, true, true, true] rfl rfl (by kernel_rfl) (by decide) (fun K hK => ?_)
                            refine goes_ Try.func16 (by kernel_rfl) rfl #[.agg #[.string a1_0, .int .i64 a1_1, .slice A1_2 l1_2.length c1_2, .int .i64 a1_3, .int .i64 a1_4, .int .i64 a1_5], .agg #[.string ((rd_T27 l0 t227).f0), .int .i64 ((rd_T27 l0 t227).f1), .slice A239_2 ((rd_T27 l0 t227).f2).length c239_2, .int .i64 ((rd_T27 l0 t227).f3), .int .i64 ((rd_T27 l0 t227).f4), .int .i64 ((rd_T27 l0 t227).f5)], .int .i64 (wrap64 (1 + (Int.tmod (wrap64 (a2)) 3)))] (by rfl) rfl rfl (by (try simp only [List.map_toArray, List.map_cons, List.map_nil]); first | done | rfl | (simp only [List.length_drop, List.length_take]; rfl)) ?_
                            with_reducible refine (expand_Better.calls kj29 a1_0 a1_1 _ _ l1_2 a1_3 a1_4 a1_5 ((rd_T27 l0 t227).f0) ((rd_T27 l0 t227).f1) _ _ ((rd_T27 l0 t227).f2) ((rd_T27 l0 t227).f3) ((rd_T27 l0 t227).f4) ((rd_T27 l0 t227).f5) (wrap64 (1 + (Int.tmod (wrap64 (a2)) 3))) true _ ?side1 ?side2 ?side3 ?side4 A42.out).mono ?_
                            (case side1 => repeat (first | exact (Kd.V_reads' HO_218002.out).2.2 | (with_reducible refine Kd.C_alloc ?_ _) | (with_reducible refine Kd.C_drewN ?_ _) | (with_reducible refine Kd.C_drew ?_)))
                            (case side2 => exact (Kd.V_reads' HO_218002.out).2.1)
                            (case side3 => repeat (first | exact (by repeat (first | (with_reducible exact HR239_2.out) | (with_reducible refine Kd.C_alloc ?_ _) | (with_reducible refine Kd.C_drewN ?_ _) | (with_reducible refine Kd.C_drew ?_) | exact HR239_2.out)) | (with_reducible refine Kd.C_alloc ?_ _) | (with_reducible refine Kd.C_drewN ?_ _) | (with_reducible refine Kd.C_drew ?_)))
                            (case side4 => exact HC239_2.out)
                            rintro e w64 ⟨rfl, hb⟩
                            have HS6_ := (hb.cell (World.block_lt_of_cell? _ _ (hHeld.2.2.2.2.2.2.1))).trans (hHeld.2.2.2.2.2.2.1)
                            have HS7_ := (hb.cell (World.block_lt_of_cell? _ _ (hHeld.2.2.2.2.2.2.2.1))).trans (hHeld.2.2.2.2.2.2.2.1)
                            have HS8_ := (hb.cell (World.block_lt_of_cell? _ _ (hHeld.2.2.2.2.2.2.2.2.1))).trans (hHeld.2.2.2.2.2.2.2.2.1)
                            have HS9_ := (hb.cell (World.block_lt_of_cell? _ _ (hHeld.2.2.2.2.2.2.2.2.2.1))).trans (hHeld.2.2.2.2.2.2.2.2.2.1)
                            have HS10_ := (hb.cell (World.block_lt_of_cell? _ _ (hHeld.2.2.2.2.2.2.2.2.2.2.1))).trans (hHeld.2.2.2.2.2.2.2.2.2.2.1)
                            have HS11_ := (hb.cell (World.block_lt_of_cell? _ _ (hHeld.2.2.2.2.2.2.2.2.2.2.2))).trans (hHeld.2.2.2.2.2.2.2.2.2.2.2)
                            refine ⟨_, rfl, ?_⟩
                            have n0_ := Aside0.mk (Kd.V_below (by (with_reducible repeat (first | apply Kd.V_alloc | apply Kd.V_drewN | apply Kd.V_drew)); exact HO_0.out) hb)
                            have n1_ := Aside0.mk (Kd.V_below (by (with_reducible repeat (first | apply Kd.V_alloc | apply Kd.V_drewN | apply Kd.V_drew)); exact HO_218002.out) hb)
                            have n2_ := Aside0.mk (Kd.N_below (by (with_reducible repeat (first | apply Kd.N_alloc | apply Kd.N_drewN | apply Kd.N_drew)); exact HO237.out) hb)
                            have n3_ := Aside0.mk (Kd.V_below (by (with_reducible repeat (first | apply Kd.V_alloc | apply Kd.V_drewN | apply Kd.V_drew)); exact HL239_2.out) hb)
                            have n4_ := Aside0.mk (blk_below (g := gb217) (o := .cells #[.string a1_0, .int .i64 a1_1, .slice A1_2 l1_2.length c1_2, .int .i64 a1_3, .int .i64 a1_4, .int .i64 a1_5] 27 (0, 0)) (by (with_reducible repeat (first | refine blk_drewN ?_ _ | refine blk_drew ?_ | refine blk_alloc ?_ _)); exact BK217.out) hb)
                            have n5_ := Aside0.mk (Kd.C_below (by repeat (first | (with_reducible exact HR239_2.out) | (with_reducible refine Kd.C_alloc ?_ _) | (with_reducible refine Kd.C_drewN ?_ _) | (with_reducible refine Kd.C_drew ?_) | exact HR239_2.out)) hb)
                            have n6_ := Aside0.mk (below_step (by repeat (first | (with_reducible first | exact HB.out | apply below_alloc | apply pw_below_drewN | apply below_drew1 | refine below_set ?_ GE217.out) | exact HB.out)) hb)
                            clear HO_0
                            clear HO_218002
                            clear HO237
                            clear HL239_2
                            clear BK217
                            clear HR239_2
                            clear HB
                            have HO_0 := n0_
                            have HO_218002 := n1_
                            have HO237 := n2_
                            have HL239_2 := n3_
                            have BK217 := n4_
                            have HR239_2 := n5_
                            have HB := n6_
                            clear n0_ n1_ n2_ n3_ n4_ n5_ n6_
                            (try clear hb)
                            (try clear hb2)
                            (try clear hk)
                            (try clear hi)
                            refine hK.out _ _ ⟨(blk_cell BK217.out 0).trans rfl, (blk_cell BK217.out 1).trans rfl, (blk_cell BK217.out 2).trans rfl, (blk_cell BK217.out 3).trans rfl, (blk_cell BK217.out 4).trans rfl, (blk_cell BK217.out 5).trans rfl, HS6_, HS7_, HS8_, HS9_, HS10_, HS11_⟩ (fun hHeld => ?_)
                            clear hK K
                            refine norm_ (a' := ?_) ?_ ?_
                            rotate_left
                            · show Act.put _ (some 63) _ = _
                              simp only [Act.put, List.setIfInBounds_toArray, List.set_cons_zero, List.set_cons_succ, i64_w, i32_w]
                              rfl
                            refine done_ (by kernel_rfl) ?_
                            try go_wp2
                            go_ret
                            exact ⟨by first | rfl | (simp [errW_none, errW_some] <;> rfl) | (simp [*, errW_none, errW_some] <;> rfl), by repeat (first | (with_reducible first | exact HB.out | apply below_alloc | apply pw_below_drewN | apply below_drew1 | refine below_set ?_ GE217.out) | exact HB.out)⟩
                        · replace c43 := Bool.eq_false_iff.mpr c43
                          subst c43
                          have H1 : (if t238 = t227 then ((triremelaw21_known.f kj29).bind fun t242 => (some t242)) else (some false)) = some r := by rw [if_neg (show ¬ (false = true) by decide)] at H; exact H
                          clear H
                          have H := H1
                          clear H1
                          by_cases c65 : t238 = t227
                          · rw [if_pos c65] at H
                            have c65b0 : (t238 == t227) = true := beq_iff_eq.mpr c65
                            have c65b1 : (t238 != t227) = false := bne_eq_false_iff_eq.mpr c65
                            clear c65
                            replace H := Option.bind_eq_some_iff.mp H
                            obtain ⟨t242, A660, H⟩ := H
                            replace H : (some t242) = some r := H
                            have A66 := Aside0.mk A660
                            clear A660
                            obtain rfl := Option.some.inj H
                            try go_wp2_with (first | ((with_reducible refine gate_dst (N := 47) rfl ?_); (try (refine gate_guard (by rfl) ?_; dsimp only)); refine Kd.N_lit k27 _ 27 ?hg (N' := 47) ?hd (xs := ([] : List (S27))) (inner := []) (ok := (fun k_ => ((P0_ k_ ∨ P1_2_ k_) ∨ w.heap.size ≤ k_) ∧ k_ ≠ gb217)) (okp := (fun k_ => ((P0_ k_ ∨ P1_2_ k_) ∨ w.heap.size ≤ k_) ∧ k_ ≠ gb217)) ?hr ?hp (fun _ hk => hk) ((show ∀ k_, wc.heap.size ≤ k_ → (fun k_ => ((P0_ k_ ∨ P1_2_ k_) ∨ w.heap.size ≤ k_) ∧ k_ ≠ gb217) k_ from fun k_ hk => ⟨(.inr (Nat.le_trans (below_size (by repeat (first | (with_reducible first | exact HB.out | apply below_alloc | apply pw_below_drewN | apply below_drew1 | refine below_set ?_ GE217.out) | exact HB.out))) hk)), Kd.freshB (g := gb217) (o := .cells #[.string a1_0, .int .i64 a1_1, .slice A1_2 l1_2.length c1_2, .int .i64 a1_3, .int .i64 a1_4, .int .i64 a1_5] 27 (0, 0)) (by (with_reducible repeat (first | refine blk_drewN ?_ _ | refine blk_drew ?_ | refine blk_alloc ?_ _)); exact BK217.out) k_ hk⟩) _ (Nat.le_refl _)) (Below.refl _ _) (Nat.le_refl _) (by simp) ?_; (case hd => rfl); (case hg => rfl); (case hr => first | (go_simp; done) | (go_simp; rfl)); (case hp => exact (Reps.none _ _)); intro v230 w67 ho68 hb hg_ hnew_; clear hg_ hnew_; (first | rw [← Ny229.out] at ho68 | (simp only [Int.reduceToNat] at ho68; rw [← Ny229.out] at ho68)); have n0_ := Aside0.mk (Kd.V_elder' (by (with_reducible repeat (first | apply Kd.V_alloc | apply Kd.V_drewN | apply Kd.V_drew)); exact HO_0.out) (Kd.N_base ho68) hb); have n1_ := Aside0.mk (Kd.V_elder' (by (with_reducible repeat (first | apply Kd.V_alloc | apply Kd.V_drewN | apply Kd.V_drew)); exact HO_218002.out) (Kd.N_base ho68) hb); have n2_ := Aside0.mk (Kd.N_lower ho68 (below_size (by repeat (first | (with_reducible first | exact HB.out | apply below_alloc | apply pw_below_drewN | apply below_drew1 | refine below_set ?_ GE217.out) | exact HB.out)))); have n3_ := Aside0.mk (blk_below (g := gb217) (o := .cells #[.string a1_0, .int .i64 a1_1, .slice A1_2 l1_2.length c1_2, .int .i64 a1_3, .int .i64 a1_4, .int .i64 a1_5] 27 (0, 0)) (by (with_reducible repeat (first | refine blk_drewN ?_ _ | refine blk_drew ?_ | refine blk_alloc ?_ _)); exact BK217.out) hb); have n4_ := Aside0.mk (below_step (by repeat (first | (with_reducible first | exact HB.out | apply below_alloc | apply pw_below_drewN | apply below_drew1 | refine below_set ?_ GE217.out) | exact HB.out)) hb); clear HO_0; clear HO_218002; clear BK217; clear HB; have HO_0 := n0_; have HO_218002 := n1_; have HO231 := n2_; have BK217 := n3_; have HB := n4_; clear n0_ n1_ n2_ n3_ n4_; clear hb ho68) | ((with_reducible refine gate_builtin (b := .append) (xs := #[.tmp 47, .tmp 48]) rfl ?_); (try (refine gate_guard (by rfl) ?_; dsimp only)); at_builtin; refine Kd.N_append_rows k27 (w0 := w) w.heap.size rfl (.tmp 47) (.tmp 48) 22 27 (.agg #[(.string ⟨#[]⟩), (.int .i64 0), (.slice none 0 0), (.int .i64 0), (.int .i64 0), (.int .i64 0)]) 72 rfl Try.underlying22 info27 rfl (by decide) (by omega) v230 y229 l0 _ _ _ (fun k_ => ((P0_ k_ ∨ P1_2_ k_) ∨ w.heap.size ≤ k_) ∧ k_ ≠ gb217) (fun k_ => ((fun k_ => ((P0_ k_ ∨ P1_2_ k_) ∨ w.heap.size ≤ k_) ∧ k_ ≠ gb217)) k_ ∧ some k_ ≠ (v230 : Value).ownBlock) rfl rfl ?aO ?aR (fun _ hk => hk) ?aF ?aB ?aS ?aL ?_; (case aR => exact (by skip; exact Kd.V_F (Kd.V_mono (ok' := (fun k_ => ((fun k_ => ((P0_ k_ ∨ P1_2_ k_) ∨ w.heap.size ≤ k_) ∧ k_ ≠ gb217)) k_ ∧ some k_ ≠ (v230 : Value).ownBlock)) (HO_0.out) (fun k_ hk => ⟨⟨hk.1.1, hk.1.2⟩, hk.2⟩)))); (case aB => exact (by repeat (first | (with_reducible first | exact HB.out | apply below_alloc | apply pw_below_drewN | apply below_drew1 | refine below_set ?_ GE217.out) | exact HB.out))); (case aF => exact (fun k_ hk => ⟨(.inr (Nat.le_trans (below_size (by repeat (first | (with_reducible first | exact HB.out | apply below_alloc | apply pw_below_drewN | apply below_drew1 | refine below_set ?_ GE217.out) | exact HB.out))) hk)), Kd.freshB (g := gb217) (o := .cells #[.string a1_0, .int .i64 a1_1, .slice A1_2 l1_2.length c1_2, .int .i64 a1_3, .int .i64 a1_4, .int .i64 a1_5] 27 (0, 0)) (by (with_reducible repeat (first | refine blk_drewN ?_ _ | refine blk_drew ?_ | refine blk_alloc ?_ _)); exact BK217.out) k_ hk⟩)); (case aO => exact (by (with_reducible repeat (first | apply Kd.N_alloc | apply Kd.N_drewN | apply Kd.N_drew)); exact HO231.out)); (case aS => exact (below_size (by repeat (first | (with_reducible first | exact HB.out | apply below_alloc | apply pw_below_drewN | apply below_drew1 | refine below_set ?_ GE217.out) | exact HB.out)))); (case aL => have := LMc37.out; omega); intro v233 w69 ho hb hg hat; rw [← Ny232.out] at ho; have n0_ := Aside0.mk (Kd.V_afterv (ok := (fun k_ => ((P0_ k_ ∨ P1_2_ k_) ∨ w.heap.size ≤ k_) ∧ k_ ≠ gb217)) (by (with_reducible repeat (first | apply Kd.V_alloc | apply Kd.V_drewN | apply Kd.V_drew)); exact HO_0.out) hg hat); have n1_ := Aside0.mk (Kd.V_afterv (ok := (fun k_ => ((P0_ k_ ∨ P1_2_ k_) ∨ w.heap.size ≤ k_) ∧ k_ ≠ gb217)) (by (with_reducible repeat (first | apply Kd.V_alloc | apply Kd.V_drewN | apply Kd.V_drew)); exact HO_218002.out) hg hat); have n2_ := Aside0.mk (blk_grown (g := gb217) (o := .cells #[.string a1_0, .int .i64 a1_1, .slice A1_2 l1_2.length c1_2, .int .i64 a1_3, .int .i64 a1_4, .int .i64 a1_5] 27 (0, 0)) (by (with_reducible repeat (first | refine blk_drewN ?_ _ | refine blk_drew ?_ | refine blk_alloc ?_ _)); exact BK217.out) hg (Kd.N_away HO231.out (fun _ hk => hk.2))); have n3_ := Aside0.mk (hb); have n4_ := Aside0.mk (ho); clear HO_0; clear HO_218002; clear BK217; clear HB; clear HO231; have HO_0 := n0_; have HO_218002 := n1_; have BK217 := n2_; have HB := n3_; have HO234 := n4_; clear n0_ n1_ n2_ n3_ n4_; clear ho hb hg hat; have hcz70_0 : w69.cell? ⟨gb217, 0, none⟩ = some (.string a1_0) := (blk_cell BK217.out 0).trans rfl; have hcz70_1 : w69.cell? ⟨gb217, 1, none⟩ = some (.int .i64 a1_1) := (blk_cell BK217.out 1).trans rfl; have hcz70_2 : w69.cell? ⟨gb217, 2, none⟩ = some (.slice A1_2 l1_2.length c1_2) := (blk_cell BK217.out 2).trans rfl; have hcz70_3 : w69.cell? ⟨gb217, 3, none⟩ = some (.int .i64 a1_3) := (blk_cell BK217.out 3).trans rfl; have hcz70_4 : w69.cell? ⟨gb217, 4, none⟩ = some (.int .i64 a1_4) := (blk_cell BK217.out 4).trans rfl; have hcz70_5 : w69.cell? ⟨gb217, 5, none⟩ = some (.int .i64 a1_5) := (blk_cell BK217.out 5).trans rfl; have hfz70_0 := blk_frozen BK217.out 0; have hfz70_1 := blk_frozen BK217.out 1; have hfz70_2 := blk_frozen BK217.out 2; have hfz70_3 := blk_frozen BK217.out 3; have hfz70_4 := blk_frozen BK217.out 4; have hfz70_5 := blk_frozen BK217.out 5) | ((with_reducible refine gate_builtin (b := .append) (xs := #[.tmp 50, .tmp 52]) rfl ?_); (try (refine gate_guard (by rfl) ?_; dsimp only)); at_builtin; refine Kd.N_append k27 (w0 := w) w.heap.size rfl (.tmp 50) (.tmp 52) 22 27 (.agg #[(.string ⟨#[]⟩), (.int .i64 0), (.slice none 0 0), (.int .i64 0), (.int .i64 0), (.int .i64 0)]) 72 rfl Try.underlying22 info27 rfl (by decide) (by omega) v233 y232 (⟨a1_0, a1_1, l1_2, a1_3, a1_4, a1_5⟩ : S27) [.string a1_0, .int .i64 a1_1, .slice A1_2 l1_2.length c1_2, .int .i64 a1_3, .int .i64 a1_4, .int .i64 a1_5] (fun k_ => ((P0_ k_ ∨ P1_2_ k_) ∨ w.heap.size ≤ k_) ∧ k_ ≠ gb217) (fun k_ => ((fun k_ => ((P0_ k_ ∨ P1_2_ k_) ∨ w.heap.size ≤ k_) ∧ k_ ≠ gb217)) k_ ∧ some k_ ≠ (v233 : Value).ownBlock) rfl rfl ?aP (fun _ hk => hk) ?aF ?aO ?aB ?aS ?aL ?_; (case aP => exact (k27_mkF _ _ (⟨a1_0, a1_1, l1_2, a1_3, a1_4, a1_5⟩ : S27) (Kd.V_reads' (Kd.V_mono (ok' := (fun k_ => ((fun k_ => ((P0_ k_ ∨ P1_2_ k_) ∨ w.heap.size ≤ k_) ∧ k_ ≠ gb217)) k_ ∧ some k_ ≠ (v233 : Value).ownBlock)) (HO_218002.out) (fun k_ hk => ⟨⟨hk.1.1, hk.1.2⟩, hk.2⟩))).2.1 (Kd.V_F (Kd.V_mono (ok' := (fun k_ => ((fun k_ => ((P0_ k_ ∨ P1_2_ k_) ∨ w.heap.size ≤ k_) ∧ k_ ≠ gb217)) k_ ∧ some k_ ≠ (v233 : Value).ownBlock)) (HO_218002.out) (fun k_ hk => ⟨⟨hk.1.1, hk.1.2⟩, hk.2⟩))))); (case aB => exact (by repeat (first | (with_reducible first | exact HB.out | apply below_alloc | apply pw_below_drewN | apply below_drew1 | refine below_set ?_ GE217.out) | exact HB.out))); (case aF => exact (fun k_ hk => ⟨(.inr (Nat.le_trans (below_size (by repeat (first | (with_reducible first | exact HB.out | apply below_alloc | apply pw_below_drewN | apply below_drew1 | refine below_set ?_ GE217.out) | exact HB.out))) hk)), Kd.freshB (g := gb217) (o := .cells #[.string a1_0, .int .i64 a1_1, .slice A1_2 l1_2.length c1_2, .int .i64 a1_3, .int .i64 a1_4, .int .i64 a1_5] 27 (0, 0)) (by (with_reducible repeat (first | refine blk_drewN ?_ _ | refine blk_drew ?_ | refine blk_alloc ?_ _)); exact BK217.out) k_ hk⟩)); (case aO => exact (by (with_reducible repeat (first | apply Kd.N_alloc | apply Kd.N_drewN | apply Kd.N_drew)); exact HO234.out)); (case aS => exact (below_size (by repeat (first | (with_reducible first | exact HB.out | apply below_alloc | apply pw_below_drewN | apply below_drew1 | refine below_set ?_ GE217.out) | exact HB.out)))); (case aL => have := LMc38.out; omega); intro v236 w71 ho hb hg hat; rw [← Ny235.out] at ho; have n0_ := Aside0.mk (Kd.V_afterv (ok := (fun k_ => ((P0_ k_ ∨ P1_2_ k_) ∨ w.heap.size ≤ k_) ∧ k_ ≠ gb217)) (by (with_reducible repeat (first | apply Kd.V_alloc | apply Kd.V_drewN | apply Kd.V_drew)); exact HO_0.out) hg hat); have n1_ := Aside0.mk (Kd.V_afterv (ok := (fun k_ => ((P0_ k_ ∨ P1_2_ k_) ∨ w.heap.size ≤ k_) ∧ k_ ≠ gb217)) (by (with_reducible repeat (first | apply Kd.V_alloc | apply Kd.V_drewN | apply Kd.V_drew)); exact HO_218002.out) hg hat); have n2_ := Aside0.mk (blk_grown (g := gb217) (o := .cells #[.string a1_0, .int .i64 a1_1, .slice A1_2 l1_2.length c1_2, .int .i64 a1_3, .int .i64 a1_4, .int .i64 a1_5] 27 (0, 0)) (by (with_reducible repeat (first | refine blk_drewN ?_ _ | refine blk_drew ?_ | refine blk_alloc ?_ _)); exact BK217.out) hg (Kd.N_away HO234.out (fun _ hk => hk.2))); have n3_ := Aside0.mk (hb); have n4_ := Aside0.mk (ho); clear HO_0; clear HO_218002; clear BK217; clear HB; clear HO234; have HO_0 := n0_; have HO_218002 := n1_; have BK217 := n2_; have HB := n3_; have HO237 := n4_; clear n0_ n1_ n2_ n3_ n4_; clear ho hb hg hat; obtain ⟨Ao72, co72, eo72⟩ := Kd.N_slice HO237.out; subst eo72) | ((with_reducible refine gate_callee (f := 18) rfl ?_); refine goesL_ (some 56) rfl rfl Try.func18 (by kernel_rfl) rfl #[.slice Ao72 y235.length co72, .int .i64 (wrap64 (1 + (Int.tmod (wrap64 (a2)) 3))), .int .i64 0] rfl (by (try simp only [List.map_toArray, List.map_cons, List.map_nil]); first | done | rfl | (simp only [List.length_drop, List.length_take]; rfl)) ?_; (with_reducible refine (expand_Choose.calls kj29 _ _ y235 (wrap64 (1 + (Int.tmod (wrap64 (a2)) 3))) 0 t238 _ ?side1 ?side2 A39.out).mono ?_); (case side1 => repeat (first | exact (Kd.N_reads' HO237.out).2.2 | (with_reducible refine Kd.C_alloc ?_ _) | (with_reducible refine Kd.C_drewN ?_ _) | (with_reducible refine Kd.C_drew ?_))); (case side2 => exact (Kd.N_reads' HO237.out).2.1); rintro e w73 ⟨rfl, hb⟩; refine ⟨_, rfl, ?_⟩; have n0_ := Aside0.mk (Kd.V_below (by (with_reducible repeat (first | apply Kd.V_alloc | apply Kd.V_drewN | apply Kd.V_drew)); exact HO_0.out) hb); have n1_ := Aside0.mk (Kd.V_below (by (with_reducible repeat (first | apply Kd.V_alloc | apply Kd.V_drewN | apply Kd.V_drew)); exact HO_218002.out) hb); have n2_ := Aside0.mk (Kd.N_below (by (with_reducible repeat (first | apply Kd.N_alloc | apply Kd.N_drewN | apply Kd.N_drew)); exact HO237.out) hb); have n3_ := Aside0.mk (blk_below (g := gb217) (o := .cells #[.string a1_0, .int .i64 a1_1, .slice A1_2 l1_2.length c1_2, .int .i64 a1_3, .int .i64 a1_4, .int .i64 a1_5] 27 (0, 0)) (by (with_reducible repeat (first | refine blk_drewN ?_ _ | refine blk_drew ?_ | refine blk_alloc ?_ _)); exact BK217.out) hb); have n4_ := Aside0.mk (below_step (by repeat (first | (with_reducible first | exact HB.out | apply below_alloc | apply pw_below_drewN | apply below_drew1 | refine below_set ?_ GE217.out) | exact HB.out)) hb); clear HO_0; clear HO_218002; clear HO237; clear BK217; clear HB; have HO_0 := n0_; have HO_218002 := n1_; have HO237 := n2_; have BK217 := n3_; have HB := n4_; clear n0_ n1_ n2_ n3_ n4_; (try clear hb); (try clear hb2); (try clear hk); (try clear hi)))
                            have n0_ := Aside0.mk (Kd.V_drew HO_0.out)
                            have n1_ := Aside0.mk (Kd.V_drew HO_218002.out)
                            have n2_ := Aside0.mk (Kd.N_drew HO237.out)
                            have n3_ := Aside0.mk (blk_drew BK217.out)
                            have n4_ := Aside0.mk (below_drew1 HB.out)
                            clear HO_0
                            clear HO_218002
                            clear HO237
                            clear BK217
                            clear HB
                            have HO_0 := n0_
                            have HO_218002 := n1_
                            have HO237 := n2_
                            have BK217 := n3_
                            have HB := n4_
                            clear n0_ n1_ n2_ n3_ n4_
                            have p239 : 0 ≤ (t227 : Int) := of_decide_eq_true (by first | (with_reducible assumption) | assumption)
                            have q239 : t227 < (l0.length : Int) := of_decide_eq_true (by first | (with_reducible assumption) | assumption)
                            obtain ⟨ad239, A239_2, c239_2, e239, hx239_0, hx239_1, hx239_2, hx239_3, hx239_4, hx239_5, hl239_2, hi239_2⟩ := at_T27 (Kd.V_reads' HO_0.out).2.2 t227 p239 q239
                            cases e239
                            obtain ⟨ce239, hce239, hMe239, hcc239⟩ := Kd.V_get HO_0.out z27 t227 p239 (by first | exact q239 | exact of_decide_eq_true (by first | (with_reducible assumption) | assumption) | (have e_ := (Kd.V_reads' HO_0.out).1; omega))
                            obtain ⟨ua239_2, uc239_2, rfl, ul239_2, ge239_2⟩ := k27_openF hMe239
                            have hv239_2 := hcc239 2 _ rfl
                            rw [add_field _ _ 2 (by omega)] at hv239_2
                            replace hv239_2 := Option.some.inj (hv239_2.symm.trans hx239_2)
                            injection hv239_2 with hva_ hvn_ hvc_
                            rw [hva_] at ge239_2
                            rw [hvc_] at ul239_2
                            have HL239_2 := Aside0.mk (show Kd.V Kd.string 9 _ w.heap.size _ _ ((rd_T27 l0 t227).f2) from Kd.V_mk ul239_2 ge239_2)
                            clear hva_ hvn_ hvc_ ge239_2 ul239_2
                            clear hcc239 hce239
                            have HR239_2 := Aside0.mk hi239_2
                            have HC239_2 := Aside0.mk hl239_2
                            clear hi239_2 hl239_2
                            replace p239 := eq_true p239
                            replace q239 := eq_true q239
                            refine start_ (n := 7) (S := fun w' => w'.cell? ⟨gb217, 0, none⟩ = some (.string a1_0) ∧ w'.cell? ⟨gb217, 1, none⟩ = some (.int .i64 a1_1) ∧ w'.cell? ⟨gb217, 2, none⟩ = some (.slice A1_2 l1_2.length c1_2) ∧ w'.cell? ⟨gb217, 3, none⟩ = some (.int .i64 a1_3) ∧ w'.cell? ⟨gb217, 4, none⟩ = some (.int .i64 a1_4) ∧ w'.cell? ⟨gb217, 5, none⟩ = some (.int .i64 a1_5) ∧ w'.cell? (ad239.add ((t227).toNat * 6)) = some (.string ((rd_T27 l0 t227).f0)) ∧ w'.cell? ⟨(ad239.add ((t227).toNat * 6)).block, (ad239.add ((t227).toNat * 6)).off + 1, none⟩ = some (.int .i64 ((rd_T27 l0 t227).f1)) ∧ w'.cell? ⟨(ad239.add ((t227).toNat * 6)).block, (ad239.add ((t227).toNat * 6)).off + 2, none⟩ = some (.slice A239_2 ((rd_T27 l0 t227).f2).length c239_2) ∧ w'.cell? ⟨(ad239.add ((t227).toNat * 6)).block, (ad239.add ((t227).toNat * 6)).off + 3, none⟩ = some (.int .i64 ((rd_T27 l0 t227).f3)) ∧ w'.cell? ⟨(ad239.add ((t227).toNat * 6)).block, (ad239.add ((t227).toNat * 6)).off + 4, none⟩ = some (.int .i64 ((rd_T27 l0 t227).f4)) ∧ w'.cell? ⟨(ad239.add ((t227).toNat * 6)).block, (ad239.add ((t227).toNat * 6)).off + 5, none⟩ = some (.int .i64 ((rd_T27 l0 t227).f5))) (ds := []) #[false, false, false, false, false, false, false] (by kernel_rfl) rfl rfl ⟨(blk_cell BK217.out 0).trans rfl, (blk_cell BK217.out 1).trans rfl, (blk_cell BK217.out 2).trans rfl, (blk_cell BK217.out 3).trans rfl, (blk_cell BK217.out 4).trans rfl, (blk_cell BK217.out 5).trans rfl, hx239_0, hx239_1, hx239_2, hx239_3, hx239_4, hx239_5⟩ (fun hHeld => ?_)
                            generalize w73.drew = w74 at HO_0 HO_218002 HO237 BK217 HB HL239_2 HR239_2 hx239_0 hx239_1 hx239_2 hx239_3 hx239_4 hx239_5 hHeld ⊢
                            refine pure_ (i := 1) (N := some 58) (v := ?_) (a' := ?_) #[false, true, false, false, false, false, false] rfl rfl (by kernel_rfl) (fun _ _ _ h => h) (Or.inl ⟨by rfl, ?_⟩) ?_ ?_
                            rotate_left
                            · intro w'
                              go_simp
                              with_reducible rfl
                            rotate_left
                            · simp only [Act.put, List.setIfInBounds_toArray, List.set_cons_zero, List.set_cons_succ, i64_w, i32_w]
                              rfl
                            refine pure_ (i := 2) (N := some 59) (v := ?_) (a' := ?_) #[false, true, true, false, false, false, false] rfl rfl (by kernel_rfl) (fun _ _ _ h => h) (Or.inl ⟨by rfl, ?_⟩) ?_ ?_
                            rotate_left
                            · intro w'
                              go_simp
                              with_reducible rfl
                            rotate_left
                            · simp only [Act.put, List.setIfInBounds_toArray, List.set_cons_zero, List.set_cons_succ, i64_w, i32_w]
                              rfl
                            refine pure_ (i := 3) (N := some 60) (v := ?_) (a' := ?_) #[false, true, true, true, false, false, false] rfl rfl (by kernel_rfl) (fun _ _ _ h => h) (Or.inl ⟨by rfl, ?_⟩) ?_ ?_
                            rotate_left
                            · intro w'
                              go_simp
                              with_reducible rfl
                            rotate_left
                            · simp only [Act.put, List.setIfInBounds_toArray, List.set_cons_zero, List.set_cons_succ, i64_w, i32_w]
                              rfl
                            refine pure_ (i := 5) (N := some 62) (v := ?_) (a' := ?_) #[false, true, true, true, false, true, false] rfl rfl (by kernel_rfl) (fun _ _ _ h => h) (Or.inl ⟨by rfl, ?_⟩) ?_ ?_
                            rotate_left
                            · intro w'
                              go_simp
                              with_reducible rfl
                            rotate_left
                            · simp only [Act.put, List.setIfInBounds_toArray, List.set_cons_zero, List.set_cons_succ, i64_w, i32_w]
                              rfl
                            refine take_ (i := 0) (N := some 57) (v := ?_) (a' := ?_) #[true, true, true, true, false, true, false] rfl rfl (by kernel_rfl) (fun _ _ _ h => h) (Or.inl ⟨by rfl, ?_⟩) hHeld ?_ ?_
                            rotate_left
                            · rintro w' ⟨s0, s1, s2, s3, s4, s5, s6, s7, s8, s9, s10, s11⟩
                              go_simp
                              with_reducible rfl
                            rotate_left
                            · simp only [Act.put, List.setIfInBounds_toArray, List.set_cons_zero, List.set_cons_succ, i64_w, i32_w]
                              rfl
                            refine take_ (i := 4) (N := some 61) (v := ?_) (a' := ?_) #[true, true, true, true, true, true, false] rfl rfl (by kernel_rfl) (fun _ _ _ h => h) (Or.inl ⟨by rfl, ?_⟩) hHeld ?_ ?_
                            rotate_left
                            · rintro w' ⟨s0, s1, s2, s3, s4, s5, s6, s7, s8, s9, s10, s11⟩
                              go_simp
                              with_reducible rfl
                            rotate_left
                            · simp only [Act.put, List.setIfInBounds_toArray, List.set_cons_zero, List.set_cons_succ, i64_w, i32_w]
                              rfl
                            refine one_ (i := 6) (N := some 63) #[true, true, true, true, true, true, true] rfl rfl (by kernel_rfl) (by decide) (fun K hK => ?_)
                            refine goes_ Try.func16 (by kernel_rfl) rfl #[.agg #[.string a1_0, .int .i64 a1_1, .slice A1_2 l1_2.length c1_2, .int .i64 a1_3, .int .i64 a1_4, .int .i64 a1_5], .agg #[.string ((rd_T27 l0 t227).f0), .int .i64 ((rd_T27 l0 t227).f1), .slice A239_2 ((rd_T27 l0 t227).f2).length c239_2, .int .i64 ((rd_T27 l0 t227).f3), .int .i64 ((rd_T27 l0 t227).f4), .int .i64 ((rd_T27 l0 t227).f5)], .int .i64 (wrap64 (1 + (Int.tmod (wrap64 (a2)) 3)))] (by rfl) rfl rfl (by (try simp only [List.map_toArray, List.map_cons, List.map_nil]); first | done | rfl | (simp only [List.length_drop, List.length_take]; rfl)) ?_
                            with_reducible refine (expand_Better.calls kj29 a1_0 a1_1 _ _ l1_2 a1_3 a1_4 a1_5 ((rd_T27 l0 t227).f0) ((rd_T27 l0 t227).f1) _ _ ((rd_T27 l0 t227).f2) ((rd_T27 l0 t227).f3) ((rd_T27 l0 t227).f4) ((rd_T27 l0 t227).f5) (wrap64 (1 + (Int.tmod (wrap64 (a2)) 3))) false _ ?side1 ?side2 ?side3 ?side4 A42.out).mono ?_
                            (case side1 => repeat (first | exact (Kd.V_reads' HO_218002.out).2.2 | (with_reducible refine Kd.C_alloc ?_ _) | (with_reducible refine Kd.C_drewN ?_ _) | (with_reducible refine Kd.C_drew ?_)))
                            (case side2 => exact (Kd.V_reads' HO_218002.out).2.1)
                            (case side3 => repeat (first | exact (by repeat (first | (with_reducible exact HR239_2.out) | (with_reducible refine Kd.C_alloc ?_ _) | (with_reducible refine Kd.C_drewN ?_ _) | (with_reducible refine Kd.C_drew ?_) | exact HR239_2.out)) | (with_reducible refine Kd.C_alloc ?_ _) | (with_reducible refine Kd.C_drewN ?_ _) | (with_reducible refine Kd.C_drew ?_)))
                            (case side4 => exact HC239_2.out)
                            rintro e w75 ⟨rfl, hb⟩
                            have HS6_ := (hb.cell (World.block_lt_of_cell? _ _ (hHeld.2.2.2.2.2.2.1))).trans (hHeld.2.2.2.2.2.2.1)
                            have HS7_ := (hb.cell (World.block_lt_of_cell? _ _ (hHeld.2.2.2.2.2.2.2.1))).trans (hHeld.2.2.2.2.2.2.2.1)
                            have HS8_ := (hb.cell (World.block_lt_of_cell? _ _ (hHeld.2.2.2.2.2.2.2.2.1))).trans (hHeld.2.2.2.2.2.2.2.2.1)
                            have HS9_ := (hb.cell (World.block_lt_of_cell? _ _ (hHeld.2.2.2.2.2.2.2.2.2.1))).trans (hHeld.2.2.2.2.2.2.2.2.2.1)
                            have HS10_ := (hb.cell (World.block_lt_of_cell? _ _ (hHeld.2.2.2.2.2.2.2.2.2.2.1))).trans (hHeld.2.2.2.2.2.2.2.2.2.2.1)
                            have HS11_ := (hb.cell (World.block_lt_of_cell? _ _ (hHeld.2.2.2.2.2.2.2.2.2.2.2))).trans (hHeld.2.2.2.2.2.2.2.2.2.2.2)
                            refine ⟨_, rfl, ?_⟩
                            have n0_ := Aside0.mk (Kd.V_below (by (with_reducible repeat (first | apply Kd.V_alloc | apply Kd.V_drewN | apply Kd.V_drew)); exact HO_0.out) hb)
                            have n1_ := Aside0.mk (Kd.V_below (by (with_reducible repeat (first | apply Kd.V_alloc | apply Kd.V_drewN | apply Kd.V_drew)); exact HO_218002.out) hb)
                            have n2_ := Aside0.mk (Kd.N_below (by (with_reducible repeat (first | apply Kd.N_alloc | apply Kd.N_drewN | apply Kd.N_drew)); exact HO237.out) hb)
                            have n3_ := Aside0.mk (Kd.V_below (by (with_reducible repeat (first | apply Kd.V_alloc | apply Kd.V_drewN | apply Kd.V_drew)); exact HL239_2.out) hb)
                            have n4_ := Aside0.mk (blk_below (g := gb217) (o := .cells #[.string a1_0, .int .i64 a1_1, .slice A1_2 l1_2.length c1_2, .int .i64 a1_3, .int .i64 a1_4, .int .i64 a1_5] 27 (0, 0)) (by (with_reducible repeat (first | refine blk_drewN ?_ _ | refine blk_drew ?_ | refine blk_alloc ?_ _)); exact BK217.out) hb)
                            have n5_ := Aside0.mk (Kd.C_below (by repeat (first | (with_reducible exact HR239_2.out) | (with_reducible refine Kd.C_alloc ?_ _) | (with_reducible refine Kd.C_drewN ?_ _) | (with_reducible refine Kd.C_drew ?_) | exact HR239_2.out)) hb)
                            have n6_ := Aside0.mk (below_step (by repeat (first | (with_reducible first | exact HB.out | apply below_alloc | apply pw_below_drewN | apply below_drew1 | refine below_set ?_ GE217.out) | exact HB.out)) hb)
                            clear HO_0
                            clear HO_218002
                            clear HO237
                            clear HL239_2
                            clear BK217
                            clear HR239_2
                            clear HB
                            have HO_0 := n0_
                            have HO_218002 := n1_
                            have HO237 := n2_
                            have HL239_2 := n3_
                            have BK217 := n4_
                            have HR239_2 := n5_
                            have HB := n6_
                            clear n0_ n1_ n2_ n3_ n4_ n5_ n6_
                            (try clear hb)
                            (try clear hb2)
                            (try clear hk)
                            (try clear hi)
                            refine hK.out _ _ ⟨(blk_cell BK217.out 0).trans rfl, (blk_cell BK217.out 1).trans rfl, (blk_cell BK217.out 2).trans rfl, (blk_cell BK217.out 3).trans rfl, (blk_cell BK217.out 4).trans rfl, (blk_cell BK217.out 5).trans rfl, HS6_, HS7_, HS8_, HS9_, HS10_, HS11_⟩ (fun hHeld => ?_)
                            clear hK K
                            refine norm_ (a' := ?_) ?_ ?_
                            rotate_left
                            · show Act.put _ (some 63) _ = _
                              simp only [Act.put, List.setIfInBounds_toArray, List.set_cons_zero, List.set_cons_succ, i64_w, i32_w]
                              rfl
                            refine done_ (by kernel_rfl) ?_
                            try go_wp2_with (first | (go_at_call 15; (with_reducible refine (triremelaw21_known.calls kj29  t242 _ A66.out).mono ?_); rintro e w76 ⟨rfl, hb⟩; have n0_ := Aside0.mk (Kd.V_below (by (with_reducible repeat (first | apply Kd.V_alloc | apply Kd.V_drewN | apply Kd.V_drew)); exact HO_0.out) hb); have n1_ := Aside0.mk (Kd.V_below (by (with_reducible repeat (first | apply Kd.V_alloc | apply Kd.V_drewN | apply Kd.V_drew)); exact HO_218002.out) hb); have n2_ := Aside0.mk (Kd.N_below (by (with_reducible repeat (first | apply Kd.N_alloc | apply Kd.N_drewN | apply Kd.N_drew)); exact HO237.out) hb); have n3_ := Aside0.mk (Kd.V_below (by (with_reducible repeat (first | apply Kd.V_alloc | apply Kd.V_drewN | apply Kd.V_drew)); exact HL239_2.out) hb); have n4_ := Aside0.mk (blk_below (g := gb217) (o := .cells #[.string a1_0, .int .i64 a1_1, .slice A1_2 l1_2.length c1_2, .int .i64 a1_3, .int .i64 a1_4, .int .i64 a1_5] 27 (0, 0)) (by (with_reducible repeat (first | refine blk_drewN ?_ _ | refine blk_drew ?_ | refine blk_alloc ?_ _)); exact BK217.out) hb); have n5_ := Aside0.mk (Kd.C_below (by repeat (first | (with_reducible exact HR239_2.out) | (with_reducible refine Kd.C_alloc ?_ _) | (with_reducible refine Kd.C_drewN ?_ _) | (with_reducible refine Kd.C_drew ?_) | exact HR239_2.out)) hb); have n6_ := Aside0.mk (below_step (by repeat (first | (with_reducible first | exact HB.out | apply below_alloc | apply pw_below_drewN | apply below_drew1 | refine below_set ?_ GE217.out) | exact HB.out)) hb); clear HO_0; clear HO_218002; clear HO237; clear HL239_2; clear BK217; clear HR239_2; clear HB; have HO_0 := n0_; have HO_218002 := n1_; have HO237 := n2_; have HL239_2 := n3_; have BK217 := n4_; have HR239_2 := n5_; have HB := n6_; clear n0_ n1_ n2_ n3_ n4_ n5_ n6_; (try clear hb); (try clear hb2); (try clear hk); (try clear hi)))
                            go_ret
                            exact ⟨by first | rfl | (simp [errW_none, errW_some] <;> rfl) | (simp [*, errW_none, errW_some] <;> rfl), by repeat (first | (with_reducible first | exact HB.out | apply below_alloc | apply pw_below_drewN | apply below_drew1 | refine below_set ?_ GE217.out) | exact HB.out)⟩
                          · rw [if_neg c65] at H
                            have c65b0 : (t238 == t227) = false := beq_eq_false_iff_ne.mpr c65
                            have c65b1 : (t238 != t227) = true := bne_iff_ne.mpr c65
                            obtain rfl := Option.some.inj H
                            try go_wp2_with (first | ((with_reducible refine gate_dst (N := 47) rfl ?_); (try (refine gate_guard (by rfl) ?_; dsimp only)); refine Kd.N_lit k27 _ 27 ?hg (N' := 47) ?hd (xs := ([] : List (S27))) (inner := []) (ok := (fun k_ => ((P0_ k_ ∨ P1_2_ k_) ∨ w.heap.size ≤ k_) ∧ k_ ≠ gb217)) (okp := (fun k_ => ((P0_ k_ ∨ P1_2_ k_) ∨ w.heap.size ≤ k_) ∧ k_ ≠ gb217)) ?hr ?hp (fun _ hk => hk) ((show ∀ k_, wc.heap.size ≤ k_ → (fun k_ => ((P0_ k_ ∨ P1_2_ k_) ∨ w.heap.size ≤ k_) ∧ k_ ≠ gb217) k_ from fun k_ hk => ⟨(.inr (Nat.le_trans (below_size (by repeat (first | (with_reducible first | exact HB.out | apply below_alloc | apply pw_below_drewN | apply below_drew1 | refine below_set ?_ GE217.out) | exact HB.out))) hk)), Kd.freshB (g := gb217) (o := .cells #[.string a1_0, .int .i64 a1_1, .slice A1_2 l1_2.length c1_2, .int .i64 a1_3, .int .i64 a1_4, .int .i64 a1_5] 27 (0, 0)) (by (with_reducible repeat (first | refine blk_drewN ?_ _ | refine blk_drew ?_ | refine blk_alloc ?_ _)); exact BK217.out) k_ hk⟩) _ (Nat.le_refl _)) (Below.refl _ _) (Nat.le_refl _) (by simp) ?_; (case hd => rfl); (case hg => rfl); (case hr => first | (go_simp; done) | (go_simp; rfl)); (case hp => exact (Reps.none _ _)); intro v230 w77 ho78 hb hg_ hnew_; clear hg_ hnew_; (first | rw [← Ny229.out] at ho78 | (simp only [Int.reduceToNat] at ho78; rw [← Ny229.out] at ho78)); have n0_ := Aside0.mk (Kd.V_elder' (by (with_reducible repeat (first | apply Kd.V_alloc | apply Kd.V_drewN | apply Kd.V_drew)); exact HO_0.out) (Kd.N_base ho78) hb); have n1_ := Aside0.mk (Kd.V_elder' (by (with_reducible repeat (first | apply Kd.V_alloc | apply Kd.V_drewN | apply Kd.V_drew)); exact HO_218002.out) (Kd.N_base ho78) hb); have n2_ := Aside0.mk (Kd.N_lower ho78 (below_size (by repeat (first | (with_reducible first | exact HB.out | apply below_alloc | apply pw_below_drewN | apply below_drew1 | refine below_set ?_ GE217.out) | exact HB.out)))); have n3_ := Aside0.mk (blk_below (g := gb217) (o := .cells #[.string a1_0, .int .i64 a1_1, .slice A1_2 l1_2.length c1_2, .int .i64 a1_3, .int .i64 a1_4, .int .i64 a1_5] 27 (0, 0)) (by (with_reducible repeat (first | refine blk_drewN ?_ _ | refine blk_drew ?_ | refine blk_alloc ?_ _)); exact BK217.out) hb); have n4_ := Aside0.mk (below_step (by repeat (first | (with_reducible first | exact HB.out | apply below_alloc | apply pw_below_drewN | apply below_drew1 | refine below_set ?_ GE217.out) | exact HB.out)) hb); clear HO_0; clear HO_218002; clear BK217; clear HB; have HO_0 := n0_; have HO_218002 := n1_; have HO231 := n2_; have BK217 := n3_; have HB := n4_; clear n0_ n1_ n2_ n3_ n4_; clear hb ho78) | ((with_reducible refine gate_builtin (b := .append) (xs := #[.tmp 47, .tmp 48]) rfl ?_); (try (refine gate_guard (by rfl) ?_; dsimp only)); at_builtin; refine Kd.N_append_rows k27 (w0 := w) w.heap.size rfl (.tmp 47) (.tmp 48) 22 27 (.agg #[(.string ⟨#[]⟩), (.int .i64 0), (.slice none 0 0), (.int .i64 0), (.int .i64 0), (.int .i64 0)]) 72 rfl Try.underlying22 info27 rfl (by decide) (by omega) v230 y229 l0 _ _ _ (fun k_ => ((P0_ k_ ∨ P1_2_ k_) ∨ w.heap.size ≤ k_) ∧ k_ ≠ gb217) (fun k_ => ((fun k_ => ((P0_ k_ ∨ P1_2_ k_) ∨ w.heap.size ≤ k_) ∧ k_ ≠ gb217)) k_ ∧ some k_ ≠ (v230 : Value).ownBlock) rfl rfl ?aO ?aR (fun _ hk => hk) ?aF ?aB ?aS ?aL ?_; (case aR => exact (by skip; exact Kd.V_F (Kd.V_mono (ok' := (fun k_ => ((fun k_ => ((P0_ k_ ∨ P1_2_ k_) ∨ w.heap.size ≤ k_) ∧ k_ ≠ gb217)) k_ ∧ some k_ ≠ (v230 : Value).ownBlock)) (HO_0.out) (fun k_ hk => ⟨⟨hk.1.1, hk.1.2⟩, hk.2⟩)))); (case aB => exact (by repeat (first | (with_reducible first | exact HB.out | apply below_alloc | apply pw_below_drewN | apply below_drew1 | refine below_set ?_ GE217.out) | exact HB.out))); (case aF => exact (fun k_ hk => ⟨(.inr (Nat.le_trans (below_size (by repeat (first | (with_reducible first | exact HB.out | apply below_alloc | apply pw_below_drewN | apply below_drew1 | refine below_set ?_ GE217.out) | exact HB.out))) hk)), Kd.freshB (g := gb217) (o := .cells #[.string a1_0, .int .i64 a1_1, .slice A1_2 l1_2.length c1_2, .int .i64 a1_3, .int .i64 a1_4, .int .i64 a1_5] 27 (0, 0)) (by (with_reducible repeat (first | refine blk_drewN ?_ _ | refine blk_drew ?_ | refine blk_alloc ?_ _)); exact BK217.out) k_ hk⟩)); (case aO => exact (by (with_reducible repeat (first | apply Kd.N_alloc | apply Kd.N_drewN | apply Kd.N_drew)); exact HO231.out)); (case aS => exact (below_size (by repeat (first | (with_reducible first | exact HB.out | apply below_alloc | apply pw_below_drewN | apply below_drew1 | refine below_set ?_ GE217.out) | exact HB.out)))); (case aL => have := LMc37.out; omega); intro v233 w79 ho hb hg hat; rw [← Ny232.out] at ho; have n0_ := Aside0.mk (Kd.V_afterv (ok := (fun k_ => ((P0_ k_ ∨ P1_2_ k_) ∨ w.heap.size ≤ k_) ∧ k_ ≠ gb217)) (by (with_reducible repeat (first | apply Kd.V_alloc | apply Kd.V_drewN | apply Kd.V_drew)); exact HO_0.out) hg hat); have n1_ := Aside0.mk (Kd.V_afterv (ok := (fun k_ => ((P0_ k_ ∨ P1_2_ k_) ∨ w.heap.size ≤ k_) ∧ k_ ≠ gb217)) (by (with_reducible repeat (first | apply Kd.V_alloc | apply Kd.V_drewN | apply Kd.V_drew)); exact HO_218002.out) hg hat); have n2_ := Aside0.mk (blk_grown (g := gb217) (o := .cells #[.string a1_0, .int .i64 a1_1, .slice A1_2 l1_2.length c1_2, .int .i64 a1_3, .int .i64 a1_4, .int .i64 a1_5] 27 (0, 0)) (by (with_reducible repeat (first | refine blk_drewN ?_ _ | refine blk_drew ?_ | refine blk_alloc ?_ _)); exact BK217.out) hg (Kd.N_away HO231.out (fun _ hk => hk.2))); have n3_ := Aside0.mk (hb); have n4_ := Aside0.mk (ho); clear HO_0; clear HO_218002; clear BK217; clear HB; clear HO231; have HO_0 := n0_; have HO_218002 := n1_; have BK217 := n2_; have HB := n3_; have HO234 := n4_; clear n0_ n1_ n2_ n3_ n4_; clear ho hb hg hat; have hcz80_0 : w79.cell? ⟨gb217, 0, none⟩ = some (.string a1_0) := (blk_cell BK217.out 0).trans rfl; have hcz80_1 : w79.cell? ⟨gb217, 1, none⟩ = some (.int .i64 a1_1) := (blk_cell BK217.out 1).trans rfl; have hcz80_2 : w79.cell? ⟨gb217, 2, none⟩ = some (.slice A1_2 l1_2.length c1_2) := (blk_cell BK217.out 2).trans rfl; have hcz80_3 : w79.cell? ⟨gb217, 3, none⟩ = some (.int .i64 a1_3) := (blk_cell BK217.out 3).trans rfl; have hcz80_4 : w79.cell? ⟨gb217, 4, none⟩ = some (.int .i64 a1_4) := (blk_cell BK217.out 4).trans rfl; have hcz80_5 : w79.cell? ⟨gb217, 5, none⟩ = some (.int .i64 a1_5) := (blk_cell BK217.out 5).trans rfl; have hfz80_0 := blk_frozen BK217.out 0; have hfz80_1 := blk_frozen BK217.out 1; have hfz80_2 := blk_frozen BK217.out 2; have hfz80_3 := blk_frozen BK217.out 3; have hfz80_4 := blk_frozen BK217.out 4; have hfz80_5 := blk_frozen BK217.out 5) | ((with_reducible refine gate_builtin (b := .append) (xs := #[.tmp 50, .tmp 52]) rfl ?_); (try (refine gate_guard (by rfl) ?_; dsimp only)); at_builtin; refine Kd.N_append k27 (w0 := w) w.heap.size rfl (.tmp 50) (.tmp 52) 22 27 (.agg #[(.string ⟨#[]⟩), (.int .i64 0), (.slice none 0 0), (.int .i64 0), (.int .i64 0), (.int .i64 0)]) 72 rfl Try.underlying22 info27 rfl (by decide) (by omega) v233 y232 (⟨a1_0, a1_1, l1_2, a1_3, a1_4, a1_5⟩ : S27) [.string a1_0, .int .i64 a1_1, .slice A1_2 l1_2.length c1_2, .int .i64 a1_3, .int .i64 a1_4, .int .i64 a1_5] (fun k_ => ((P0_ k_ ∨ P1_2_ k_) ∨ w.heap.size ≤ k_) ∧ k_ ≠ gb217) (fun k_ => ((fun k_ => ((P0_ k_ ∨ P1_2_ k_) ∨ w.heap.size ≤ k_) ∧ k_ ≠ gb217)) k_ ∧ some k_ ≠ (v233 : Value).ownBlock) rfl rfl ?aP (fun _ hk => hk) ?aF ?aO ?aB ?aS ?aL ?_; (case aP => exact (k27_mkF _ _ (⟨a1_0, a1_1, l1_2, a1_3, a1_4, a1_5⟩ : S27) (Kd.V_reads' (Kd.V_mono (ok' := (fun k_ => ((fun k_ => ((P0_ k_ ∨ P1_2_ k_) ∨ w.heap.size ≤ k_) ∧ k_ ≠ gb217)) k_ ∧ some k_ ≠ (v233 : Value).ownBlock)) (HO_218002.out) (fun k_ hk => ⟨⟨hk.1.1, hk.1.2⟩, hk.2⟩))).2.1 (Kd.V_F (Kd.V_mono (ok' := (fun k_ => ((fun k_ => ((P0_ k_ ∨ P1_2_ k_) ∨ w.heap.size ≤ k_) ∧ k_ ≠ gb217)) k_ ∧ some k_ ≠ (v233 : Value).ownBlock)) (HO_218002.out) (fun k_ hk => ⟨⟨hk.1.1, hk.1.2⟩, hk.2⟩))))); (case aB => exact (by repeat (first | (with_reducible first | exact HB.out | apply below_alloc | apply pw_below_drewN | apply below_drew1 | refine below_set ?_ GE217.out) | exact HB.out))); (case aF => exact (fun k_ hk => ⟨(.inr (Nat.le_trans (below_size (by repeat (first | (with_reducible first | exact HB.out | apply below_alloc | apply pw_below_drewN | apply below_drew1 | refine below_set ?_ GE217.out) | exact HB.out))) hk)), Kd.freshB (g := gb217) (o := .cells #[.string a1_0, .int .i64 a1_1, .slice A1_2 l1_2.length c1_2, .int .i64 a1_3, .int .i64 a1_4, .int .i64 a1_5] 27 (0, 0)) (by (with_reducible repeat (first | refine blk_drewN ?_ _ | refine blk_drew ?_ | refine blk_alloc ?_ _)); exact BK217.out) k_ hk⟩)); (case aO => exact (by (with_reducible repeat (first | apply Kd.N_alloc | apply Kd.N_drewN | apply Kd.N_drew)); exact HO234.out)); (case aS => exact (below_size (by repeat (first | (with_reducible first | exact HB.out | apply below_alloc | apply pw_below_drewN | apply below_drew1 | refine below_set ?_ GE217.out) | exact HB.out)))); (case aL => have := LMc38.out; omega); intro v236 w81 ho hb hg hat; rw [← Ny235.out] at ho; have n0_ := Aside0.mk (Kd.V_afterv (ok := (fun k_ => ((P0_ k_ ∨ P1_2_ k_) ∨ w.heap.size ≤ k_) ∧ k_ ≠ gb217)) (by (with_reducible repeat (first | apply Kd.V_alloc | apply Kd.V_drewN | apply Kd.V_drew)); exact HO_0.out) hg hat); have n1_ := Aside0.mk (Kd.V_afterv (ok := (fun k_ => ((P0_ k_ ∨ P1_2_ k_) ∨ w.heap.size ≤ k_) ∧ k_ ≠ gb217)) (by (with_reducible repeat (first | apply Kd.V_alloc | apply Kd.V_drewN | apply Kd.V_drew)); exact HO_218002.out) hg hat); have n2_ := Aside0.mk (blk_grown (g := gb217) (o := .cells #[.string a1_0, .int .i64 a1_1, .slice A1_2 l1_2.length c1_2, .int .i64 a1_3, .int .i64 a1_4, .int .i64 a1_5] 27 (0, 0)) (by (with_reducible repeat (first | refine blk_drewN ?_ _ | refine blk_drew ?_ | refine blk_alloc ?_ _)); exact BK217.out) hg (Kd.N_away HO234.out (fun _ hk => hk.2))); have n3_ := Aside0.mk (hb); have n4_ := Aside0.mk (ho); clear HO_0; clear HO_218002; clear BK217; clear HB; clear HO234; have HO_0 := n0_; have HO_218002 := n1_; have BK217 := n2_; have HB := n3_; have HO237 := n4_; clear n0_ n1_ n2_ n3_ n4_; clear ho hb hg hat; obtain ⟨Ao82, co82, eo82⟩ := Kd.N_slice HO237.out; subst eo82) | ((with_reducible refine gate_callee (f := 18) rfl ?_); refine goesL_ (some 56) rfl rfl Try.func18 (by kernel_rfl) rfl #[.slice Ao82 y235.length co82, .int .i64 (wrap64 (1 + (Int.tmod (wrap64 (a2)) 3))), .int .i64 0] rfl (by (try simp only [List.map_toArray, List.map_cons, List.map_nil]); first | done | rfl | (simp only [List.length_drop, List.length_take]; rfl)) ?_; (with_reducible refine (expand_Choose.calls kj29 _ _ y235 (wrap64 (1 + (Int.tmod (wrap64 (a2)) 3))) 0 t238 _ ?side1 ?side2 A39.out).mono ?_); (case side1 => repeat (first | exact (Kd.N_reads' HO237.out).2.2 | (with_reducible refine Kd.C_alloc ?_ _) | (with_reducible refine Kd.C_drewN ?_ _) | (with_reducible refine Kd.C_drew ?_))); (case side2 => exact (Kd.N_reads' HO237.out).2.1); rintro e w83 ⟨rfl, hb⟩; refine ⟨_, rfl, ?_⟩; have n0_ := Aside0.mk (Kd.V_below (by (with_reducible repeat (first | apply Kd.V_alloc | apply Kd.V_drewN | apply Kd.V_drew)); exact HO_0.out) hb); have n1_ := Aside0.mk (Kd.V_below (by (with_reducible repeat (first | apply Kd.V_alloc | apply Kd.V_drewN | apply Kd.V_drew)); exact HO_218002.out) hb); have n2_ := Aside0.mk (Kd.N_below (by (with_reducible repeat (first | apply Kd.N_alloc | apply Kd.N_drewN | apply Kd.N_drew)); exact HO237.out) hb); have n3_ := Aside0.mk (blk_below (g := gb217) (o := .cells #[.string a1_0, .int .i64 a1_1, .slice A1_2 l1_2.length c1_2, .int .i64 a1_3, .int .i64 a1_4, .int .i64 a1_5] 27 (0, 0)) (by (with_reducible repeat (first | refine blk_drewN ?_ _ | refine blk_drew ?_ | refine blk_alloc ?_ _)); exact BK217.out) hb); have n4_ := Aside0.mk (below_step (by repeat (first | (with_reducible first | exact HB.out | apply below_alloc | apply pw_below_drewN | apply below_drew1 | refine below_set ?_ GE217.out) | exact HB.out)) hb); clear HO_0; clear HO_218002; clear HO237; clear BK217; clear HB; have HO_0 := n0_; have HO_218002 := n1_; have HO237 := n2_; have BK217 := n3_; have HB := n4_; clear n0_ n1_ n2_ n3_ n4_; (try clear hb); (try clear hb2); (try clear hk); (try clear hi)))
                            have n0_ := Aside0.mk (Kd.V_drew HO_0.out)
                            have n1_ := Aside0.mk (Kd.V_drew HO_218002.out)
                            have n2_ := Aside0.mk (Kd.N_drew HO237.out)
                            have n3_ := Aside0.mk (blk_drew BK217.out)
                            have n4_ := Aside0.mk (below_drew1 HB.out)
                            clear HO_0
                            clear HO_218002
                            clear HO237
                            clear BK217
                            clear HB
                            have HO_0 := n0_
                            have HO_218002 := n1_
                            have HO237 := n2_
                            have BK217 := n3_
                            have HB := n4_
                            clear n0_ n1_ n2_ n3_ n4_
                            have p239 : 0 ≤ (t227 : Int) := of_decide_eq_true (by first | (with_reducible assumption) | assumption)
                            have q239 : t227 < (l0.length : Int) := of_decide_eq_true (by first | (with_reducible assumption) | assumption)
                            obtain ⟨ad239, A239_2, c239_2, e239, hx239_0, hx239_1, hx239_2, hx239_3, hx239_4, hx239_5, hl239_2, hi239_2⟩ := at_T27 (Kd.V_reads' HO_0.out).2.2 t227 p239 q239
                            cases e239
                            obtain ⟨ce239, hce239, hMe239, hcc239⟩ := Kd.V_get HO_0.out z27 t227 p239 (by first | exact q239 | exact of_decide_eq_true (by first | (with_reducible assumption) | assumption) | (have e_ := (Kd.V_reads' HO_0.out).1; omega))
                            obtain ⟨ua239_2, uc239_2, rfl, ul239_2, ge239_2⟩ := k27_openF hMe239
                            have hv239_2 := hcc239 2 _ rfl
                            rw [add_field _ _ 2 (by omega)] at hv239_2
                            replace hv239_2 := Option.some.inj (hv239_2.symm.trans hx239_2)
                            injection hv239_2 with hva_ hvn_ hvc_
                            rw [hva_] at ge239_2
                            rw [hvc_] at ul239_2
                            have HL239_2 := Aside0.mk (show Kd.V Kd.string 9 _ w.heap.size _ _ ((rd_T27 l0 t227).f2) from Kd.V_mk ul239_2 ge239_2)
                            clear hva_ hvn_ hvc_ ge239_2 ul239_2
                            clear hcc239 hce239
                            have HR239_2 := Aside0.mk hi239_2
                            have HC239_2 := Aside0.mk hl239_2
                            clear hi239_2 hl239_2
                            replace p239 := eq_true p239
                            replace q239 := eq_true q239
                            refine start_ (n := 7) (S := fun w' => w'.cell? ⟨gb217, 0, none⟩ = some (.string a1_0) ∧ w'.cell? ⟨gb217, 1, none⟩ = some (.int .i64 a1_1) ∧ w'.cell? ⟨gb217, 2, none⟩ = some (.slice A1_2 l1_2.length c1_2) ∧ w'.cell? ⟨gb217, 3, none⟩ = some (.int .i64 a1_3) ∧ w'.cell? ⟨gb217, 4, none⟩ = some (.int .i64 a1_4) ∧ w'.cell? ⟨gb217, 5, none⟩ = some (.int .i64 a1_5) ∧ w'.cell? (ad239.add ((t227).toNat * 6)) = some (.string ((rd_T27 l0 t227).f0)) ∧ w'.cell? ⟨(ad239.add ((t227).toNat * 6)).block, (ad239.add ((t227).toNat * 6)).off + 1, none⟩ = some (.int .i64 ((rd_T27 l0 t227).f1)) ∧ w'.cell? ⟨(ad239.add ((t227).toNat * 6)).block, (ad239.add ((t227).toNat * 6)).off + 2, none⟩ = some (.slice A239_2 ((rd_T27 l0 t227).f2).length c239_2) ∧ w'.cell? ⟨(ad239.add ((t227).toNat * 6)).block, (ad239.add ((t227).toNat * 6)).off + 3, none⟩ = some (.int .i64 ((rd_T27 l0 t227).f3)) ∧ w'.cell? ⟨(ad239.add ((t227).toNat * 6)).block, (ad239.add ((t227).toNat * 6)).off + 4, none⟩ = some (.int .i64 ((rd_T27 l0 t227).f4)) ∧ w'.cell? ⟨(ad239.add ((t227).toNat * 6)).block, (ad239.add ((t227).toNat * 6)).off + 5, none⟩ = some (.int .i64 ((rd_T27 l0 t227).f5))) (ds := []) #[false, false, false, false, false, false, false] (by kernel_rfl) rfl rfl ⟨(blk_cell BK217.out 0).trans rfl, (blk_cell BK217.out 1).trans rfl, (blk_cell BK217.out 2).trans rfl, (blk_cell BK217.out 3).trans rfl, (blk_cell BK217.out 4).trans rfl, (blk_cell BK217.out 5).trans rfl, hx239_0, hx239_1, hx239_2, hx239_3, hx239_4, hx239_5⟩ (fun hHeld => ?_)
                            generalize w83.drew = w84 at HO_0 HO_218002 HO237 BK217 HB HL239_2 HR239_2 hx239_0 hx239_1 hx239_2 hx239_3 hx239_4 hx239_5 hHeld ⊢
                            refine pure_ (i := 1) (N := some 58) (v := ?_) (a' := ?_) #[false, true, false, false, false, false, false] rfl rfl (by kernel_rfl) (fun _ _ _ h => h) (Or.inl ⟨by rfl, ?_⟩) ?_ ?_
                            rotate_left
                            · intro w'
                              go_simp
                              with_reducible rfl
                            rotate_left
                            · simp only [Act.put, List.setIfInBounds_toArray, List.set_cons_zero, List.set_cons_succ, i64_w, i32_w]
                              rfl
                            refine pure_ (i := 2) (N := some 59) (v := ?_) (a' := ?_) #[false, true, true, false, false, false, false] rfl rfl (by kernel_rfl) (fun _ _ _ h => h) (Or.inl ⟨by rfl, ?_⟩) ?_ ?_
                            rotate_left
                            · intro w'
                              go_simp
                              with_reducible rfl
                            rotate_left
                            · simp only [Act.put, List.setIfInBounds_toArray, List.set_cons_zero, List.set_cons_succ, i64_w, i32_w]
                              rfl
                            refine pure_ (i := 3) (N := some 60) (v := ?_) (a' := ?_) #[false, true, true, true, false, false, false] rfl rfl (by kernel_rfl) (fun _ _ _ h => h) (Or.inl ⟨by rfl, ?_⟩) ?_ ?_
                            rotate_left
                            · intro w'
                              go_simp
                              with_reducible rfl
                            rotate_left
                            · simp only [Act.put, List.setIfInBounds_toArray, List.set_cons_zero, List.set_cons_succ, i64_w, i32_w]
                              rfl
                            refine pure_ (i := 5) (N := some 62) (v := ?_) (a' := ?_) #[false, true, true, true, false, true, false] rfl rfl (by kernel_rfl) (fun _ _ _ h => h) (Or.inl ⟨by rfl, ?_⟩) ?_ ?_
                            rotate_left
                            · intro w'
                              go_simp
                              with_reducible rfl
                            rotate_left
                            · simp only [Act.put, List.setIfInBounds_toArray, List.set_cons_zero, List.set_cons_succ, i64_w, i32_w]
                              rfl
                            refine take_ (i := 0) (N := some 57) (v := ?_) (a' := ?_) #[true, true, true, true, false, true, false] rfl rfl (by kernel_rfl) (fun _ _ _ h => h) (Or.inl ⟨by rfl, ?_⟩) hHeld ?_ ?_
                            rotate_left
                            · rintro w' ⟨s0, s1, s2, s3, s4, s5, s6, s7, s8, s9, s10, s11⟩
                              go_simp
                              with_reducible rfl
                            rotate_left
                            · simp only [Act.put, List.setIfInBounds_toArray, List.set_cons_zero, List.set_cons_succ, i64_w, i32_w]
                              rfl
                            refine take_ (i := 4) (N := some 61) (v := ?_) (a' := ?_) #[true, true, true, true, true, true, false] rfl rfl (by kernel_rfl) (fun _ _ _ h => h) (Or.inl ⟨by rfl, ?_⟩) hHeld ?_ ?_
                            rotate_left
                            · rintro w' ⟨s0, s1, s2, s3, s4, s5, s6, s7, s8, s9, s10, s11⟩
                              go_simp
                              with_reducible rfl
                            rotate_left
                            · simp only [Act.put, List.setIfInBounds_toArray, List.set_cons_zero, List.set_cons_succ, i64_w, i32_w]
                              rfl
                            refine one_ (i := 6) (N := some 63) #[true, true, true, true, true, true, true] rfl rfl (by kernel_rfl) (by decide) (fun K hK => ?_)
                            refine goes_ Try.func16 (by kernel_rfl) rfl #[.agg #[.string a1_0, .int .i64 a1_1, .slice A1_2 l1_2.length c1_2, .int .i64 a1_3, .int .i64 a1_4, .int .i64 a1_5], .agg #[.string ((rd_T27 l0 t227).f0), .int .i64 ((rd_T27 l0 t227).f1), .slice A239_2 ((rd_T27 l0 t227).f2).length c239_2, .int .i64 ((rd_T27 l0 t227).f3), .int .i64 ((rd_T27 l0 t227).f4), .int .i64 ((rd_T27 l0 t227).f5)], .int .i64 (wrap64 (1 + (Int.tmod (wrap64 (a2)) 3)))] (by rfl) rfl rfl (by (try simp only [List.map_toArray, List.map_cons, List.map_nil]); first | done | rfl | (simp only [List.length_drop, List.length_take]; rfl)) ?_
                            with_reducible refine (expand_Better.calls kj29 a1_0 a1_1 _ _ l1_2 a1_3 a1_4 a1_5 ((rd_T27 l0 t227).f0) ((rd_T27 l0 t227).f1) _ _ ((rd_T27 l0 t227).f2) ((rd_T27 l0 t227).f3) ((rd_T27 l0 t227).f4) ((rd_T27 l0 t227).f5) (wrap64 (1 + (Int.tmod (wrap64 (a2)) 3))) false _ ?side1 ?side2 ?side3 ?side4 A42.out).mono ?_
                            (case side1 => repeat (first | exact (Kd.V_reads' HO_218002.out).2.2 | (with_reducible refine Kd.C_alloc ?_ _) | (with_reducible refine Kd.C_drewN ?_ _) | (with_reducible refine Kd.C_drew ?_)))
                            (case side2 => exact (Kd.V_reads' HO_218002.out).2.1)
                            (case side3 => repeat (first | exact (by repeat (first | (with_reducible exact HR239_2.out) | (with_reducible refine Kd.C_alloc ?_ _) | (with_reducible refine Kd.C_drewN ?_ _) | (with_reducible refine Kd.C_drew ?_) | exact HR239_2.out)) | (with_reducible refine Kd.C_alloc ?_ _) | (with_reducible refine Kd.C_drewN ?_ _) | (with_reducible refine Kd.C_drew ?_)))
                            (case side4 => exact HC239_2.out)
                            rintro e w85 ⟨rfl, hb⟩
                            have HS6_ := (hb.cell (World.block_lt_of_cell? _ _ (hHeld.2.2.2.2.2.2.1))).trans (hHeld.2.2.2.2.2.2.1)
                            have HS7_ := (hb.cell (World.block_lt_of_cell? _ _ (hHeld.2.2.2.2.2.2.2.1))).trans (hHeld.2.2.2.2.2.2.2.1)
                            have HS8_ := (hb.cell (World.block_lt_of_cell? _ _ (hHeld.2.2.2.2.2.2.2.2.1))).trans (hHeld.2.2.2.2.2.2.2.2.1)
                            have HS9_ := (hb.cell (World.block_lt_of_cell? _ _ (hHeld.2.2.2.2.2.2.2.2.2.1))).trans (hHeld.2.2.2.2.2.2.2.2.2.1)
                            have HS10_ := (hb.cell (World.block_lt_of_cell? _ _ (hHeld.2.2.2.2.2.2.2.2.2.2.1))).trans (hHeld.2.2.2.2.2.2.2.2.2.2.1)
                            have HS11_ := (hb.cell (World.block_lt_of_cell? _ _ (hHeld.2.2.2.2.2.2.2.2.2.2.2))).trans (hHeld.2.2.2.2.2.2.2.2.2.2.2)
                            refine ⟨_, rfl, ?_⟩
                            have n0_ := Aside0.mk (Kd.V_below (by (with_reducible repeat (first | apply Kd.V_alloc | apply Kd.V_drewN | apply Kd.V_drew)); exact HO_0.out) hb)
                            have n1_ := Aside0.mk (Kd.V_below (by (with_reducible repeat (first | apply Kd.V_alloc | apply Kd.V_drewN | apply Kd.V_drew)); exact HO_218002.out) hb)
                            have n2_ := Aside0.mk (Kd.N_below (by (with_reducible repeat (first | apply Kd.N_alloc | apply Kd.N_drewN | apply Kd.N_drew)); exact HO237.out) hb)
                            have n3_ := Aside0.mk (Kd.V_below (by (with_reducible repeat (first | apply Kd.V_alloc | apply Kd.V_drewN | apply Kd.V_drew)); exact HL239_2.out) hb)
                            have n4_ := Aside0.mk (blk_below (g := gb217) (o := .cells #[.string a1_0, .int .i64 a1_1, .slice A1_2 l1_2.length c1_2, .int .i64 a1_3, .int .i64 a1_4, .int .i64 a1_5] 27 (0, 0)) (by (with_reducible repeat (first | refine blk_drewN ?_ _ | refine blk_drew ?_ | refine blk_alloc ?_ _)); exact BK217.out) hb)
                            have n5_ := Aside0.mk (Kd.C_below (by repeat (first | (with_reducible exact HR239_2.out) | (with_reducible refine Kd.C_alloc ?_ _) | (with_reducible refine Kd.C_drewN ?_ _) | (with_reducible refine Kd.C_drew ?_) | exact HR239_2.out)) hb)
                            have n6_ := Aside0.mk (below_step (by repeat (first | (with_reducible first | exact HB.out | apply below_alloc | apply pw_below_drewN | apply below_drew1 | refine below_set ?_ GE217.out) | exact HB.out)) hb)
                            clear HO_0
                            clear HO_218002
                            clear HO237
                            clear HL239_2
                            clear BK217
                            clear HR239_2
                            clear HB
                            have HO_0 := n0_
                            have HO_218002 := n1_
                            have HO237 := n2_
                            have HL239_2 := n3_
                            have BK217 := n4_
                            have HR239_2 := n5_
                            have HB := n6_
                            clear n0_ n1_ n2_ n3_ n4_ n5_ n6_
                            (try clear hb)
                            (try clear hb2)
                            (try clear hk)
                            (try clear hi)
                            refine hK.out _ _ ⟨(blk_cell BK217.out 0).trans rfl, (blk_cell BK217.out 1).trans rfl, (blk_cell BK217.out 2).trans rfl, (blk_cell BK217.out 3).trans rfl, (blk_cell BK217.out 4).trans rfl, (blk_cell BK217.out 5).trans rfl, HS6_, HS7_, HS8_, HS9_, HS10_, HS11_⟩ (fun hHeld => ?_)
                            clear hK K
                            refine norm_ (a' := ?_) ?_ ?_
                            rotate_left
                            · show Act.put _ (some 63) _ = _
                              simp only [Act.put, List.setIfInBounds_toArray, List.set_cons_zero, List.set_cons_succ, i64_w, i32_w]
                              rfl
                            refine done_ (by kernel_rfl) ?_
                            try go_wp2
                            go_ret
                            exact ⟨by first | rfl | (simp [errW_none, errW_some] <;> rfl) | (simp [*, errW_none, errW_some] <;> rfl), by repeat (first | (with_reducible first | exact HB.out | apply below_alloc | apply pw_below_drewN | apply below_drew1 | refine below_set ?_ GE217.out) | exact HB.out)⟩
                      · rw [if_neg c41] at H
                        exact absurd H (by simp)
                    · rw [if_neg c40] at H
                      exact absurd H (by simp)
                  · rw [if_neg c38] at H
                    exact absurd H (by simp)
                · rw [if_neg c37] at H
                  exact absurd H (by simp)

/-- THE ONE PURE STATEMENT of triremelaw21_ExpandOne: yours. -/
def triremelaw21_ExpandOne.Pure : Prop := ∀ (x0 : List (S27)) (x1 : S27) (x2 : Int), (x0.length * 72 ≤ 140737488351232 ∧ ∀ yx0 ∈ x0, B27 yx0) → B27 x1 → (Lit.int .u8 x2).wf = true → ∃ k, triremelaw21_ExpandOne.f k x0 x1.f0 x1.f1 x1.f2 x1.f3 x1.f4 x1.f5 x2 = some true
theorem triremelaw21_ExpandOne.walk (P : triremelaw21_ExpandOne.Pure) (x0 : List (S27)) (A0 : Option Addr) (c0 : Nat) (x1 : S27) (A1_2 : Option Addr) (c1_2 : Nat) (x2 : Int) (w : World) (hr0 : Kd.C k27 w A0 x0.length x0) (hc0 : x0.length ≤ c0) (hb0 : (x0.length * 72 ≤ 140737488351232 ∧ ∀ yx0 ∈ x0, B27 yx0)) (hr1_2 : Kd.C Kd.string w A1_2 x1.f2.length x1.f2) (hc1_2 : x1.f2.length ≤ c1_2) (hb1 : B27 x1) (hb2 : (Lit.int .u8 x2).wf = true) :
    Calls Try.prog 7 #[.slice A0 x0.length c0, .agg #[.string x1.f0, .int .i64 x1.f1, .slice A1_2 x1.f2.length c1_2, .int .i64 x1.f3, .int .i64 x1.f4, .int .i64 x1.f5], .int .u8 x2] w fun e w' => e = .returned (.bool true) ∧ Below w.heap.size w w' := by
  obtain ⟨k, h⟩ := P x0 x1 x2 hb0 hb1 hb2
  refine (triremelaw21_ExpandOne.calls k (fun k_ => k_ < w.heap.size) _ _ x0 x1.f0 x1.f1 (fun k_ => k_ < w.heap.size) _ _ x1.f2 x1.f3 x1.f4 x1.f5 x2 true w (Kd.V_mk hc0 (Kd.C_F k27_heap hr0)) (Kd.V_mk hc1_2 (Kd.C_F Kd.heap_string hr1_2)) h).mono ?_
  rintro e w' ⟨rfl, hd⟩
  exact ⟨rfl, hd⟩

end Go.Proofs.Ytplgkdfmpbkfpaa.HEx
