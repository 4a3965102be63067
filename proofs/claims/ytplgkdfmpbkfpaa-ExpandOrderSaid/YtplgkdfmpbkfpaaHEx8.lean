-- PRINTED by print.py (a twelfth state) out of the translation. Not trusted: Lean checks it.
import Derived.Test.YtplgkdfmpbkfpaaHEx0
import Derived.Test.YtplgkdfmpbkfpaaHEx3
import Derived.Test.YtplgkdfmpbkfpaaHEx4
import Derived.Test.YtplgkdfmpbkfpaaHExOp
namespace Go.Proofs.Ytplgkdfmpbkfpaa.HEx
open Go.RowKit Go.Proofs.YtplgkdfmpbkfpaaW.PrintWords Go.Proofs.YtplgkdfmpbkfpaaW.PrintLast Go.Proofs.YtplgkdfmpbkfpaaW.PrintMore
attribute [local go_sem] max2_int min2_int max_two min_two max_three min_three max_four min_four   -- for this text's walks alone
attribute [local go_sem] run_store_fnW fnW_nil fnW_75 fnW_76 fnW_77 fnW_78 fnW_79
set_option linter.unusedVariables false
set_option linter.unusedSimpArgs false

/-! ### triremelaw21_ExpandOrder: function 5 -/
mutual
def triremelaw21_ExpandOrder.j0 : Nat → List (S27) → Int → Bool → Option (Bool)
  | 0, _, _, _ => none
  | k + 1, x0, x1, x17 => if x17 = true then ((triremelaw21_known.f k).bind fun t197 => (some t197)) else (triremelaw21_ExpandOrder.l0 k x0 (wrap64 (1 + (Int.tmod (wrap64 (x1)) 3))) ([] : List (S27)) (wrap64 ((x0.length : Int) - 1)))
def triremelaw21_ExpandOrder.l0 : Nat → List (S27) → Int → List (S27) → Int → Option (Bool)
  | 0, _, _, _, _ => none
  | k + 1, x0, x5, x6, x7 => if x7 ≥ 0 then (if 0 ≤ x7 then (if x7 < (x0.length : Int) then (if x6.length < 1954687338268 then (triremelaw21_ExpandOrder.l0 k x0 x5 (x6 ++ [(⟨(rd_T27 x0 x7).f0, (rd_T27 x0 x7).f1, (rd_T27 x0 x7).f2, (rd_T27 x0 x7).f3, (rd_T27 x0 x7).f4, (rd_T27 x0 x7).f5⟩ : S27)]) (wrap64 (x7 - 1))) else (none)) else (none)) else (none)) else ((expand_Choose.f k x0 x5 0).bind fun t202 => ((expand_Choose.f k x6 x5 0).bind fun t203 => (if t202 < 0 then (triremelaw21_ExpandOrder.j2 k x0 x5 x6 t202 t203 true) else (if t202 ≥ (x0.length : Int) then (triremelaw21_ExpandOrder.j2 k x0 x5 x6 t202 t203 true) else (if t203 < 0 then (triremelaw21_ExpandOrder.j2 k x0 x5 x6 t202 t203 true) else (triremelaw21_ExpandOrder.j2 k x0 x5 x6 t202 t203 (decide (t203 ≥ (x0.length : Int)))))))))
def triremelaw21_ExpandOrder.j2 : Nat → List (S27) → Int → List (S27) → Int → Int → Bool → Option (Bool)
  | 0, _, _, _, _, _, _ => none
  | k + 1, x0, x5, x6, x8, x9, x60 => if x60 = true then (some false) else (if 0 ≤ x8 then (if x8 < (x0.length : Int) then (if 0 ≤ x9 then (if x9 < (x6.length : Int) then ((expand_Better.f k ((rd_T27 x0 x8).f0) ((rd_T27 x0 x8).f1) ((rd_T27 x0 x8).f2) ((rd_T27 x0 x8).f3) ((rd_T27 x0 x8).f4) ((rd_T27 x0 x8).f5) ((rd_T27 x6 x9).f0) ((rd_T27 x6 x9).f1) ((rd_T27 x6 x9).f2) ((rd_T27 x6 x9).f3) ((rd_T27 x6 x9).f4) ((rd_T27 x6 x9).f5) x5).bind fun t206 => (if t206 = true then (some false) else ((expand_Better.f k ((rd_T27 x6 x9).f0) ((rd_T27 x6 x9).f1) ((rd_T27 x6 x9).f2) ((rd_T27 x6 x9).f3) ((rd_T27 x6 x9).f4) ((rd_T27 x6 x9).f5) ((rd_T27 x0 x8).f0) ((rd_T27 x0 x8).f1) ((rd_T27 x0 x8).f2) ((rd_T27 x0 x8).f3) ((rd_T27 x0 x8).f4) ((rd_T27 x0 x8).f5) x5).bind fun t209 => (if t209 = true then (some false) else ((triremelaw21_known.f k).bind fun t210 => (some t210)))))) else (none)) else (none)) else (none)) else (none))
end
def triremelaw21_ExpandOrder.f (k : Nat) (l0 : List (S27)) (a1 : Int) : Option (Bool) := if (l0.length : Int) > 60 then (triremelaw21_ExpandOrder.j0 k l0 a1 true) else (triremelaw21_ExpandOrder.j0 k l0 a1 ((l0.length : Int) == 0))
theorem triremelaw21_ExpandOrder.mono_l : ∀ k, (∀ y0 y1 y2, LeO (triremelaw21_ExpandOrder.j0 k y0 y1 y2) (triremelaw21_ExpandOrder.j0 (k + 1) y0 y1 y2)) ∧ (∀ y0 y1 y2 y3, LeO (triremelaw21_ExpandOrder.l0 k y0 y1 y2 y3) (triremelaw21_ExpandOrder.l0 (k + 1) y0 y1 y2 y3)) ∧ (∀ y0 y1 y2 y3 y4 y5, LeO (triremelaw21_ExpandOrder.j2 k y0 y1 y2 y3 y4 y5) (triremelaw21_ExpandOrder.j2 (k + 1) y0 y1 y2 y3 y4 y5))
  | 0 => ⟨fun _ _ _ r h => by simp [triremelaw21_ExpandOrder.j0] at h, fun _ _ _ _ r h => by simp [triremelaw21_ExpandOrder.l0] at h, fun _ _ _ _ _ _ r h => by simp [triremelaw21_ExpandOrder.j2] at h⟩
  | k + 1 => by
    obtain ⟨ih0, ih1, ih2⟩ := triremelaw21_ExpandOrder.mono_l k
    refine ⟨?_, ?_, ?_⟩
    · intro y0 y1 y2
      unfold triremelaw21_ExpandOrder.j0
      repeat' first
      | (with_reducible exact ih0 _ _ _)
      | (with_reducible exact ih1 _ _ _ _)
      | (with_reducible exact ih2 _ _ _ _ _ _)
      | (with_reducible exact expand_Better.mono _ _ _ _ _ _ _ _ _ _ _ _ _ _)
      | (with_reducible exact expand_Choose.mono _ _ _ _)
      | (with_reducible exact triremelaw21_known.mono _)
      | (with_reducible exact LeO.refl _)
      | (with_reducible exact LeO.none _)
      | (with_reducible refine LeO.ite ?_ ?_)
      | (with_reducible refine LeO.bind ?_ (fun _ => ?_))
      | exact ih0 _ _ _
      | exact ih1 _ _ _ _
      | exact ih2 _ _ _ _ _ _
      | exact expand_Better.mono _ _ _ _ _ _ _ _ _ _ _ _ _ _
      | exact expand_Choose.mono _ _ _ _
      | exact triremelaw21_known.mono _
      | exact LeO.none _
      | refine LeO.ite ?_ ?_
      | refine LeO.bind ?_ (fun _ => ?_)
    · intro y0 y1 y2 y3
      unfold triremelaw21_ExpandOrder.l0
      repeat' first
      | (with_reducible exact ih0 _ _ _)
      | (with_reducible exact ih1 _ _ _ _)
      | (with_reducible exact ih2 _ _ _ _ _ _)
      | (with_reducible exact expand_Better.mono _ _ _ _ _ _ _ _ _ _ _ _ _ _)
      | (with_reducible exact expand_Choose.mono _ _ _ _)
      | (with_reducible exact triremelaw21_known.mono _)
      | (with_reducible exact LeO.refl _)
      | (with_reducible exact LeO.none _)
      | (with_reducible refine LeO.ite ?_ ?_)
      | (with_reducible refine LeO.bind ?_ (fun _ => ?_))
      | exact ih0 _ _ _
      | exact ih1 _ _ _ _
      | exact ih2 _ _ _ _ _ _
      | exact expand_Better.mono _ _ _ _ _ _ _ _ _ _ _ _ _ _
      | exact expand_Choose.mono _ _ _ _
      | exact triremelaw21_known.mono _
      | exact LeO.none _
      | refine LeO.ite ?_ ?_
      | refine LeO.bind ?_ (fun _ => ?_)
    · intro y0 y1 y2 y3 y4 y5
      unfold triremelaw21_ExpandOrder.j2
      repeat' first
      | (with_reducible exact ih0 _ _ _)
      | (with_reducible exact ih1 _ _ _ _)
      | (with_reducible exact ih2 _ _ _ _ _ _)
      | (with_reducible exact expand_Better.mono _ _ _ _ _ _ _ _ _ _ _ _ _ _)
      | (with_reducible exact expand_Choose.mono _ _ _ _)
      | (with_reducible exact triremelaw21_known.mono _)
      | (with_reducible exact LeO.refl _)
      | (with_reducible exact LeO.none _)
      | (with_reducible refine LeO.ite ?_ ?_)
      | (with_reducible refine LeO.bind ?_ (fun _ => ?_))
      | exact ih0 _ _ _
      | exact ih1 _ _ _ _
      | exact ih2 _ _ _ _ _ _
      | exact expand_Better.mono _ _ _ _ _ _ _ _ _ _ _ _ _ _
      | exact expand_Choose.mono _ _ _ _
      | exact triremelaw21_known.mono _
      | exact LeO.none _
      | refine LeO.ite ?_ ?_
      | refine LeO.bind ?_ (fun _ => ?_)
theorem triremelaw21_ExpandOrder.mono : ∀ a0 a1 k, LeO (triremelaw21_ExpandOrder.f k a0 a1) (triremelaw21_ExpandOrder.f (k + 1) a0 a1) := by
  intro a0 a1 k
  obtain ⟨ih0, ih1, ih2⟩ := triremelaw21_ExpandOrder.mono_l k
  unfold triremelaw21_ExpandOrder.f
  repeat' first
      | (with_reducible exact ih0 _ _ _)
      | (with_reducible exact ih1 _ _ _ _)
      | (with_reducible exact ih2 _ _ _ _ _ _)
      | (with_reducible exact expand_Better.mono _ _ _ _ _ _ _ _ _ _ _ _ _ _)
      | (with_reducible exact expand_Choose.mono _ _ _ _)
      | (with_reducible exact triremelaw21_known.mono _)
      | (with_reducible exact LeO.refl _)
      | (with_reducible exact LeO.none _)
      | (with_reducible refine LeO.ite ?_ ?_)
      | (with_reducible refine LeO.bind ?_ (fun _ => ?_))
      | exact ih0 _ _ _
      | exact ih1 _ _ _ _
      | exact ih2 _ _ _ _ _ _
      | exact expand_Better.mono _ _ _ _ _ _ _ _ _ _ _ _ _ _
      | exact expand_Choose.mono _ _ _ _
      | exact triremelaw21_known.mono _
      | exact LeO.none _
      | refine LeO.ite ?_ ?_
      | refine LeO.bind ?_ (fun _ => ?_)
def triremelaw21_ExpandOrder.T13 : Bool × List (List Nat × List Nat) := (true, [([], []), ([], []), ([0, 1], [0, 1]), ([2], [2]), ([], []), ([], []), ([4, 5], [4, 5]), ([6], [6]), ([], []), ([3, 7, 8], [3, 7, 8]), ([9], [9]), ([10, 9], [10]), ([11], [11]), ([11], [11]), ([12, 13, 11], [11, 12, 13]), ([14, 11], [11, 14]), ([11], [11]), ([11], [11]), ([16, 17, 11], [11, 16, 17]), ([18, 11], [11, 18]), ([11], [11]), ([15, 19, 20, 11, 11], [11, 15, 19, 20]), ([21, 11], [11, 21]), ([11, 22], [11, 22]), ([23, 21], [23]), ([24, 24], [24]), ([24, 25], [24, 25]), ([26, 25, 0, 1, 2, 3, 4, 5, 6, 7, 8, 9, 10, 11, 12, 13, 14, 15, 16, 17, 18, 19, 20, 21, 22, 23, 24, 25, 26], [26])])
def triremelaw21_ExpandOrder.B13 : List Nat := [0, 0, 3, 7, 0, 0, 48, 112, 0, 511, 1023, 2047, 4095, 4095, 16383, 32767, 4095, 4095, 200703, 462847, 4095, 2097151, 4194303, 8388607, 16777215, 33554431, 67108863, 134217727]
theorem triremelaw21_ExpandOrder.tab13 : rtab .any (opsOf Try.f5 13) = triremelaw21_ExpandOrder.T13 := by kernel_rfl
theorem triremelaw21_ExpandOrder.bits13 : waitsOk triremelaw21_ExpandOrder.T13.2 triremelaw21_ExpandOrder.B13 = true := by kernel_rfl
set_option maxHeartbeats 8000000 in
set_option maxRecDepth 100000 in
theorem triremelaw21_ExpandOrder.calls (k : Nat) (P0_ : Nat → Prop) (A0 : Option Addr) (c0 : Nat) (l0 : List (S27)) (a1 : Int) (r : Bool) (w : World) (hs0 : Kd.V k27 27 w w.heap.size (fun k_ => P0_ k_) (.slice A0 l0.length c0) l0) (h : triremelaw21_ExpandOrder.f k l0 a1 = some r) :
    Calls Try.prog 5 #[.slice A0 l0.length c0, .int .u8 a1] w fun e w' => e = .returned (.bool r) ∧ Below w.heap.size w w' := by
  have hu27 := Try.underlying27
  have HO0 := Aside0.mk (show Kd.V k27 27 w w.heap.size (fun k_ => (P0_ k_ ∨ w.heap.size ≤ k_)) (.slice A0 l0.length c0) l0 from Kd.V_mono hs0 (fun k_ hk => .inl hk))
  have HB := Aside0.mk (Below.refl w.heap.size w)
  have H : (if (l0.length : Int) > 60 then (triremelaw21_ExpandOrder.j0 k l0 a1 true) else (triremelaw21_ExpandOrder.j0 k l0 a1 ((l0.length : Int) == 0))) = some r := h
  clear h
  have HC3 := Aside0.mk H
  clear H
  go_enter Try.func5, Try.ntmps5
  go_upto_region 1 with (fail)
  go_cut [17] (fun v17 wc => ∃ (kq : Nat) (x17_2 : Bool), v17 = .bool x17_2 ∧ Aside0 (triremelaw21_ExpandOrder.j0 kq l0 a1 x17_2 = some r) ∧ Aside0 (kq ≤ k) ∧ Aside0 (Kd.V k27 27 wc w.heap.size (fun k_ => (P0_ k_ ∨ w.heap.size ≤ k_)) (.slice A0 l0.length c0) l0) ∧ Aside0 (Below w.heap.size w wc))
  case first =>
    have H := HC3.out
    clear HC3
    by_cases c4 : (l0.length : Int) > 60
    · rw [if_pos c4] at H
      have c4b0 : decide (60 < (l0.length : Int)) = true := decide_eq_true c4
      have c4b1 : decide (60 < l0.length) = true := decide_eq_true (by omega)
      clear c4
      (first | rw [c4b0] | (simp only [i64_w, i32_w]; rw [c4b0]) | skip)
      have H' := Aside0.mk H
      clear H
      go_wp2
      go_meet
      case rel => exact ⟨_, (true), (by first | rfl | (simp; done) | (simp [*]; done)), H', ⟨by first | omega | exact Nat.le_refl _⟩, ⟨by (with_reducible repeat (first | apply Kd.V_alloc | apply Kd.V_drewN | apply Kd.V_drew)); exact HO0.out⟩, ⟨by repeat (first | (with_reducible first | exact HB.out | apply below_alloc | apply pw_below_drewN | apply below_drew1) | exact HB.out)⟩⟩
    · rw [if_neg c4] at H
      have c4b0 : decide (60 < (l0.length : Int)) = false := decide_eq_false c4
      have c4b1 : decide (60 < l0.length) = false := decide_eq_false (by omega)
      clear c4
      (first | rw [c4b0] | (simp only [i64_w, i32_w]; rw [c4b0]) | skip)
      have H' := Aside0.mk H
      clear H
      go_wp2
      go_meet
      case rel => exact ⟨_, (((l0.length : Int) == 0)), (by first | rfl | (simp; done) | (simp [*]; done)), H', ⟨by first | omega | exact Nat.le_refl _⟩, ⟨by (with_reducible repeat (first | apply Kd.V_alloc | apply Kd.V_drewN | apply Kd.V_drew)); exact HO0.out⟩, ⟨by repeat (first | (with_reducible first | exact HB.out | apply below_alloc | apply pw_below_drewN | apply below_drew1) | exact HB.out)⟩⟩
  case rest =>
    clear HC3
    try clear p2
    try clear c4
    try clear c4b0
    try clear c4b1
    obtain ⟨kq, x17_2, rfl, HA, HJ2, HO_0, HB⟩ := hcut
    cases kq with
    | zero => exact absurd HA.out (by simp [triremelaw21_ExpandOrder.j0])
    | succ kj2 =>
      have H := HA.out
      clear HA
      simp only [triremelaw21_ExpandOrder.j0] at H
      by_cases c5 : x17_2 = true
      · subst c5
        have H1 : ((triremelaw21_known.f kj2).bind fun t197 => (some t197)) = some r := by rw [if_pos rfl] at H; exact H
        clear H
        have H := H1
        clear H1
        replace H := Option.bind_eq_some_iff.mp H
        obtain ⟨t197, A60, H⟩ := H
        replace H : (some t197) = some r := H
        have A6 := Aside0.mk A60
        clear A60
        obtain rfl := Option.some.inj H
        go_wp2_with (first | ((with_reducible refine gate_callee (f := 15) rfl ?_); refine goesL_ (some 18) rfl rfl Try.func15 (by kernel_rfl) rfl #[] rfl (by (try simp only [List.map_toArray, List.map_cons, List.map_nil]); first | done | rfl | (simp only [List.length_drop, List.length_take]; rfl)) ?_; (with_reducible refine (triremelaw21_known.calls kj2  t197 _ A6.out).mono ?_); rintro e w7 ⟨rfl, hb⟩; refine ⟨_, rfl, ?_⟩; have n0_ := Aside0.mk (Kd.V_below (by (with_reducible repeat (first | apply Kd.V_alloc | apply Kd.V_drewN | apply Kd.V_drew)); exact HO_0.out) hb); have n1_ := Aside0.mk (below_step (by repeat (first | (with_reducible first | exact HB.out | apply below_alloc | apply pw_below_drewN | apply below_drew1) | exact HB.out)) hb); clear HO_0; clear HB; have HO_0 := n0_; have HB := n1_; clear n0_ n1_; (try clear hb); (try clear hb2); (try clear hk); (try clear hi)))
        go_ret
        exact ⟨by first | rfl | (simp [errW_none, errW_some] <;> rfl) | (simp [*, errW_none, errW_some] <;> rfl), by repeat (first | (with_reducible first | exact HB.out | apply below_alloc | apply pw_below_drewN | apply below_drew1) | exact HB.out)⟩
      · replace c5 := Bool.eq_false_iff.mpr c5
        subst c5
        have H1 : (triremelaw21_ExpandOrder.l0 kj2 l0 (wrap64 (1 + (Int.tmod (wrap64 (a1)) 3))) ([] : List (S27)) (wrap64 ((l0.length : Int) - 1))) = some r := by rw [if_neg (show ¬ (false = true) by decide)] at H; exact H
        clear H
        have H := H1
        clear H1
        have H' := Aside0.mk H
        clear H
        go_wp2
        go_loopg [6, 7] kj2 (fun kq v6 v7 w' => ∃ (x6_2 : List (S27)) (x7_2 : Int), v7 = .int .i64 x7_2 ∧ Aside0 (triremelaw21_ExpandOrder.l0 kq l0 (wrap64 (1 + (Int.tmod (wrap64 (a1)) 3))) x6_2 x7_2 = some r) ∧ Aside0 (kq ≤ kj2) ∧ Aside0 (Kd.V k27 27 w' w.heap.size (fun k_ => (P0_ k_ ∨ w.heap.size ≤ k_) ∧ some k_ ≠ (v6 : Value).ownBlock) (.slice A0 l0.length c0) l0) ∧ Aside0 (Kd.N k27 27 w' w.heap.size (fun k_ => (P0_ k_ ∨ w.heap.size ≤ k_)) v6 x6_2) ∧ Aside0 (Below w.heap.size w w'))
        case atStart => exact ⟨(([] : List (S27))), (wrap64 ((l0.length : Int) - 1)), (by first | rfl | (simp; done) | (simp [*]; done)), H', ⟨Nat.le_refl _⟩, ⟨by (with_reducible repeat (first | apply Kd.V_alloc | apply Kd.V_drewN | apply Kd.V_drew)); exact Kd.V_mono HO_0.out (fun _ hk => ⟨hk, (by simp [Value.ownBlock])⟩)⟩, ⟨by first | exact Kd.S_nil _ _ _ _ _ | exact Kd.N_nil _ _ _ _ _ | exact Kd.V_nil _ _ _ _ _ | exact Kd.Q_nil _ _ _ _ _ | exact Kd.R_nil _ _ _ _ _⟩, ⟨by repeat (first | (with_reducible first | exact HB.out | apply below_alloc | apply pw_below_drewN | apply below_drew1) | exact HB.out)⟩⟩
        case round =>
          clear H'
          try clear c1
          try clear p2
          try clear c4
          try clear c4b0
          try clear c4b1
          try clear c5
          try clear p6
          try clear p2
          obtain ⟨x6_2, x7_2, rfl, HA, HK2, HO_0, HO_6, HB⟩ := hrel
          cases gk with
          | zero => exact absurd HA.out (by simp [triremelaw21_ExpandOrder.l0])
          | succ k2 =>
            have H := HA.out
            clear HA
            simp only [triremelaw21_ExpandOrder.l0] at H
            by_cases c8 : x7_2 ≥ 0
            · rw [if_pos c8] at H
              have c8b0 : decide (0 ≤ x7_2) = true := decide_eq_true c8
              clear c8
              by_cases c9 : 0 ≤ x7_2
              · rw [if_pos c9] at H
                have c9b0 : decide (0 ≤ x7_2) = true := decide_eq_true c9
                clear c9
                by_cases c10 : x7_2 < (l0.length : Int)
                · rw [if_pos c10] at H
                  have c10b0 : decide (x7_2 < (l0.length : Int)) = true := decide_eq_true c10
                  clear c10
                  by_cases c11 : x6_2.length < 1954687338268
                  · rw [if_pos c11] at H
                    have LMc11 := Aside0.mk c11
                    clear c11
                    obtain ⟨y199, hy199⟩ : ∃ y_ : List (S27), y_ = (x6_2 ++ [(⟨(rd_T27 l0 x7_2).f0, (rd_T27 l0 x7_2).f1, (rd_T27 l0 x7_2).f2, (rd_T27 l0 x7_2).f3, (rd_T27 l0 x7_2).f4, (rd_T27 l0 x7_2).f5⟩ : S27)]) := ⟨_, rfl⟩
                    replace H : (triremelaw21_ExpandOrder.l0 k2 l0 (wrap64 (1 + (Int.tmod (wrap64 (a1)) 3))) y199 (wrap64 (x7_2 - 1))) = some r := by first | (rw [hy199]; with_reducible exact H) | (have H2_ := (Option.bind_some _ _).symm.trans H; rw [hy199]; with_reducible exact H2_) | (have H2_ := (Option.bind_some _ _).symm.trans H; with_reducible exact H2_) | with_reducible exact H | (rw [hy199]; exact H) | exact H
                    have Ny199 := Aside0.mk hy199
                    clear hy199
                    have H' := Aside0.mk H
                    clear H
                    have p198 : 0 ≤ (x7_2 : Int) := of_decide_eq_true (by first | (with_reducible assumption) | assumption)
                    have q198 : x7_2 < (l0.length : Int) := of_decide_eq_true (by first | (with_reducible assumption) | assumption)
                    obtain ⟨ad198, A198_2, c198_2, e198, hx198_0, hx198_1, hx198_2, hx198_3, hx198_4, hx198_5, hl198_2, hi198_2⟩ := at_T27 (Kd.V_reads' HO_0.out).2.2 x7_2 p198 q198
                    cases e198
                    obtain ⟨ce198, hce198, hMe198, hcc198⟩ := Kd.V_get HO_0.out z27 x7_2 p198 (by first | exact q198 | exact of_decide_eq_true (by first | (with_reducible assumption) | assumption) | (have e_ := (Kd.V_reads' HO_0.out).1; omega))
                    obtain ⟨ua198_2, uc198_2, rfl, ul198_2, ge198_2⟩ := k27_openF hMe198
                    have hv198_2 := hcc198 2 _ rfl
                    rw [add_field _ _ 2 (by omega)] at hv198_2
                    replace hv198_2 := Option.some.inj (hv198_2.symm.trans hx198_2)
                    injection hv198_2 with hva_ hvn_ hvc_
                    rw [hva_] at ge198_2
                    rw [hvc_] at ul198_2
                    have HL198_2 := Aside0.mk (show Kd.V Kd.string 9 _ w.heap.size _ _ ((rd_T27 l0 x7_2).f2) from Kd.V_mk ul198_2 ge198_2)
                    clear hva_ hvn_ hvc_ ge198_2 ul198_2
                    clear hcc198 hce198
                    have HR198_2 := Aside0.mk hi198_2
                    have HC198_2 := Aside0.mk hl198_2
                    clear hi198_2 hl198_2
                    replace p198 := eq_true p198
                    replace q198 := eq_true q198
                    go_wp2_with (first | ((with_reducible refine gate_builtin (b := .append) (xs := #[.tmp 30, .tmp 35]) rfl ?_); (try (refine gate_guard (by rfl) ?_; dsimp only)); at_builtin; refine Kd.N_append k27 (w0 := w) w.heap.size rfl (.tmp 30) (.tmp 35) 22 27 (.agg #[(.string ⟨#[]⟩), (.int .i64 0), (.slice none 0 0), (.int .i64 0), (.int .i64 0), (.int .i64 0)]) 72 rfl Try.underlying22 info27 rfl (by decide) (by omega) u6 x6_2 (⟨(rd_T27 l0 x7_2).f0, (rd_T27 l0 x7_2).f1, (rd_T27 l0 x7_2).f2, (rd_T27 l0 x7_2).f3, (rd_T27 l0 x7_2).f4, (rd_T27 l0 x7_2).f5⟩ : S27) [.string ((rd_T27 l0 x7_2).f0), .int .i64 ((rd_T27 l0 x7_2).f1), .slice A198_2 ((rd_T27 l0 x7_2).f2).length c198_2, .int .i64 ((rd_T27 l0 x7_2).f3), .int .i64 ((rd_T27 l0 x7_2).f4), .int .i64 ((rd_T27 l0 x7_2).f5)] (fun k_ => (P0_ k_ ∨ w.heap.size ≤ k_)) (fun k_ => ((fun k_ => (P0_ k_ ∨ w.heap.size ≤ k_))) k_ ∧ some k_ ≠ (u6 : Value).ownBlock) rfl rfl ?aP (fun _ hk => hk) ?aF ?aO ?aB ?aS ?aL ?_; (case aP => exact (k27_mkF _ _ (⟨(rd_T27 l0 x7_2).f0, (rd_T27 l0 x7_2).f1, (rd_T27 l0 x7_2).f2, (rd_T27 l0 x7_2).f3, (rd_T27 l0 x7_2).f4, (rd_T27 l0 x7_2).f5⟩ : S27) (Kd.V_reads' (Kd.V_mono (ok' := (fun k_ => ((fun k_ => (P0_ k_ ∨ w.heap.size ≤ k_))) k_ ∧ some k_ ≠ (u6 : Value).ownBlock)) (HL198_2.out) (fun k_ hk => ⟨hk.1, hk.2⟩))).2.1 (Kd.V_F (Kd.V_mono (ok' := (fun k_ => ((fun k_ => (P0_ k_ ∨ w.heap.size ≤ k_))) k_ ∧ some k_ ≠ (u6 : Value).ownBlock)) (HL198_2.out) (fun k_ hk => ⟨hk.1, hk.2⟩))))); (case aB => exact (by repeat (first | (with_reducible first | exact HB.out | apply below_alloc | apply pw_below_drewN | apply below_drew1) | exact HB.out))); (case aF => exact (fun k_ hk => (.inr (Nat.le_trans (below_size (by repeat (first | (with_reducible first | exact HB.out | apply below_alloc | apply pw_below_drewN | apply below_drew1) | exact HB.out))) hk)))); (case aO => exact (by (with_reducible repeat (first | apply Kd.N_alloc | apply Kd.N_drewN | apply Kd.N_drew)); exact HO_6.out)); (case aS => exact (below_size (by repeat (first | (with_reducible first | exact HB.out | apply below_alloc | apply pw_below_drewN | apply below_drew1) | exact HB.out)))); (case aL => have := LMc11.out; omega); intro v200 w12 ho hb hg hat; rw [← Ny199.out] at ho; have n0_ := Aside0.mk (Kd.V_afterv (ok := (fun k_ => (P0_ k_ ∨ w.heap.size ≤ k_))) (by (with_reducible repeat (first | apply Kd.V_alloc | apply Kd.V_drewN | apply Kd.V_drew)); exact HO_0.out) hg hat); have n1_ := Aside0.mk (Kd.V_afterv (ok := (fun k_ => (P0_ k_ ∨ w.heap.size ≤ k_))) (by (with_reducible repeat (first | apply Kd.V_alloc | apply Kd.V_drewN | apply Kd.V_drew)); exact HL198_2.out) hg hat); have n2_ := Aside0.mk (hb); have n3_ := Aside0.mk (ho); clear HO_0; clear HL198_2; clear HB; clear HO_6; have HO_0 := n0_; have HL198_2 := n1_; have HB := n2_; have HO201 := n3_; clear n0_ n1_ n2_ n3_; clear ho hb hg hat))
                    go_roundg k2
                    case measure => have := HJ2.out; have := HK2.out; omega
                    case rel => exact ⟨(y199), (wrap64 (x7_2 - 1)), (by first | rfl | (simp; done) | (simp [*]; done)), H', ⟨by have := HJ2.out; have := HK2.out; omega⟩, ⟨by (with_reducible repeat (first | apply Kd.V_alloc | apply Kd.V_drewN | apply Kd.V_drew)); exact HO_0.out⟩, ⟨by (with_reducible repeat (first | apply Kd.N_alloc | apply Kd.N_drewN | apply Kd.N_drew)); exact HO201.out⟩, ⟨by repeat (first | (with_reducible first | exact HB.out | apply below_alloc | apply pw_below_drewN | apply below_drew1) | exact HB.out)⟩⟩
                  · rw [if_neg c11] at H
                    exact absurd H (by simp)
                · rw [if_neg c10] at H
                  exact absurd H (by simp)
              · rw [if_neg c9] at H
                exact absurd H (by simp)
            · rw [if_neg c8] at H
              have c8b0 : decide (0 ≤ x7_2) = false := decide_eq_false c8
              clear c8
              replace H := Option.bind_eq_some_iff.mp H
              obtain ⟨t202, A130, H⟩ := H
              replace H : ((expand_Choose.f k2 x6_2 (wrap64 (1 + (Int.tmod (wrap64 (a1)) 3))) 0).bind fun t203 => (if t202 < 0 then (triremelaw21_ExpandOrder.j2 k2 l0 (wrap64 (1 + (Int.tmod (wrap64 (a1)) 3))) x6_2 t202 t203 true) else (if t202 ≥ (l0.length : Int) then (triremelaw21_ExpandOrder.j2 k2 l0 (wrap64 (1 + (Int.tmod (wrap64 (a1)) 3))) x6_2 t202 t203 true) else (if t203 < 0 then (triremelaw21_ExpandOrder.j2 k2 l0 (wrap64 (1 + (Int.tmod (wrap64 (a1)) 3))) x6_2 t202 t203 true) else (triremelaw21_ExpandOrder.j2 k2 l0 (wrap64 (1 + (Int.tmod (wrap64 (a1)) 3))) x6_2 t202 t203 (decide (t203 ≥ (l0.length : Int)))))))) = some r := H
              have A13 := Aside0.mk A130
              clear A130
              replace H := Option.bind_eq_some_iff.mp H
              obtain ⟨t203, A140, H⟩ := H
              replace H : (if t202 < 0 then (triremelaw21_ExpandOrder.j2 k2 l0 (wrap64 (1 + (Int.tmod (wrap64 (a1)) 3))) x6_2 t202 t203 true) else (if t202 ≥ (l0.length : Int) then (triremelaw21_ExpandOrder.j2 k2 l0 (wrap64 (1 + (Int.tmod (wrap64 (a1)) 3))) x6_2 t202 t203 true) else (if t203 < 0 then (triremelaw21_ExpandOrder.j2 k2 l0 (wrap64 (1 + (Int.tmod (wrap64 (a1)) 3))) x6_2 t202 t203 true) else (triremelaw21_ExpandOrder.j2 k2 l0 (wrap64 (1 + (Int.tmod (wrap64 (a1)) 3))) x6_2 t202 t203 (decide (t203 ≥ (l0.length : Int))))))) = some r := H
              have A14 := Aside0.mk A140
              clear A140
              have HC15 := Aside0.mk H
              clear H
              go_upto_region 11 with (first | ((with_reducible refine gate_callee (f := 18) rfl ?_); refine goesL_ (some 39) rfl rfl Try.func18 (by kernel_rfl) rfl #[.slice A0 l0.length c0, .int .i64 (wrap64 (1 + (Int.tmod (wrap64 (a1)) 3))), .int .i64 0] rfl (by (try simp only [List.map_toArray, List.map_cons, List.map_nil]); first | done | rfl | (simp only [List.length_drop, List.length_take]; rfl)) ?_; (with_reducible refine (expand_Choose.calls k2 _ _ l0 (wrap64 (1 + (Int.tmod (wrap64 (a1)) 3))) 0 t202 _ ?side1 ?side2 A13.out).mono ?_); (case side1 => repeat (first | exact (Kd.V_reads' HO_0.out).2.2 | (with_reducible refine Kd.C_alloc ?_ _) | (with_reducible refine Kd.C_drewN ?_ _) | (with_reducible refine Kd.C_drew ?_))); (case side2 => exact (Kd.V_reads' HO_0.out).2.1); rintro e w16 ⟨rfl, hb⟩; refine ⟨_, rfl, ?_⟩; have n0_ := Aside0.mk (Kd.V_below (by (with_reducible repeat (first | apply Kd.V_alloc | apply Kd.V_drewN | apply Kd.V_drew)); exact HO_0.out) hb); have n1_ := Aside0.mk (Kd.N_below (by (with_reducible repeat (first | apply Kd.N_alloc | apply Kd.N_drewN | apply Kd.N_drew)); exact HO_6.out) hb); have n2_ := Aside0.mk (below_step (by repeat (first | (with_reducible first | exact HB.out | apply below_alloc | apply pw_below_drewN | apply below_drew1) | exact HB.out)) hb); clear HO_0; clear HO_6; clear HB; have HO_0 := n0_; have HO_6 := n1_; have HB := n2_; clear n0_ n1_ n2_; (try clear hb); (try clear hb2); (try clear hk); (try clear hi); obtain ⟨Ao17, co17, eo17⟩ := Kd.N_slice HO_6.out; subst eo17) | ((with_reducible refine gate_callee (f := 18) rfl ?_); refine goesL_ (some 42) rfl rfl Try.func18 (by kernel_rfl) rfl #[.slice Ao17 x6_2.length co17, .int .i64 (wrap64 (1 + (Int.tmod (wrap64 (a1)) 3))), .int .i64 0] rfl (by (try simp only [List.map_toArray, List.map_cons, List.map_nil]); first | done | rfl | (simp only [List.length_drop, List.length_take]; rfl)) ?_; (with_reducible refine (expand_Choose.calls k2 _ _ x6_2 (wrap64 (1 + (Int.tmod (wrap64 (a1)) 3))) 0 t203 _ ?side1 ?side2 A14.out).mono ?_); (case side1 => repeat (first | exact (Kd.N_reads' HO_6.out).2.2 | (with_reducible refine Kd.C_alloc ?_ _) | (with_reducible refine Kd.C_drewN ?_ _) | (with_reducible refine Kd.C_drew ?_))); (case side2 => exact (Kd.N_reads' HO_6.out).2.1); rintro e w18 ⟨rfl, hb⟩; refine ⟨_, rfl, ?_⟩; have n0_ := Aside0.mk (Kd.V_below (by (with_reducible repeat (first | apply Kd.V_alloc | apply Kd.V_drewN | apply Kd.V_drew)); exact HO_0.out) hb); have n1_ := Aside0.mk (Kd.N_below (by (with_reducible repeat (first | apply Kd.N_alloc | apply Kd.N_drewN | apply Kd.N_drew)); exact HO_6.out) hb); have n2_ := Aside0.mk (below_step (by repeat (first | (with_reducible first | exact HB.out | apply below_alloc | apply pw_below_drewN | apply below_drew1) | exact HB.out)) hb); clear HO_0; clear HO_6; clear HB; have HO_0 := n0_; have HO_6 := n1_; have HB := n2_; clear n0_ n1_ n2_; (try clear hb); (try clear hb2); (try clear hk); (try clear hi)))
              (try simp only [Act.put, List.setIfInBounds_toArray, List.set_cons_zero, List.set_cons_succ])
              go_cut [60] (fun v60 wc => ∃ (kq : Nat) (x60_14 : Bool), v60 = .bool x60_14 ∧ Aside0 (triremelaw21_ExpandOrder.j2 kq l0 (wrap64 (1 + (Int.tmod (wrap64 (a1)) 3))) x6_2 t202 t203 x60_14 = some r) ∧ Aside0 (kq ≤ k2) ∧ Aside0 (Kd.V k27 27 wc w.heap.size (fun k_ => (P0_ k_ ∨ w.heap.size ≤ k_) ∧ some k_ ≠ ((.slice Ao17 x6_2.length co17) : Value).ownBlock) (.slice A0 l0.length c0) l0) ∧ Aside0 (Kd.N k27 27 wc w.heap.size (fun k_ => (P0_ k_ ∨ w.heap.size ≤ k_)) (.slice Ao17 x6_2.length co17) x6_2) ∧ Aside0 (Below w.heap.size w wc))
              case first =>
                have H := HC15.out
                clear HC15
                by_cases c19 : t202 < 0
                · rw [if_pos c19] at H
                  have c19b0 : decide (t202 < 0) = true := decide_eq_true c19
                  clear c19
                  (first | rw [c19b0] | (simp only [i64_w, i32_w]; rw [c19b0]) | skip)
                  have H' := Aside0.mk H
                  clear H
                  go_wp2
                  go_meet
                  case rel => exact ⟨_, (true), (by first | rfl | (simp; done) | (simp [*]; done)), H', ⟨by have := HJ2.out; have := HK2.out; first | omega | exact Nat.le_refl _⟩, ⟨by (with_reducible repeat (first | apply Kd.V_alloc | apply Kd.V_drewN | apply Kd.V_drew)); exact HO_0.out⟩, ⟨by (with_reducible repeat (first | apply Kd.N_alloc | apply Kd.N_drewN | apply Kd.N_drew)); exact HO_6.out⟩, ⟨by repeat (first | (with_reducible first | exact HB.out | apply below_alloc | apply pw_below_drewN | apply below_drew1) | exact HB.out)⟩⟩
                · rw [if_neg c19] at H
                  have c19b0 : decide (t202 < 0) = false := decide_eq_false c19
                  clear c19
                  (first | rw [c19b0] | (simp only [i64_w, i32_w]; rw [c19b0]) | skip)
                  by_cases c20 : t202 ≥ (l0.length : Int)
                  · rw [if_pos c20] at H
                    have c20b0 : decide ((l0.length : Int) ≤ t202) = true := decide_eq_true c20
                    clear c20
                    have H' := Aside0.mk H
                    clear H
                    go_wp2
                    go_meet
                    case rel => exact ⟨_, (true), (by first | rfl | (simp; done) | (simp [*]; done)), H', ⟨by have := HJ2.out; have := HK2.out; first | omega | exact Nat.le_refl _⟩, ⟨by (with_reducible repeat (first | apply Kd.V_alloc | apply Kd.V_drewN | apply Kd.V_drew)); exact HO_0.out⟩, ⟨by (with_reducible repeat (first | apply Kd.N_alloc | apply Kd.N_drewN | apply Kd.N_drew)); exact HO_6.out⟩, ⟨by repeat (first | (with_reducible first | exact HB.out | apply below_alloc | apply pw_below_drewN | apply below_drew1) | exact HB.out)⟩⟩
                  · rw [if_neg c20] at H
                    have c20b0 : decide ((l0.length : Int) ≤ t202) = false := decide_eq_false c20
                    clear c20
                    by_cases c21 : t203 < 0
                    · rw [if_pos c21] at H
                      have c21b0 : decide (t203 < 0) = true := decide_eq_true c21
                      clear c21
                      have H' := Aside0.mk H
                      clear H
                      go_wp2
                      go_meet
                      case rel => exact ⟨_, (true), (by first | rfl | (simp; done) | (simp [*]; done)), H', ⟨by have := HJ2.out; have := HK2.out; first | omega | exact Nat.le_refl _⟩, ⟨by (with_reducible repeat (first | apply Kd.V_alloc | apply Kd.V_drewN | apply Kd.V_drew)); exact HO_0.out⟩, ⟨by (with_reducible repeat (first | apply Kd.N_alloc | apply Kd.N_drewN | apply Kd.N_drew)); exact HO_6.out⟩, ⟨by repeat (first | (with_reducible first | exact HB.out | apply below_alloc | apply pw_below_drewN | apply below_drew1) | exact HB.out)⟩⟩
                    · rw [if_neg c21] at H
                      have c21b0 : decide (t203 < 0) = false := decide_eq_false c21
                      clear c21
                      have H' := Aside0.mk H
                      clear H
                      go_wp2
                      go_meet
                      case rel => exact ⟨_, (decide (t203 ≥ (l0.length : Int))), (by first | rfl | (simp; done) | (simp [*]; done)), H', ⟨by have := HJ2.out; have := HK2.out; first | omega | exact Nat.le_refl _⟩, ⟨by (with_reducible repeat (first | apply Kd.V_alloc | apply Kd.V_drewN | apply Kd.V_drew)); exact HO_0.out⟩, ⟨by (with_reducible repeat (first | apply Kd.N_alloc | apply Kd.N_drewN | apply Kd.N_drew)); exact HO_6.out⟩, ⟨by repeat (first | (with_reducible first | exact HB.out | apply below_alloc | apply pw_below_drewN | apply below_drew1) | exact HB.out)⟩⟩
              case rest =>
                clear HC15
                try clear c1
                try clear p1
                try clear q1
                try clear hx1
                try clear c2
                try clear p2
                try clear c4
                try clear c4b0
                try clear c4b1
                try clear c5
                try clear p6
                try clear c8
                try clear c8b0
                try clear c9
                try clear c9b0
                try clear c10
                try clear c10b0
                try clear c11
                try clear c15
                try clear c18
                try clear c19
                try clear c19b0
                try clear p19
                try clear q19
                try clear hx19
                try clear c20
                try clear c20b0
                try clear c21
                try clear c21b0
                try clear hx198_0
                try clear hx198_1
                try clear hx198_2
                try clear hx198_3
                try clear hx198_4
                try clear hx198_5
                try clear p198
                try clear p2
                try clear p6
                try clear q198
                obtain ⟨kq, x60_14, rfl, HA, HJ14, HO_0, HO_6, HB⟩ := hcut
                cases kq with
                | zero => exact absurd HA.out (by simp [triremelaw21_ExpandOrder.j2])
                | succ kj14 =>
                  have H := HA.out
                  clear HA
                  simp only [triremelaw21_ExpandOrder.j2] at H
                  by_cases c22 : x60_14 = true
                  · subst c22
                    have H1 : (some false) = some r := by rw [if_pos rfl] at H; exact H
                    clear H
                    have H := H1
                    clear H1
                    obtain rfl := Option.some.inj H
                    go_wp2
                    go_ret
                    exact ⟨by first | rfl | (simp [errW_none, errW_some] <;> rfl) | (simp [*, errW_none, errW_some] <;> rfl), by repeat (first | (with_reducible first | exact HB.out | apply below_alloc | apply pw_below_drewN | apply below_drew1) | exact HB.out)⟩
                  · replace c22 := Bool.eq_false_iff.mpr c22
                    subst c22
                    have H1 : (if 0 ≤ t202 then (if t202 < (l0.length : Int) then (if 0 ≤ t203 then (if t203 < (x6_2.length : Int) then ((expand_Better.f kj14 ((rd_T27 l0 t202).f0) ((rd_T27 l0 t202).f1) ((rd_T27 l0 t202).f2) ((rd_T27 l0 t202).f3) ((rd_T27 l0 t202).f4) ((rd_T27 l0 t202).f5) ((rd_T27 x6_2 t203).f0) ((rd_T27 x6_2 t203).f1) ((rd_T27 x6_2 t203).f2) ((rd_T27 x6_2 t203).f3) ((rd_T27 x6_2 t203).f4) ((rd_T27 x6_2 t203).f5) (wrap64 (1 + (Int.tmod (wrap64 (a1)) 3)))).bind fun t206 => (if t206 = true then (some false) else ((expand_Better.f kj14 ((rd_T27 x6_2 t203).f0) ((rd_T27 x6_2 t203).f1) ((rd_T27 x6_2 t203).f2) ((rd_T27 x6_2 t203).f3) ((rd_T27 x6_2 t203).f4) ((rd_T27 x6_2 t203).f5) ((rd_T27 l0 t202).f0) ((rd_T27 l0 t202).f1) ((rd_T27 l0 t202).f2) ((rd_T27 l0 t202).f3) ((rd_T27 l0 t202).f4) ((rd_T27 l0 t202).f5) (wrap64 (1 + (Int.tmod (wrap64 (a1)) 3)))).bind fun t209 => (if t209 = true then (some false) else ((triremelaw21_known.f kj14).bind fun t210 => (some t210)))))) else (none)) else (none)) else (none)) else (none)) = some r := by rw [if_neg (show ¬ (false = true) by decide)] at H; exact H
                    clear H
                    have H := H1
                    clear H1
                    by_cases c23 : 0 ≤ t202
                    · rw [if_pos c23] at H
                      have c23b0 : decide (0 ≤ t202) = true := decide_eq_true c23
                      clear c23
                      by_cases c24 : t202 < (l0.length : Int)
                      · rw [if_pos c24] at H
                        have c24b0 : decide (t202 < (l0.length : Int)) = true := decide_eq_true c24
                        clear c24
                        by_cases c25 : 0 ≤ t203
                        · rw [if_pos c25] at H
                          have c25b0 : decide (0 ≤ t203) = true := decide_eq_true c25
                          clear c25
                          by_cases c26 : t203 < (x6_2.length : Int)
                          · rw [if_pos c26] at H
                            have c26b0 : decide (t203 < (x6_2.length : Int)) = true := decide_eq_true c26
                            clear c26
                            replace H := Option.bind_eq_some_iff.mp H
                            obtain ⟨t206, A270, H⟩ := H
                            replace H : (if t206 = true then (some false) else ((expand_Better.f kj14 ((rd_T27 x6_2 t203).f0) ((rd_T27 x6_2 t203).f1) ((rd_T27 x6_2 t203).f2) ((rd_T27 x6_2 t203).f3) ((rd_T27 x6_2 t203).f4) ((rd_T27 x6_2 t203).f5) ((rd_T27 l0 t202).f0) ((rd_T27 l0 t202).f1) ((rd_T27 l0 t202).f2) ((rd_T27 l0 t202).f3) ((rd_T27 l0 t202).f4) ((rd_T27 l0 t202).f5) (wrap64 (1 + (Int.tmod (wrap64 (a1)) 3)))).bind fun t209 => (if t209 = true then (some false) else ((triremelaw21_known.f kj14).bind fun t210 => (some t210))))) = some r := H
                            have A27 := Aside0.mk A270
                            clear A270
                            by_cases c28 : t206 = true
                            · subst c28
                              have H1 : (some false) = some r := by rw [if_pos rfl] at H; exact H
                              clear H
                              have H := H1
                              clear H1
                              obtain rfl := Option.some.inj H
                              try go_wp2
                              have n0_ := Aside0.mk (Kd.V_drew HO_0.out)
                              have n1_ := Aside0.mk (Kd.N_drew HO_6.out)
                              have n2_ := Aside0.mk (below_drew1 HB.out)
                              clear HO_0
                              clear HO_6
                              clear HB
                              have HO_0 := n0_
                              have HO_6 := n1_
                              have HB := n2_
                              clear n0_ n1_ n2_
                              have p204 : 0 ≤ (t202 : Int) := of_decide_eq_true (by first | (with_reducible assumption) | assumption)
                              have q204 : t202 < (l0.length : Int) := of_decide_eq_true (by first | (with_reducible assumption) | assumption)
                              obtain ⟨ad204, A204_2, c204_2, e204, hx204_0, hx204_1, hx204_2, hx204_3, hx204_4, hx204_5, hl204_2, hi204_2⟩ := at_T27 (Kd.V_reads' HO_0.out).2.2 t202 p204 q204
                              cases e204
                              obtain ⟨ce204, hce204, hMe204, hcc204⟩ := Kd.V_get HO_0.out z27 t202 p204 (by first | exact q204 | exact of_decide_eq_true (by first | (with_reducible assumption) | assumption) | (have e_ := (Kd.V_reads' HO_0.out).1; omega))
                              obtain ⟨ua204_2, uc204_2, rfl, ul204_2, ge204_2⟩ := k27_openF hMe204
                              have hv204_2 := hcc204 2 _ rfl
                              rw [add_field _ _ 2 (by omega)] at hv204_2
                              replace hv204_2 := Option.some.inj (hv204_2.symm.trans hx204_2)
                              injection hv204_2 with hva_ hvn_ hvc_
                              rw [hva_] at ge204_2
                              rw [hvc_] at ul204_2
                              have HL204_2 := Aside0.mk (show Kd.V Kd.string 9 _ w.heap.size _ _ ((rd_T27 l0 t202).f2) from Kd.V_mk ul204_2 ge204_2)
                              clear hva_ hvn_ hvc_ ge204_2 ul204_2
                              clear hcc204 hce204
                              have HR204_2 := Aside0.mk hi204_2
                              have HC204_2 := Aside0.mk hl204_2
                              clear hi204_2 hl204_2
                              replace p204 := eq_true p204
                              replace q204 := eq_true q204
                              have p205 : 0 ≤ (t203 : Int) := of_decide_eq_true (by first | (with_reducible assumption) | assumption)
                              have q205 : t203 < (x6_2.length : Int) := of_decide_eq_true (by first | (with_reducible assumption) | assumption)
                              obtain ⟨ad205, A205_2, c205_2, e205, hx205_0, hx205_1, hx205_2, hx205_3, hx205_4, hx205_5, hl205_2, hi205_2⟩ := at_T27 (Kd.N_reads' HO_6.out).2.2 t203 p205 q205
                              cases e205
                              obtain ⟨ce205, hce205, hMe205, hcc205⟩ := Kd.N_get HO_6.out z27 t203 p205 (by first | exact q205 | exact of_decide_eq_true (by first | (with_reducible assumption) | assumption) | (have e_ := (Kd.N_reads' HO_6.out).1; omega))
                              obtain ⟨ua205_2, uc205_2, rfl, ul205_2, ge205_2⟩ := k27_openF hMe205
                              have hv205_2 := hcc205 2 _ rfl
                              rw [add_field _ _ 2 (by omega)] at hv205_2
                              replace hv205_2 := Option.some.inj (hv205_2.symm.trans hx205_2)
                              injection hv205_2 with hva_ hvn_ hvc_
                              rw [hva_] at ge205_2
                              rw [hvc_] at ul205_2
                              have HL205_2 := Aside0.mk (show Kd.V Kd.string 9 _ w.heap.size _ _ ((rd_T27 x6_2 t203).f2) from Kd.V_mk ul205_2 ge205_2)
                              clear hva_ hvn_ hvc_ ge205_2 ul205_2
                              clear hcc205 hce205
                              have HR205_2 := Aside0.mk hi205_2
                              have HC205_2 := Aside0.mk hl205_2
                              clear hi205_2 hl205_2
                              replace p205 := eq_true p205
                              replace q205 := eq_true q205
                              refine start_ (n := 28) (S := fun w' => w'.cell? (ad204.add ((t202).toNat * 6)) = some (.string ((rd_T27 l0 t202).f0)) ∧ w'.cell? ⟨(ad204.add ((t202).toNat * 6)).block, (ad204.add ((t202).toNat * 6)).off + 1, none⟩ = some (.int .i64 ((rd_T27 l0 t202).f1)) ∧ w'.cell? ⟨(ad204.add ((t202).toNat * 6)).block, (ad204.add ((t202).toNat * 6)).off + 2, none⟩ = some (.slice A204_2 ((rd_T27 l0 t202).f2).length c204_2) ∧ w'.cell? ⟨(ad204.add ((t202).toNat * 6)).block, (ad204.add ((t202).toNat * 6)).off + 3, none⟩ = some (.int .i64 ((rd_T27 l0 t202).f3)) ∧ w'.cell? ⟨(ad204.add ((t202).toNat * 6)).block, (ad204.add ((t202).toNat * 6)).off + 4, none⟩ = some (.int .i64 ((rd_T27 l0 t202).f4)) ∧ w'.cell? ⟨(ad204.add ((t202).toNat * 6)).block, (ad204.add ((t202).toNat * 6)).off + 5, none⟩ = some (.int .i64 ((rd_T27 l0 t202).f5)) ∧ w'.cell? (ad205.add ((t203).toNat * 6)) = some (.string ((rd_T27 x6_2 t203).f0)) ∧ w'.cell? ⟨(ad205.add ((t203).toNat * 6)).block, (ad205.add ((t203).toNat * 6)).off + 1, none⟩ = some (.int .i64 ((rd_T27 x6_2 t203).f1)) ∧ w'.cell? ⟨(ad205.add ((t203).toNat * 6)).block, (ad205.add ((t203).toNat * 6)).off + 2, none⟩ = some (.slice A205_2 ((rd_T27 x6_2 t203).f2).length c205_2) ∧ w'.cell? ⟨(ad205.add ((t203).toNat * 6)).block, (ad205.add ((t203).toNat * 6)).off + 3, none⟩ = some (.int .i64 ((rd_T27 x6_2 t203).f3)) ∧ w'.cell? ⟨(ad205.add ((t203).toNat * 6)).block, (ad205.add ((t203).toNat * 6)).off + 4, none⟩ = some (.int .i64 ((rd_T27 x6_2 t203).f4)) ∧ w'.cell? ⟨(ad205.add ((t203).toNat * 6)).block, (ad205.add ((t203).toNat * 6)).off + 5, none⟩ = some (.int .i64 ((rd_T27 x6_2 t203).f5))) (ds := []) #[false, false, false, false, false, false, false, false, false, false, false, false, false, false, false, false, false, false, false, false, false, false, false, false, false, false, false, false] (by kernel_rfl) rfl rfl ⟨hx204_0, hx204_1, hx204_2, hx204_3, hx204_4, hx204_5, hx205_0, hx205_1, hx205_2, hx205_3, hx205_4, hx205_5⟩ (fun hHeld => ?_); refine with_tabW triremelaw21_ExpandOrder.tab13 triremelaw21_ExpandOrder.bits13 (fun HT_ HW_ => ?_)
                              generalize wc.drew = w29 at HO_0 HO_6 HB HL204_2 HL205_2 HR204_2 HR205_2 hx204_0 hx204_1 hx204_2 hx204_3 hx204_4 hx204_5 hx205_0 hx205_1 hx205_2 hx205_3 hx205_4 hx205_5 hHeld ⊢
                              refine pure_ (i := 0) (N := some 61) (v := ?_) (a' := ?_) #[true, false, false, false, false, false, false, false, false, false, false, false, false, false, false, false, false, false, false, false, false, false, false, false, false, false, false, false] rfl rfl (any_of HT_.out (by kernel_rfl)) (fun _ _ _ h => h) (Or.inl ⟨by rfl, ?_⟩) ?_ ?_
                              rotate_left
                              · intro w'
                                go_simp
                                with_reducible rfl
                              rotate_left
                              · simp only [Act.put, List.setIfInBounds_toArray, List.set_cons_zero, List.set_cons_succ, i64_w, i32_w]
                                rfl
                              refine pure_ (i := 1) (N := some 62) (v := ?_) (a' := ?_) #[true, true, false, false, false, false, false, false, false, false, false, false, false, false, false, false, false, false, false, false, false, false, false, false, false, false, false, false] rfl rfl (any_of HT_.out (by kernel_rfl)) (fun _ _ _ h => h) (Or.inl ⟨by rfl, ?_⟩) ?_ ?_
                              rotate_left
                              · intro w'
                                go_simp
                                with_reducible rfl
                              rotate_left
                              · simp only [Act.put, List.setIfInBounds_toArray, List.set_cons_zero, List.set_cons_succ, i64_w, i32_w]
                                rfl
                              refine pure_ (i := 2) (N := some 63) (v := ?_) (a' := ?_) #[true, true, true, false, false, false, false, false, false, false, false, false, false, false, false, false, false, false, false, false, false, false, false, false, false, false, false, false] rfl rfl (any_of HT_.out (by kernel_rfl)) (fun _ _ _ h => h) (Or.inl ⟨by rfl, ?_⟩) ?_ ?_
                              rotate_left
                              · intro w'
                                go_simp
                                with_reducible rfl
                              rotate_left
                              · simp only [Act.put, List.setIfInBounds_toArray, List.set_cons_zero, List.set_cons_succ, i64_w, i32_w]
                                rfl
                              refine pure_ (i := 4) (N := some 65) (v := ?_) (a' := ?_) #[true, true, true, false, true, false, false, false, false, false, false, false, false, false, false, false, false, false, false, false, false, false, false, false, false, false, false, false] rfl rfl (any_of HT_.out (by kernel_rfl)) (fun _ _ _ h => h) (Or.inl ⟨by rfl, ?_⟩) ?_ ?_
                              rotate_left
                              · intro w'
                                go_simp
                                with_reducible rfl
                              rotate_left
                              · simp only [Act.put, List.setIfInBounds_toArray, List.set_cons_zero, List.set_cons_succ, i64_w, i32_w]
                                rfl
                              refine pure_ (i := 5) (N := some 66) (v := ?_) (a' := ?_) #[true, true, true, false, true, true, false, false, false, false, false, false, false, false, false, false, false, false, false, false, false, false, false, false, false, false, false, false] rfl rfl (any_of HT_.out (by kernel_rfl)) (fun _ _ _ h => h) (Or.inl ⟨by rfl, ?_⟩) ?_ ?_
                              rotate_left
                              · intro w'
                                go_simp
                                with_reducible rfl
                              rotate_left
                              · simp only [Act.put, List.setIfInBounds_toArray, List.set_cons_zero, List.set_cons_succ, i64_w, i32_w]
                                rfl
                              refine pure_ (i := 6) (N := some 67) (v := ?_) (a' := ?_) #[true, true, true, false, true, true, true, false, false, false, false, false, false, false, false, false, false, false, false, false, false, false, false, false, false, false, false, false] rfl rfl (any_of HT_.out (by kernel_rfl)) (fun _ _ _ h => h) (Or.inl ⟨by rfl, ?_⟩) ?_ ?_
                              rotate_left
                              · intro w'
                                go_simp
                                with_reducible rfl
                              rotate_left
                              · simp only [Act.put, List.setIfInBounds_toArray, List.set_cons_zero, List.set_cons_succ, i64_w, i32_w]
                                rfl
                              refine pure_ (i := 8) (N := some 69) (v := ?_) (a' := ?_) #[true, true, true, false, true, true, true, false, true, false, false, false, false, false, false, false, false, false, false, false, false, false, false, false, false, false, false, false] rfl rfl (any_of HT_.out (by kernel_rfl)) (fun _ _ _ h => h) (Or.inl ⟨by rfl, ?_⟩) ?_ ?_
                              rotate_left
                              · intro w'
                                go_simp
                                with_reducible rfl
                              rotate_left
                              · simp only [Act.put, List.setIfInBounds_toArray, List.set_cons_zero, List.set_cons_succ, i64_w, i32_w]
                                rfl
                              refine take_ (i := 3) (N := some 64) (v := ?_) (a' := ?_) #[true, true, true, true, true, true, true, false, true, false, false, false, false, false, false, false, false, false, false, false, false, false, false, false, false, false, false, false] rfl rfl (take_ofW HT_.out HW_.out (by kernel_rfl)) (fun _ _ _ h => h) (Or.inl ⟨by rfl, ?_⟩) hHeld ?_ ?_
                              rotate_left
                              · rintro w' ⟨s0, s1, s2, s3, s4, s5, s6, s7, s8, s9, s10, s11⟩
                                go_simp
                                with_reducible rfl
                              rotate_left
                              · simp only [Act.put, List.setIfInBounds_toArray, List.set_cons_zero, List.set_cons_succ, i64_w, i32_w]
                                rfl
                              refine take_ (i := 7) (N := some 68) (v := ?_) (a' := ?_) #[true, true, true, true, true, true, true, true, true, false, false, false, false, false, false, false, false, false, false, false, false, false, false, false, false, false, false, false] rfl rfl (take_ofW HT_.out HW_.out (by kernel_rfl)) (fun _ _ _ h => h) (Or.inl ⟨by rfl, ?_⟩) hHeld ?_ ?_
                              rotate_left
                              · rintro w' ⟨s0, s1, s2, s3, s4, s5, s6, s7, s8, s9, s10, s11⟩
                                go_simp
                                with_reducible rfl
                              rotate_left
                              · simp only [Act.put, List.setIfInBounds_toArray, List.set_cons_zero, List.set_cons_succ, i64_w, i32_w]
                                rfl
                              refine one_ (i := 9) (N := some 70) #[true, true, true, true, true, true, true, true, true, true, false, false, false, false, false, false, false, false, false, false, false, false, false, false, false, false, false, false] rfl rfl (one_of HT_.out (by kernel_rfl)) (by decide) (fun K hK => ?_)
                              refine goes_ Try.func16 (by kernel_rfl) rfl #[.agg #[.string ((rd_T27 l0 t202).f0), .int .i64 ((rd_T27 l0 t202).f1), .slice A204_2 ((rd_T27 l0 t202).f2).length c204_2, .int .i64 ((rd_T27 l0 t202).f3), .int .i64 ((rd_T27 l0 t202).f4), .int .i64 ((rd_T27 l0 t202).f5)], .agg #[.string ((rd_T27 x6_2 t203).f0), .int .i64 ((rd_T27 x6_2 t203).f1), .slice A205_2 ((rd_T27 x6_2 t203).f2).length c205_2, .int .i64 ((rd_T27 x6_2 t203).f3), .int .i64 ((rd_T27 x6_2 t203).f4), .int .i64 ((rd_T27 x6_2 t203).f5)], .int .i64 (wrap64 (1 + (Int.tmod (wrap64 (a1)) 3)))] (by rfl) rfl rfl (by (try simp only [List.map_toArray, List.map_cons, List.map_nil]); first | done | rfl | (simp only [List.length_drop, List.length_take]; rfl)) ?_
                              with_reducible refine (expand_Better.calls kj14 ((rd_T27 l0 t202).f0) ((rd_T27 l0 t202).f1) _ _ ((rd_T27 l0 t202).f2) ((rd_T27 l0 t202).f3) ((rd_T27 l0 t202).f4) ((rd_T27 l0 t202).f5) ((rd_T27 x6_2 t203).f0) ((rd_T27 x6_2 t203).f1) _ _ ((rd_T27 x6_2 t203).f2) ((rd_T27 x6_2 t203).f3) ((rd_T27 x6_2 t203).f4) ((rd_T27 x6_2 t203).f5) (wrap64 (1 + (Int.tmod (wrap64 (a1)) 3))) true _ ?side1 ?side2 ?side3 ?side4 A27.out).mono ?_
                              (case side1 => repeat (first | exact (by repeat (first | (with_reducible exact HR204_2.out) | (with_reducible refine Kd.C_alloc ?_ _) | (with_reducible refine Kd.C_drewN ?_ _) | (with_reducible refine Kd.C_drew ?_) | exact HR204_2.out)) | (with_reducible refine Kd.C_alloc ?_ _) | (with_reducible refine Kd.C_drewN ?_ _) | (with_reducible refine Kd.C_drew ?_)))
                              (case side2 => exact HC204_2.out)
                              (case side3 => repeat (first | exact (by repeat (first | (with_reducible exact HR205_2.out) | (with_reducible refine Kd.C_alloc ?_ _) | (with_reducible refine Kd.C_drewN ?_ _) | (with_reducible refine Kd.C_drew ?_) | exact HR205_2.out)) | (with_reducible refine Kd.C_alloc ?_ _) | (with_reducible refine Kd.C_drewN ?_ _) | (with_reducible refine Kd.C_drew ?_)))
                              (case side4 => exact HC205_2.out)
                              rintro e w30 ⟨rfl, hb⟩
                              have HS0_ := (hb.cell (World.block_lt_of_cell? _ _ (hHeld.1))).trans (hHeld.1)
                              have HS1_ := (hb.cell (World.block_lt_of_cell? _ _ (hHeld.2.1))).trans (hHeld.2.1)
                              have HS2_ := (hb.cell (World.block_lt_of_cell? _ _ (hHeld.2.2.1))).trans (hHeld.2.2.1)
                              have HS3_ := (hb.cell (World.block_lt_of_cell? _ _ (hHeld.2.2.2.1))).trans (hHeld.2.2.2.1)
                              have HS4_ := (hb.cell (World.block_lt_of_cell? _ _ (hHeld.2.2.2.2.1))).trans (hHeld.2.2.2.2.1)
                              have HS5_ := (hb.cell (World.block_lt_of_cell? _ _ (hHeld.2.2.2.2.2.1))).trans (hHeld.2.2.2.2.2.1)
                              have HS6_ := (hb.cell (World.block_lt_of_cell? _ _ (hHeld.2.2.2.2.2.2.1))).trans (hHeld.2.2.2.2.2.2.1)
                              have HS7_ := (hb.cell (World.block_lt_of_cell? _ _ (hHeld.2.2.2.2.2.2.2.1))).trans (hHeld.2.2.2.2.2.2.2.1)
                              have HS8_ := (hb.cell (World.block_lt_of_cell? _ _ (hHeld.2.2.2.2.2.2.2.2.1))).trans (hHeld.2.2.2.2.2.2.2.2.1)
                              have HS9_ := (hb.cell (World.block_lt_of_cell? _ _ (hHeld.2.2.2.2.2.2.2.2.2.1))).trans (hHeld.2.2.2.2.2.2.2.2.2.1)
                              have HS10_ := (hb.cell (World.block_lt_of_cell? _ _ (hHeld.2.2.2.2.2.2.2.2.2.2.1))).trans (hHeld.2.2.2.2.2.2.2.2.2.2.1)
                              have HS11_ := (hb.cell (World.block_lt_of_cell? _ _ (hHeld.2.2.2.2.2.2.2.2.2.2.2))).trans (hHeld.2.2.2.2.2.2.2.2.2.2.2)
                              refine ⟨_, rfl, ?_⟩
                              have n0_ := Aside0.mk (Kd.V_below (by (with_reducible repeat (first | apply Kd.V_alloc | apply Kd.V_drewN | apply Kd.V_drew)); exact HO_0.out) hb)
                              have n1_ := Aside0.mk (Kd.N_below (by (with_reducible repeat (first | apply Kd.N_alloc | apply Kd.N_drewN | apply Kd.N_drew)); exact HO_6.out) hb)
                              have n2_ := Aside0.mk (Kd.V_below (by (with_reducible repeat (first | apply Kd.V_alloc | apply Kd.V_drewN | apply Kd.V_drew)); exact HL204_2.out) hb)
                              have n3_ := Aside0.mk (Kd.V_below (by (with_reducible repeat (first | apply Kd.V_alloc | apply Kd.V_drewN | apply Kd.V_drew)); exact HL205_2.out) hb)
                              have n4_ := Aside0.mk (Kd.C_below (by repeat (first | (with_reducible exact HR204_2.out) | (with_reducible refine Kd.C_alloc ?_ _) | (with_reducible refine Kd.C_drewN ?_ _) | (with_reducible refine Kd.C_drew ?_) | exact HR204_2.out)) hb)
                              have n5_ := Aside0.mk (Kd.C_below (by repeat (first | (with_reducible exact HR205_2.out) | (with_reducible refine Kd.C_alloc ?_ _) | (with_reducible refine Kd.C_drewN ?_ _) | (with_reducible refine Kd.C_drew ?_) | exact HR205_2.out)) hb)
                              have n6_ := Aside0.mk (below_step (by repeat (first | (with_reducible first | exact HB.out | apply below_alloc | apply pw_below_drewN | apply below_drew1) | exact HB.out)) hb)
                              clear HO_0
                              clear HO_6
                              clear HL204_2
                              clear HL205_2
                              clear HR204_2
                              clear HR205_2
                              clear HB
                              have HO_0 := n0_
                              have HO_6 := n1_
                              have HL204_2 := n2_
                              have HL205_2 := n3_
                              have HR204_2 := n4_
                              have HR205_2 := n5_
                              have HB := n6_
                              clear n0_ n1_ n2_ n3_ n4_ n5_ n6_
                              (try clear hb)
                              (try clear hb2)
                              (try clear hk)
                              (try clear hi)
                              refine hK.out _ _ ⟨HS0_, HS1_, HS2_, HS3_, HS4_, HS5_, HS6_, HS7_, HS8_, HS9_, HS10_, HS11_⟩ (fun hHeld => ?_)
                              clear hK K
                              refine norm_ (a' := ?_) ?_ ?_
                              rotate_left
                              · show Act.put _ (some 70) _ = _
                                simp only [Act.put, List.setIfInBounds_toArray, List.set_cons_zero, List.set_cons_succ, i64_w, i32_w]
                                rfl
                              refine pure_ (i := 10) (N := some 71) (v := ?_) (a' := ?_) #[true, true, true, true, true, true, true, true, true, true, true, false, false, false, false, false, false, false, false, false, false, false, false, false, false, false, false, false] rfl rfl (any_of HT_.out (by kernel_rfl)) (fun _ _ _ h => h) (Or.inl ⟨by rfl, ?_⟩) ?_ ?_
                              rotate_left
                              · intro w'
                                go_simp
                                with_reducible rfl
                              rotate_left
                              · simp only [Act.put, List.setIfInBounds_toArray, List.set_cons_zero, List.set_cons_succ, i64_w, i32_w]
                                rfl
                              refine pure_ (i := 11) (N := some 72) (v := ?_) (a' := ?_) #[true, true, true, true, true, true, true, true, true, true, true, true, false, false, false, false, false, false, false, false, false, false, false, false, false, false, false, false] rfl rfl (any_of HT_.out (by kernel_rfl)) (fun _ _ _ h => h) (Or.inl ⟨by rfl, ?_⟩) ?_ ?_
                              rotate_left
                              · intro w'
                                go_simp
                                with_reducible rfl
                              rotate_left
                              · simp only [Act.put, List.setIfInBounds_toArray, List.set_cons_zero, List.set_cons_succ, i64_w, i32_w]
                                rfl
                              refine pure_ (i := 12) (N := some 73) (v := undef) (a' := ?_) #[true, true, true, true, true, true, true, true, true, true, true, true, true, false, false, false, false, false, false, false, false, false, false, false, false, false, false, false] rfl rfl (any_of HT_.out (by kernel_rfl)) (fun _ _ _ h => h) (Or.inr ⟨by rfl, rfl⟩) ?_ ?_
                              rotate_left
                              · simp only [Act.put, List.setIfInBounds_toArray, List.set_cons_zero, List.set_cons_succ, i64_w, i32_w]
                                rfl
                              refine pure_ (i := 13) (N := some 74) (v := undef) (a' := ?_) #[true, true, true, true, true, true, true, true, true, true, true, true, true, true, false, false, false, false, false, false, false, false, false, false, false, false, false, false] rfl rfl (any_of HT_.out (by kernel_rfl)) (fun _ _ _ h => h) (Or.inr ⟨by rfl, rfl⟩) ?_ ?_
                              rotate_left
                              · simp only [Act.put, List.setIfInBounds_toArray, List.set_cons_zero, List.set_cons_succ, i64_w, i32_w]
                                rfl
                              refine pure_ (i := 14) (N := some 75) (v := undef) (a' := ?_) #[true, true, true, true, true, true, true, true, true, true, true, true, true, true, true, false, false, false, false, false, false, false, false, false, false, false, false, false] rfl rfl (any_of HT_.out (by kernel_rfl)) (fun _ _ _ h => h) (Or.inr ⟨by rfl, rfl⟩) ?_ ?_
                              rotate_left
                              · simp only [Act.put, List.setIfInBounds_toArray, List.set_cons_zero, List.set_cons_succ, i64_w, i32_w]
                                rfl
                              refine pure_ (i := 15) (N := some 76) (v := undef) (a' := ?_) #[true, true, true, true, true, true, true, true, true, true, true, true, true, true, true, true, false, false, false, false, false, false, false, false, false, false, false, false] rfl rfl (any_of HT_.out (by kernel_rfl)) (fun _ _ _ h => h) (Or.inr ⟨by rfl, rfl⟩) ?_ ?_
                              rotate_left
                              · simp only [Act.put, List.setIfInBounds_toArray, List.set_cons_zero, List.set_cons_succ, i64_w, i32_w]
                                rfl
                              refine pure_ (i := 16) (N := some 77) (v := undef) (a' := ?_) #[true, true, true, true, true, true, true, true, true, true, true, true, true, true, true, true, true, false, false, false, false, false, false, false, false, false, false, false] rfl rfl (any_of HT_.out (by kernel_rfl)) (fun _ _ _ h => h) (Or.inr ⟨by rfl, rfl⟩) ?_ ?_
                              rotate_left
                              · simp only [Act.put, List.setIfInBounds_toArray, List.set_cons_zero, List.set_cons_succ, i64_w, i32_w]
                                rfl
                              refine pure_ (i := 17) (N := some 78) (v := undef) (a' := ?_) #[true, true, true, true, true, true, true, true, true, true, true, true, true, true, true, true, true, true, false, false, false, false, false, false, false, false, false, false] rfl rfl (any_of HT_.out (by kernel_rfl)) (fun _ _ _ h => h) (Or.inr ⟨by rfl, rfl⟩) ?_ ?_
                              rotate_left
                              · simp only [Act.put, List.setIfInBounds_toArray, List.set_cons_zero, List.set_cons_succ, i64_w, i32_w]
                                rfl
                              refine pure_ (i := 18) (N := some 79) (v := undef) (a' := ?_) #[true, true, true, true, true, true, true, true, true, true, true, true, true, true, true, true, true, true, true, false, false, false, false, false, false, false, false, false] rfl rfl (any_of HT_.out (by kernel_rfl)) (fun _ _ _ h => h) (Or.inr ⟨by rfl, rfl⟩) ?_ ?_
                              rotate_left
                              · simp only [Act.put, List.setIfInBounds_toArray, List.set_cons_zero, List.set_cons_succ, i64_w, i32_w]
                                rfl
                              refine pure_ (i := 19) (N := some 80) (v := undef) (a' := ?_) #[true, true, true, true, true, true, true, true, true, true, true, true, true, true, true, true, true, true, true, true, false, false, false, false, false, false, false, false] rfl rfl (any_of HT_.out (by kernel_rfl)) (fun _ _ _ h => h) (Or.inr ⟨by rfl, rfl⟩) ?_ ?_
                              rotate_left
                              · simp only [Act.put, List.setIfInBounds_toArray, List.set_cons_zero, List.set_cons_succ, i64_w, i32_w]
                                rfl
                              refine pure_ (i := 20) (N := some 81) (v := undef) (a' := ?_) #[true, true, true, true, true, true, true, true, true, true, true, true, true, true, true, true, true, true, true, true, true, false, false, false, false, false, false, false] rfl rfl (any_of HT_.out (by kernel_rfl)) (fun _ _ _ h => h) (Or.inr ⟨by rfl, rfl⟩) ?_ ?_
                              rotate_left
                              · simp only [Act.put, List.setIfInBounds_toArray, List.set_cons_zero, List.set_cons_succ, i64_w, i32_w]
                                rfl
                              refine pure_ (i := 21) (N := some 82) (v := undef) (a' := ?_) #[true, true, true, true, true, true, true, true, true, true, true, true, true, true, true, true, true, true, true, true, true, true, false, false, false, false, false, false] rfl rfl (any_of HT_.out (by kernel_rfl)) (fun _ _ _ h => h) (Or.inr ⟨by rfl, rfl⟩) ?_ ?_
                              rotate_left
                              · simp only [Act.put, List.setIfInBounds_toArray, List.set_cons_zero, List.set_cons_succ, i64_w, i32_w]
                                rfl
                              refine pure_ (i := 22) (N := some 83) (v := undef) (a' := ?_) #[true, true, true, true, true, true, true, true, true, true, true, true, true, true, true, true, true, true, true, true, true, true, true, false, false, false, false, false] rfl rfl (any_of HT_.out (by kernel_rfl)) (fun _ _ _ h => h) (Or.inr ⟨by rfl, rfl⟩) ?_ ?_
                              rotate_left
                              · simp only [Act.put, List.setIfInBounds_toArray, List.set_cons_zero, List.set_cons_succ, i64_w, i32_w]
                                rfl
                              refine pure_ (i := 23) (N := some 84) (v := ?_) (a' := ?_) #[true, true, true, true, true, true, true, true, true, true, true, true, true, true, true, true, true, true, true, true, true, true, true, true, false, false, false, false] rfl rfl (any_of HT_.out (by kernel_rfl)) (fun _ _ _ h => h) (Or.inl ⟨by rfl, ?_⟩) ?_ ?_
                              rotate_left
                              · intro w'
                                go_simp
                                with_reducible rfl
                              rotate_left
                              · simp only [Act.put, List.setIfInBounds_toArray, List.set_cons_zero, List.set_cons_succ, i64_w, i32_w]
                                rfl
                              refine pure_ (i := 24) (N := some 85) (v := ?_) (a' := ?_) #[true, true, true, true, true, true, true, true, true, true, true, true, true, true, true, true, true, true, true, true, true, true, true, true, true, false, false, false] rfl rfl (any_of HT_.out (by kernel_rfl)) (fun _ _ _ h => h) (Or.inl ⟨by rfl, ?_⟩) ?_ ?_
                              rotate_left
                              · intro w'
                                go_simp
                                with_reducible rfl
                              rotate_left
                              · simp only [Act.put, List.setIfInBounds_toArray, List.set_cons_zero, List.set_cons_succ, i64_w, i32_w]
                                rfl
                              refine pure_ (i := 25) (N := some 86) (v := undef) (a' := ?_) #[true, true, true, true, true, true, true, true, true, true, true, true, true, true, true, true, true, true, true, true, true, true, true, true, true, true, false, false] rfl rfl (any_of HT_.out (by kernel_rfl)) (fun _ _ _ h => h) (Or.inr ⟨by rfl, rfl⟩) ?_ ?_
                              rotate_left
                              · simp only [Act.put, List.setIfInBounds_toArray, List.set_cons_zero, List.set_cons_succ, i64_w, i32_w]
                                rfl
                              refine pure_ (i := 26) (N := some 87) (v := ?_) (a' := ?_) #[true, true, true, true, true, true, true, true, true, true, true, true, true, true, true, true, true, true, true, true, true, true, true, true, true, true, true, false] rfl rfl (any_of HT_.out (by kernel_rfl)) (fun _ _ _ h => h) (Or.inl ⟨by rfl, ?_⟩) ?_ ?_
                              rotate_left
                              · intro w'
                                go_simp
                                with_reducible rfl
                              rotate_left
                              · simp only [Act.put, List.setIfInBounds_toArray, List.set_cons_zero, List.set_cons_succ, i64_w, i32_w]
                                rfl
                              refine pure_ (i := 27) (N := some 4) (v := ?_) (a' := ?_) #[true, true, true, true, true, true, true, true, true, true, true, true, true, true, true, true, true, true, true, true, true, true, true, true, true, true, true, true] rfl rfl (any_of HT_.out (by kernel_rfl)) (fun _ _ _ h => h) (Or.inl ⟨by rfl, ?_⟩) ?_ ?_
                              rotate_left
                              · intro w'
                                go_simp
                                with_reducible rfl
                              rotate_left
                              · simp only [Act.put, List.setIfInBounds_toArray, List.set_cons_zero, List.set_cons_succ, i64_w, i32_w]
                                rfl
                              refine done_ (done_of HT_.out (by kernel_rfl)) ?_
                              try go_wp2
                              go_ret
                              exact ⟨by first | rfl | (simp [errW_none, errW_some] <;> rfl) | (simp [*, errW_none, errW_some] <;> rfl), by repeat (first | (with_reducible first | exact HB.out | apply below_alloc | apply pw_below_drewN | apply below_drew1) | exact HB.out)⟩
                            · replace c28 := Bool.eq_false_iff.mpr c28
                              subst c28
                              have H1 : ((expand_Better.f kj14 ((rd_T27 x6_2 t203).f0) ((rd_T27 x6_2 t203).f1) ((rd_T27 x6_2 t203).f2) ((rd_T27 x6_2 t203).f3) ((rd_T27 x6_2 t203).f4) ((rd_T27 x6_2 t203).f5) ((rd_T27 l0 t202).f0) ((rd_T27 l0 t202).f1) ((rd_T27 l0 t202).f2) ((rd_T27 l0 t202).f3) ((rd_T27 l0 t202).f4) ((rd_T27 l0 t202).f5) (wrap64 (1 + (Int.tmod (wrap64 (a1)) 3)))).bind fun t209 => (if t209 = true then (some false) else ((triremelaw21_known.f kj14).bind fun t210 => (some t210)))) = some r := by rw [if_neg (show ¬ (false = true) by decide)] at H; exact H
                              clear H
                              have H := H1
                              clear H1
                              replace H := Option.bind_eq_some_iff.mp H
                              obtain ⟨t209, A310, H⟩ := H
                              replace H : (if t209 = true then (some false) else ((triremelaw21_known.f kj14).bind fun t210 => (some t210))) = some r := H
                              have A31 := Aside0.mk A310
                              clear A310
                              by_cases c32 : t209 = true
                              · subst c32
                                have H1 : (some false) = some r := by rw [if_pos rfl] at H; exact H
                                clear H
                                have H := H1
                                clear H1
                                obtain rfl := Option.some.inj H
                                try go_wp2
                                have n0_ := Aside0.mk (Kd.V_drew HO_0.out)
                                have n1_ := Aside0.mk (Kd.N_drew HO_6.out)
                                have n2_ := Aside0.mk (below_drew1 HB.out)
                                clear HO_0
                                clear HO_6
                                clear HB
                                have HO_0 := n0_
                                have HO_6 := n1_
                                have HB := n2_
                                clear n0_ n1_ n2_
                                have p204 : 0 ≤ (t202 : Int) := of_decide_eq_true (by first | (with_reducible assumption) | assumption)
                                have q204 : t202 < (l0.length : Int) := of_decide_eq_true (by first | (with_reducible assumption) | assumption)
                                obtain ⟨ad204, A204_2, c204_2, e204, hx204_0, hx204_1, hx204_2, hx204_3, hx204_4, hx204_5, hl204_2, hi204_2⟩ := at_T27 (Kd.V_reads' HO_0.out).2.2 t202 p204 q204
                                cases e204
                                obtain ⟨ce204, hce204, hMe204, hcc204⟩ := Kd.V_get HO_0.out z27 t202 p204 (by first | exact q204 | exact of_decide_eq_true (by first | (with_reducible assumption) | assumption) | (have e_ := (Kd.V_reads' HO_0.out).1; omega))
                                obtain ⟨ua204_2, uc204_2, rfl, ul204_2, ge204_2⟩ := k27_openF hMe204
                                have hv204_2 := hcc204 2 _ rfl
                                rw [add_field _ _ 2 (by omega)] at hv204_2
                                replace hv204_2 := Option.some.inj (hv204_2.symm.trans hx204_2)
                                injection hv204_2 with hva_ hvn_ hvc_
                                rw [hva_] at ge204_2
                                rw [hvc_] at ul204_2
                                have HL204_2 := Aside0.mk (show Kd.V Kd.string 9 _ w.heap.size _ _ ((rd_T27 l0 t202).f2) from Kd.V_mk ul204_2 ge204_2)
                                clear hva_ hvn_ hvc_ ge204_2 ul204_2
                                clear hcc204 hce204
                                have HR204_2 := Aside0.mk hi204_2
                                have HC204_2 := Aside0.mk hl204_2
                                clear hi204_2 hl204_2
                                replace p204 := eq_true p204
                                replace q204 := eq_true q204
                                have p205 : 0 ≤ (t203 : Int) := of_decide_eq_true (by first | (with_reducible assumption) | assumption)
                                have q205 : t203 < (x6_2.length : Int) := of_decide_eq_true (by first | (with_reducible assumption) | assumption)
                                obtain ⟨ad205, A205_2, c205_2, e205, hx205_0, hx205_1, hx205_2, hx205_3, hx205_4, hx205_5, hl205_2, hi205_2⟩ := at_T27 (Kd.N_reads' HO_6.out).2.2 t203 p205 q205
                                cases e205
                                obtain ⟨ce205, hce205, hMe205, hcc205⟩ := Kd.N_get HO_6.out z27 t203 p205 (by first | exact q205 | exact of_decide_eq_true (by first | (with_reducible assumption) | assumption) | (have e_ := (Kd.N_reads' HO_6.out).1; omega))
                                obtain ⟨ua205_2, uc205_2, rfl, ul205_2, ge205_2⟩ := k27_openF hMe205
                                have hv205_2 := hcc205 2 _ rfl
                                rw [add_field _ _ 2 (by omega)] at hv205_2
                                replace hv205_2 := Option.some.inj (hv205_2.symm.trans hx205_2)
                                injection hv205_2 with hva_ hvn_ hvc_
                                rw [hva_] at ge205_2
                                rw [hvc_] at ul205_2
                                have HL205_2 := Aside0.mk (show Kd.V Kd.string 9 _ w.heap.size _ _ ((rd_T27 x6_2 t203).f2) from Kd.V_mk ul205_2 ge205_2)
                                clear hva_ hvn_ hvc_ ge205_2 ul205_2
                                clear hcc205 hce205
                                have HR205_2 := Aside0.mk hi205_2
                                have HC205_2 := Aside0.mk hl205_2
                                clear hi205_2 hl205_2
                                replace p205 := eq_true p205
                                replace q205 := eq_true q205
                                have p207 : 0 ≤ (t203 : Int) := of_decide_eq_true (by first | (with_reducible assumption) | assumption)
                                have q207 : t203 < (x6_2.length : Int) := of_decide_eq_true (by first | (with_reducible assumption) | assumption)
                                obtain ⟨ad207, A207_2, c207_2, e207, hx207_0, hx207_1, hx207_2, hx207_3, hx207_4, hx207_5, hl207_2, hi207_2⟩ := at_T27 (Kd.N_reads' HO_6.out).2.2 t203 p207 q207
                                obtain rfl : ad205 = ad207 := (by injection e207)
                                obtain ⟨ce207, hce207, hMe207, hcc207⟩ := Kd.N_get HO_6.out z27 t203 p207 (by first | exact q207 | exact of_decide_eq_true (by first | (with_reducible assumption) | assumption) | (have e_ := (Kd.N_reads' HO_6.out).1; omega))
                                obtain ⟨ua207_2, uc207_2, rfl, ul207_2, ge207_2⟩ := k27_openF hMe207
                                have hv207_2 := hcc207 2 _ rfl
                                rw [add_field _ _ 2 (by omega)] at hv207_2
                                replace hv207_2 := Option.some.inj (hv207_2.symm.trans hx207_2)
                                injection hv207_2 with hva_ hvn_ hvc_
                                rw [hva_] at ge207_2
                                rw [hvc_] at ul207_2
                                have HL207_2 := Aside0.mk (show Kd.V Kd.string 9 _ w.heap.size _ _ ((rd_T27 x6_2 t203).f2) from Kd.V_mk ul207_2 ge207_2)
                                clear hva_ hvn_ hvc_ ge207_2 ul207_2
                                clear hcc207 hce207
                                have HR207_2 := Aside0.mk hi207_2
                                have HC207_2 := Aside0.mk hl207_2
                                clear hi207_2 hl207_2
                                replace p207 := eq_true p207
                                replace q207 := eq_true q207
                                have ea_ := Option.some.inj (hx205_2.symm.trans hx207_2)
                                injection ea_ with ea_ en_ ec_
                                subst ea_
                                subst ec_
                                clear en_
                                have p208 : 0 ≤ (t202 : Int) := of_decide_eq_true (by first | (with_reducible assumption) | assumption)
                                have q208 : t202 < (l0.length : Int) := of_decide_eq_true (by first | (with_reducible assumption) | assumption)
                                obtain ⟨ad208, A208_2, c208_2, e208, hx208_0, hx208_1, hx208_2, hx208_3, hx208_4, hx208_5, hl208_2, hi208_2⟩ := at_T27 (Kd.V_reads' HO_0.out).2.2 t202 p208 q208
                                obtain rfl : ad204 = ad208 := (by injection e208)
                                obtain ⟨ce208, hce208, hMe208, hcc208⟩ := Kd.V_get HO_0.out z27 t202 p208 (by first | exact q208 | exact of_decide_eq_true (by first | (with_reducible assumption) | assumption) | (have e_ := (Kd.V_reads' HO_0.out).1; omega))
                                obtain ⟨ua208_2, uc208_2, rfl, ul208_2, ge208_2⟩ := k27_openF hMe208
                                have hv208_2 := hcc208 2 _ rfl
                                rw [add_field _ _ 2 (by omega)] at hv208_2
                                replace hv208_2 := Option.some.inj (hv208_2.symm.trans hx208_2)
                                injection hv208_2 with hva_ hvn_ hvc_
                                rw [hva_] at ge208_2
                                rw [hvc_] at ul208_2
                                have HL208_2 := Aside0.mk (show Kd.V Kd.string 9 _ w.heap.size _ _ ((rd_T27 l0 t202).f2) from Kd.V_mk ul208_2 ge208_2)
                                clear hva_ hvn_ hvc_ ge208_2 ul208_2
                                clear hcc208 hce208
                                have HR208_2 := Aside0.mk hi208_2
                                have HC208_2 := Aside0.mk hl208_2
                                clear hi208_2 hl208_2
                                replace p208 := eq_true p208
                                replace q208 := eq_true q208
                                have ea_ := Option.some.inj (hx204_2.symm.trans hx208_2)
                                injection ea_ with ea_ en_ ec_
                                subst ea_
                                subst ec_
                                clear en_
                                refine start_ (n := 28) (S := fun w' => w'.cell? (ad204.add ((t202).toNat * 6)) = some (.string ((rd_T27 l0 t202).f0)) ∧ w'.cell? ⟨(ad204.add ((t202).toNat * 6)).block, (ad204.add ((t202).toNat * 6)).off + 1, none⟩ = some (.int .i64 ((rd_T27 l0 t202).f1)) ∧ w'.cell? ⟨(ad204.add ((t202).toNat * 6)).block, (ad204.add ((t202).toNat * 6)).off + 2, none⟩ = some (.slice A204_2 ((rd_T27 l0 t202).f2).length c204_2) ∧ w'.cell? ⟨(ad204.add ((t202).toNat * 6)).block, (ad204.add ((t202).toNat * 6)).off + 3, none⟩ = some (.int .i64 ((rd_T27 l0 t202).f3)) ∧ w'.cell? ⟨(ad204.add ((t202).toNat * 6)).block, (ad204.add ((t202).toNat * 6)).off + 4, none⟩ = some (.int .i64 ((rd_T27 l0 t202).f4)) ∧ w'.cell? ⟨(ad204.add ((t202).toNat * 6)).block, (ad204.add ((t202).toNat * 6)).off + 5, none⟩ = some (.int .i64 ((rd_T27 l0 t202).f5)) ∧ w'.cell? (ad205.add ((t203).toNat * 6)) = some (.string ((rd_T27 x6_2 t203).f0)) ∧ w'.cell? ⟨(ad205.add ((t203).toNat * 6)).block, (ad205.add ((t203).toNat * 6)).off + 1, none⟩ = some (.int .i64 ((rd_T27 x6_2 t203).f1)) ∧ w'.cell? ⟨(ad205.add ((t203).toNat * 6)).block, (ad205.add ((t203).toNat * 6)).off + 2, none⟩ = some (.slice A205_2 ((rd_T27 x6_2 t203).f2).length c205_2) ∧ w'.cell? ⟨(ad205.add ((t203).toNat * 6)).block, (ad205.add ((t203).toNat * 6)).off + 3, none⟩ = some (.int .i64 ((rd_T27 x6_2 t203).f3)) ∧ w'.cell? ⟨(ad205.add ((t203).toNat * 6)).block, (ad205.add ((t203).toNat * 6)).off + 4, none⟩ = some (.int .i64 ((rd_T27 x6_2 t203).f4)) ∧ w'.cell? ⟨(ad205.add ((t203).toNat * 6)).block, (ad205.add ((t203).toNat * 6)).off + 5, none⟩ = some (.int .i64 ((rd_T27 x6_2 t203).f5)) ∧ w'.cell? (ad205.add ((t203).toNat * 6)) = some (.string ((rd_T27 x6_2 t203).f0)) ∧ w'.cell? ⟨(ad205.add ((t203).toNat * 6)).block, (ad205.add ((t203).toNat * 6)).off + 1, none⟩ = some (.int .i64 ((rd_T27 x6_2 t203).f1)) ∧ w'.cell? ⟨(ad205.add ((t203).toNat * 6)).block, (ad205.add ((t203).toNat * 6)).off + 2, none⟩ = some (.slice A205_2 ((rd_T27 x6_2 t203).f2).length c205_2) ∧ w'.cell? ⟨(ad205.add ((t203).toNat * 6)).block, (ad205.add ((t203).toNat * 6)).off + 3, none⟩ = some (.int .i64 ((rd_T27 x6_2 t203).f3)) ∧ w'.cell? ⟨(ad205.add ((t203).toNat * 6)).block, (ad205.add ((t203).toNat * 6)).off + 4, none⟩ = some (.int .i64 ((rd_T27 x6_2 t203).f4)) ∧ w'.cell? ⟨(ad205.add ((t203).toNat * 6)).block, (ad205.add ((t203).toNat * 6)).off + 5, none⟩ = some (.int .i64 ((rd_T27 x6_2 t203).f5)) ∧ w'.cell? (ad204.add ((t202).toNat * 6)) = some (.string ((rd_T27 l0 t202).f0)) ∧ w'.cell? ⟨(ad204.add ((t202).toNat * 6)).block, (ad204.add ((t202).toNat * 6)).off + 1, none⟩ = some (.int .i64 ((rd_T27 l0 t202).f1)) ∧ w'.cell? ⟨(ad204.add ((t202).toNat * 6)).block, (ad204.add ((t202).toNat * 6)).off + 2, none⟩ = some (.slice A204_2 ((rd_T27 l0 t202).f2).length c204_2) ∧ w'.cell? ⟨(ad204.add ((t202).toNat * 6)).block, (ad204.add ((t202).toNat * 6)).off + 3, none⟩ = some (.int .i64 ((rd_T27 l0 t202).f3)) ∧ w'.cell? ⟨(ad204.add ((t202).toNat * 6)).block, (ad204.add ((t202).toNat * 6)).off + 4, none⟩ = some (.int .i64 ((rd_T27 l0 t202).f4)) ∧ w'.cell? ⟨(ad204.add ((t202).toNat * 6)).block, (ad204.add ((t202).toNat * 6)).off + 5, none⟩ = some (.int .i64 ((rd_T27 l0 t202).f5))) (ds := []) #[false, false, false, false, false, false, false, false, false, false, false, false, false, false, false, false, false, false, false, false, false, false, false, false, false, false, false, false] (by kernel_rfl) rfl rfl ⟨hx204_0, hx204_1, hx204_2, hx204_3, hx204_4, hx204_5, hx205_0, hx205_1, hx205_2, hx205_3, hx205_4, hx205_5, hx207_0, hx207_1, hx207_2, hx207_3, hx207_4, hx207_5, hx208_0, hx208_1, hx208_2, hx208_3, hx208_4, hx208_5⟩ (fun hHeld => ?_); refine with_tabW triremelaw21_ExpandOrder.tab13 triremelaw21_ExpandOrder.bits13 (fun HT_ HW_ => ?_)
                                generalize wc.drew = w33 at HO_0 HO_6 HB HL204_2 HL205_2 HL207_2 HL208_2 HR204_2 HR205_2 HR207_2 HR208_2 hx204_0 hx204_1 hx204_2 hx204_3 hx204_4 hx204_5 hx205_0 hx205_1 hx205_2 hx205_3 hx205_4 hx205_5 hx207_0 hx207_1 hx207_2 hx207_3 hx207_4 hx207_5 hx208_0 hx208_1 hx208_2 hx208_3 hx208_4 hx208_5 hHeld ⊢
                                refine pure_ (i := 0) (N := some 61) (v := ?_) (a' := ?_) #[true, false, false, false, false, false, false, false, false, false, false, false, false, false, false, false, false, false, false, false, false, false, false, false, false, false, false, false] rfl rfl (any_of HT_.out (by kernel_rfl)) (fun _ _ _ h => h) (Or.inl ⟨by rfl, ?_⟩) ?_ ?_
                                rotate_left
                                · intro w'
                                  go_simp
                                  with_reducible rfl
                                rotate_left
                                · simp only [Act.put, List.setIfInBounds_toArray, List.set_cons_zero, List.set_cons_succ, i64_w, i32_w]
                                  rfl
                                refine pure_ (i := 1) (N := some 62) (v := ?_) (a' := ?_) #[true, true, false, false, false, false, false, false, false, false, false, false, false, false, false, false, false, false, false, false, false, false, false, false, false, false, false, false] rfl rfl (any_of HT_.out (by kernel_rfl)) (fun _ _ _ h => h) (Or.inl ⟨by rfl, ?_⟩) ?_ ?_
                                rotate_left
                                · intro w'
                                  go_simp
                                  with_reducible rfl
                                rotate_left
                                · simp only [Act.put, List.setIfInBounds_toArray, List.set_cons_zero, List.set_cons_succ, i64_w, i32_w]
                                  rfl
                                refine pure_ (i := 2) (N := some 63) (v := ?_) (a' := ?_) #[true, true, true, false, false, false, false, false, false, false, false, false, false, false, false, false, false, false, false, false, false, false, false, false, false, false, false, false] rfl rfl (any_of HT_.out (by kernel_rfl)) (fun _ _ _ h => h) (Or.inl ⟨by rfl, ?_⟩) ?_ ?_
                                rotate_left
                                · intro w'
                                  go_simp
                                  with_reducible rfl
                                rotate_left
                                · simp only [Act.put, List.setIfInBounds_toArray, List.set_cons_zero, List.set_cons_succ, i64_w, i32_w]
                                  rfl
                                refine pure_ (i := 4) (N := some 65) (v := ?_) (a' := ?_) #[true, true, true, false, true, false, false, false, false, false, false, false, false, false, false, false, false, false, false, false, false, false, false, false, false, false, false, false] rfl rfl (any_of HT_.out (by kernel_rfl)) (fun _ _ _ h => h) (Or.inl ⟨by rfl, ?_⟩) ?_ ?_
                                rotate_left
                                · intro w'
                                  go_simp
                                  with_reducible rfl
                                rotate_left
                                · simp only [Act.put, List.setIfInBounds_toArray, List.set_cons_zero, List.set_cons_succ, i64_w, i32_w]
                                  rfl
                                refine pure_ (i := 5) (N := some 66) (v := ?_) (a' := ?_) #[true, true, true, false, true, true, false, false, false, false, false, false, false, false, false, false, false, false, false, false, false, false, false, false, false, false, false, false] rfl rfl (any_of HT_.out (by kernel_rfl)) (fun _ _ _ h => h) (Or.inl ⟨by rfl, ?_⟩) ?_ ?_
                                rotate_left
                                · intro w'
                                  go_simp
                                  with_reducible rfl
                                rotate_left
                                · simp only [Act.put, List.setIfInBounds_toArray, List.set_cons_zero, List.set_cons_succ, i64_w, i32_w]
                                  rfl
                                refine pure_ (i := 6) (N := some 67) (v := ?_) (a' := ?_) #[true, true, true, false, true, true, true, false, false, false, false, false, false, false, false, false, false, false, false, false, false, false, false, false, false, false, false, false] rfl rfl (any_of HT_.out (by kernel_rfl)) (fun _ _ _ h => h) (Or.inl ⟨by rfl, ?_⟩) ?_ ?_
                                rotate_left
                                · intro w'
                                  go_simp
                                  with_reducible rfl
                                rotate_left
                                · simp only [Act.put, List.setIfInBounds_toArray, List.set_cons_zero, List.set_cons_succ, i64_w, i32_w]
                                  rfl
                                refine pure_ (i := 8) (N := some 69) (v := ?_) (a' := ?_) #[true, true, true, false, true, true, true, false, true, false, false, false, false, false, false, false, false, false, false, false, false, false, false, false, false, false, false, false] rfl rfl (any_of HT_.out (by kernel_rfl)) (fun _ _ _ h => h) (Or.inl ⟨by rfl, ?_⟩) ?_ ?_
                                rotate_left
                                · intro w'
                                  go_simp
                                  with_reducible rfl
                                rotate_left
                                · simp only [Act.put, List.setIfInBounds_toArray, List.set_cons_zero, List.set_cons_succ, i64_w, i32_w]
                                  rfl
                                refine take_ (i := 3) (N := some 64) (v := ?_) (a' := ?_) #[true, true, true, true, true, true, true, false, true, false, false, false, false, false, false, false, false, false, false, false, false, false, false, false, false, false, false, false] rfl rfl (take_ofW HT_.out HW_.out (by kernel_rfl)) (fun _ _ _ h => h) (Or.inl ⟨by rfl, ?_⟩) hHeld ?_ ?_
                                rotate_left
                                · rintro w' ⟨s0, s1, s2, s3, s4, s5, s6, s7, s8, s9, s10, s11, s12, s13, s14, s15, s16, s17, s18, s19, s20, s21, s22, s23⟩
                                  go_simp
                                  with_reducible rfl
                                rotate_left
                                · simp only [Act.put, List.setIfInBounds_toArray, List.set_cons_zero, List.set_cons_succ, i64_w, i32_w]
                                  rfl
                                refine take_ (i := 7) (N := some 68) (v := ?_) (a' := ?_) #[true, true, true, true, true, true, true, true, true, false, false, false, false, false, false, false, false, false, false, false, false, false, false, false, false, false, false, false] rfl rfl (take_ofW HT_.out HW_.out (by kernel_rfl)) (fun _ _ _ h => h) (Or.inl ⟨by rfl, ?_⟩) hHeld ?_ ?_
                                rotate_left
                                · rintro w' ⟨s0, s1, s2, s3, s4, s5, s6, s7, s8, s9, s10, s11, s12, s13, s14, s15, s16, s17, s18, s19, s20, s21, s22, s23⟩
                                  go_simp
                                  with_reducible rfl
                                rotate_left
                                · simp only [Act.put, List.setIfInBounds_toArray, List.set_cons_zero, List.set_cons_succ, i64_w, i32_w]
                                  rfl
                                refine one_ (i := 9) (N := some 70) #[true, true, true, true, true, true, true, true, true, true, false, false, false, false, false, false, false, false, false, false, false, false, false, false, false, false, false, false] rfl rfl (one_of HT_.out (by kernel_rfl)) (by decide) (fun K hK => ?_)
                                refine goes_ Try.func16 (by kernel_rfl) rfl #[.agg #[.string ((rd_T27 l0 t202).f0), .int .i64 ((rd_T27 l0 t202).f1), .slice A204_2 ((rd_T27 l0 t202).f2).length c204_2, .int .i64 ((rd_T27 l0 t202).f3), .int .i64 ((rd_T27 l0 t202).f4), .int .i64 ((rd_T27 l0 t202).f5)], .agg #[.string ((rd_T27 x6_2 t203).f0), .int .i64 ((rd_T27 x6_2 t203).f1), .slice A205_2 ((rd_T27 x6_2 t203).f2).length c205_2, .int .i64 ((rd_T27 x6_2 t203).f3), .int .i64 ((rd_T27 x6_2 t203).f4), .int .i64 ((rd_T27 x6_2 t203).f5)], .int .i64 (wrap64 (1 + (Int.tmod (wrap64 (a1)) 3)))] (by rfl) rfl rfl (by (try simp only [List.map_toArray, List.map_cons, List.map_nil]); first | done | rfl | (simp only [List.length_drop, List.length_take]; rfl)) ?_
                                with_reducible refine (expand_Better.calls kj14 ((rd_T27 l0 t202).f0) ((rd_T27 l0 t202).f1) _ _ ((rd_T27 l0 t202).f2) ((rd_T27 l0 t202).f3) ((rd_T27 l0 t202).f4) ((rd_T27 l0 t202).f5) ((rd_T27 x6_2 t203).f0) ((rd_T27 x6_2 t203).f1) _ _ ((rd_T27 x6_2 t203).f2) ((rd_T27 x6_2 t203).f3) ((rd_T27 x6_2 t203).f4) ((rd_T27 x6_2 t203).f5) (wrap64 (1 + (Int.tmod (wrap64 (a1)) 3))) false _ ?side1 ?side2 ?side3 ?side4 A27.out).mono ?_
                                (case side1 => repeat (first | exact (by repeat (first | (with_reducible exact HR204_2.out) | (with_reducible refine Kd.C_alloc ?_ _) | (with_reducible refine Kd.C_drewN ?_ _) | (with_reducible refine Kd.C_drew ?_) | exact HR204_2.out)) | (with_reducible refine Kd.C_alloc ?_ _) | (with_reducible refine Kd.C_drewN ?_ _) | (with_reducible refine Kd.C_drew ?_)))
                                (case side2 => exact HC204_2.out)
                                (case side3 => repeat (first | exact (by repeat (first | (with_reducible exact HR205_2.out) | (with_reducible refine Kd.C_alloc ?_ _) | (with_reducible refine Kd.C_drewN ?_ _) | (with_reducible refine Kd.C_drew ?_) | exact HR205_2.out)) | (with_reducible refine Kd.C_alloc ?_ _) | (with_reducible refine Kd.C_drewN ?_ _) | (with_reducible refine Kd.C_drew ?_)))
                                (case side4 => exact HC205_2.out)
                                rintro e w34 ⟨rfl, hb⟩
                                have HS0_ := (hb.cell (World.block_lt_of_cell? _ _ (hHeld.1))).trans (hHeld.1)
                                have HS1_ := (hb.cell (World.block_lt_of_cell? _ _ (hHeld.2.1))).trans (hHeld.2.1)
                                have HS2_ := (hb.cell (World.block_lt_of_cell? _ _ (hHeld.2.2.1))).trans (hHeld.2.2.1)
                                have HS3_ := (hb.cell (World.block_lt_of_cell? _ _ (hHeld.2.2.2.1))).trans (hHeld.2.2.2.1)
                                have HS4_ := (hb.cell (World.block_lt_of_cell? _ _ (hHeld.2.2.2.2.1))).trans (hHeld.2.2.2.2.1)
                                have HS5_ := (hb.cell (World.block_lt_of_cell? _ _ (hHeld.2.2.2.2.2.1))).trans (hHeld.2.2.2.2.2.1)
                                have HS6_ := (hb.cell (World.block_lt_of_cell? _ _ (hHeld.2.2.2.2.2.2.1))).trans (hHeld.2.2.2.2.2.2.1)
                                have HS7_ := (hb.cell (World.block_lt_of_cell? _ _ (hHeld.2.2.2.2.2.2.2.1))).trans (hHeld.2.2.2.2.2.2.2.1)
                                have HS8_ := (hb.cell (World.block_lt_of_cell? _ _ (hHeld.2.2.2.2.2.2.2.2.1))).trans (hHeld.2.2.2.2.2.2.2.2.1)
                                have HS9_ := (hb.cell (World.block_lt_of_cell? _ _ (hHeld.2.2.2.2.2.2.2.2.2.1))).trans (hHeld.2.2.2.2.2.2.2.2.2.1)
                                have HS10_ := (hb.cell (World.block_lt_of_cell? _ _ (hHeld.2.2.2.2.2.2.2.2.2.2.1))).trans (hHeld.2.2.2.2.2.2.2.2.2.2.1)
                                have HS11_ := (hb.cell (World.block_lt_of_cell? _ _ (hHeld.2.2.2.2.2.2.2.2.2.2.2.1))).trans (hHeld.2.2.2.2.2.2.2.2.2.2.2.1)
                                have HS12_ := (hb.cell (World.block_lt_of_cell? _ _ (hHeld.2.2.2.2.2.2.2.2.2.2.2.2.1))).trans (hHeld.2.2.2.2.2.2.2.2.2.2.2.2.1)
                                have HS13_ := (hb.cell (World.block_lt_of_cell? _ _ (hHeld.2.2.2.2.2.2.2.2.2.2.2.2.2.1))).trans (hHeld.2.2.2.2.2.2.2.2.2.2.2.2.2.1)
                                have HS14_ := (hb.cell (World.block_lt_of_cell? _ _ (hHeld.2.2.2.2.2.2.2.2.2.2.2.2.2.2.1))).trans (hHeld.2.2.2.2.2.2.2.2.2.2.2.2.2.2.1)
                                have HS15_ := (hb.cell (World.block_lt_of_cell? _ _ (hHeld.2.2.2.2.2.2.2.2.2.2.2.2.2.2.2.1))).trans (hHeld.2.2.2.2.2.2.2.2.2.2.2.2.2.2.2.1)
                                have HS16_ := (hb.cell (World.block_lt_of_cell? _ _ (hHeld.2.2.2.2.2.2.2.2.2.2.2.2.2.2.2.2.1))).trans (hHeld.2.2.2.2.2.2.2.2.2.2.2.2.2.2.2.2.1)
                                have HS17_ := (hb.cell (World.block_lt_of_cell? _ _ (hHeld.2.2.2.2.2.2.2.2.2.2.2.2.2.2.2.2.2.1))).trans (hHeld.2.2.2.2.2.2.2.2.2.2.2.2.2.2.2.2.2.1)
                                have HS18_ := (hb.cell (World.block_lt_of_cell? _ _ (hHeld.2.2.2.2.2.2.2.2.2.2.2.2.2.2.2.2.2.2.1))).trans (hHeld.2.2.2.2.2.2.2.2.2.2.2.2.2.2.2.2.2.2.1)
                                have HS19_ := (hb.cell (World.block_lt_of_cell? _ _ (hHeld.2.2.2.2.2.2.2.2.2.2.2.2.2.2.2.2.2.2.2.1))).trans (hHeld.2.2.2.2.2.2.2.2.2.2.2.2.2.2.2.2.2.2.2.1)
                                have HS20_ := (hb.cell (World.block_lt_of_cell? _ _ (hHeld.2.2.2.2.2.2.2.2.2.2.2.2.2.2.2.2.2.2.2.2.1))).trans (hHeld.2.2.2.2.2.2.2.2.2.2.2.2.2.2.2.2.2.2.2.2.1)
                                have HS21_ := (hb.cell (World.block_lt_of_cell? _ _ (hHeld.2.2.2.2.2.2.2.2.2.2.2.2.2.2.2.2.2.2.2.2.2.1))).trans (hHeld.2.2.2.2.2.2.2.2.2.2.2.2.2.2.2.2.2.2.2.2.2.1)
                                have HS22_ := (hb.cell (World.block_lt_of_cell? _ _ (hHeld.2.2.2.2.2.2.2.2.2.2.2.2.2.2.2.2.2.2.2.2.2.2.1))).trans (hHeld.2.2.2.2.2.2.2.2.2.2.2.2.2.2.2.2.2.2.2.2.2.2.1)
                                have HS23_ := (hb.cell (World.block_lt_of_cell? _ _ (hHeld.2.2.2.2.2.2.2.2.2.2.2.2.2.2.2.2.2.2.2.2.2.2.2))).trans (hHeld.2.2.2.2.2.2.2.2.2.2.2.2.2.2.2.2.2.2.2.2.2.2.2)
                                refine ⟨_, rfl, ?_⟩
                                have n0_ := Aside0.mk (Kd.V_below (by (with_reducible repeat (first | apply Kd.V_alloc | apply Kd.V_drewN | apply Kd.V_drew)); exact HO_0.out) hb)
                                have n1_ := Aside0.mk (Kd.N_below (by (with_reducible repeat (first | apply Kd.N_alloc | apply Kd.N_drewN | apply Kd.N_drew)); exact HO_6.out) hb)
                                have n2_ := Aside0.mk (Kd.V_below (by (with_reducible repeat (first | apply Kd.V_alloc | apply Kd.V_drewN | apply Kd.V_drew)); exact HL204_2.out) hb)
                                have n3_ := Aside0.mk (Kd.V_below (by (with_reducible repeat (first | apply Kd.V_alloc | apply Kd.V_drewN | apply Kd.V_drew)); exact HL205_2.out) hb)
                                have n4_ := Aside0.mk (Kd.V_below (by (with_reducible repeat (first | apply Kd.V_alloc | apply Kd.V_drewN | apply Kd.V_drew)); exact HL207_2.out) hb)
                                have n5_ := Aside0.mk (Kd.V_below (by (with_reducible repeat (first | apply Kd.V_alloc | apply Kd.V_drewN | apply Kd.V_drew)); exact HL208_2.out) hb)
                                have n6_ := Aside0.mk (Kd.C_below (by repeat (first | (with_reducible exact HR204_2.out) | (with_reducible refine Kd.C_alloc ?_ _) | (with_reducible refine Kd.C_drewN ?_ _) | (with_reducible refine Kd.C_drew ?_) | exact HR204_2.out)) hb)
                                have n7_ := Aside0.mk (Kd.C_below (by repeat (first | (with_reducible exact HR205_2.out) | (with_reducible refine Kd.C_alloc ?_ _) | (with_reducible refine Kd.C_drewN ?_ _) | (with_reducible refine Kd.C_drew ?_) | exact HR205_2.out)) hb)
                                have n8_ := Aside0.mk (Kd.C_below (by repeat (first | (with_reducible exact HR207_2.out) | (with_reducible refine Kd.C_alloc ?_ _) | (with_reducible refine Kd.C_drewN ?_ _) | (with_reducible refine Kd.C_drew ?_) | exact HR207_2.out)) hb)
                                have n9_ := Aside0.mk (Kd.C_below (by repeat (first | (with_reducible exact HR208_2.out) | (with_reducible refine Kd.C_alloc ?_ _) | (with_reducible refine Kd.C_drewN ?_ _) | (with_reducible refine Kd.C_drew ?_) | exact HR208_2.out)) hb)
                                have n10_ := Aside0.mk (below_step (by repeat (first | (with_reducible first | exact HB.out | apply below_alloc | apply pw_below_drewN | apply below_drew1) | exact HB.out)) hb)
                                clear HO_0
                                clear HO_6
                                clear HL204_2
                                clear HL205_2
                                clear HL207_2
                                clear HL208_2
                                clear HR204_2
                                clear HR205_2
                                clear HR207_2
                                clear HR208_2
                                clear HB
                                have HO_0 := n0_
                                have HO_6 := n1_
                                have HL204_2 := n2_
                                have HL205_2 := n3_
                                have HL207_2 := n4_
                                have HL208_2 := n5_
                                have HR204_2 := n6_
                                have HR205_2 := n7_
                                have HR207_2 := n8_
                                have HR208_2 := n9_
                                have HB := n10_
                                clear n0_ n1_ n2_ n3_ n4_ n5_ n6_ n7_ n8_ n9_ n10_
                                (try clear hb)
                                (try clear hb2)
                                (try clear hk)
                                (try clear hi)
                                refine hK.out _ _ ⟨HS0_, HS1_, HS2_, HS3_, HS4_, HS5_, HS6_, HS7_, HS8_, HS9_, HS10_, HS11_, HS12_, HS13_, HS14_, HS15_, HS16_, HS17_, HS18_, HS19_, HS20_, HS21_, HS22_, HS23_⟩ (fun hHeld => ?_)
                                clear hK K
                                refine norm_ (a' := ?_) ?_ ?_
                                rotate_left
                                · show Act.put _ (some 70) _ = _
                                  simp only [Act.put, List.setIfInBounds_toArray, List.set_cons_zero, List.set_cons_succ, i64_w, i32_w]
                                  rfl
                                refine pure_ (i := 10) (N := some 71) (v := ?_) (a' := ?_) #[true, true, true, true, true, true, true, true, true, true, true, false, false, false, false, false, false, false, false, false, false, false, false, false, false, false, false, false] rfl rfl (any_of HT_.out (by kernel_rfl)) (fun _ _ _ h => h) (Or.inl ⟨by rfl, ?_⟩) ?_ ?_
                                rotate_left
                                · intro w'
                                  go_simp
                                  with_reducible rfl
                                rotate_left
                                · simp only [Act.put, List.setIfInBounds_toArray, List.set_cons_zero, List.set_cons_succ, i64_w, i32_w]
                                  rfl
                                refine pure_ (i := 11) (N := some 72) (v := ?_) (a' := ?_) #[true, true, true, true, true, true, true, true, true, true, true, true, false, false, false, false, false, false, false, false, false, false, false, false, false, false, false, false] rfl rfl (any_of HT_.out (by kernel_rfl)) (fun _ _ _ h => h) (Or.inl ⟨by rfl, ?_⟩) ?_ ?_
                                rotate_left
                                · intro w'
                                  go_simp
                                  with_reducible rfl
                                rotate_left
                                · simp only [Act.put, List.setIfInBounds_toArray, List.set_cons_zero, List.set_cons_succ, i64_w, i32_w]
                                  rfl
                                refine pure_ (i := 12) (N := some 73) (v := ?_) (a' := ?_) #[true, true, true, true, true, true, true, true, true, true, true, true, true, false, false, false, false, false, false, false, false, false, false, false, false, false, false, false] rfl rfl (any_of HT_.out (by kernel_rfl)) (fun _ _ _ h => h) (Or.inl ⟨by rfl, ?_⟩) ?_ ?_
                                rotate_left
                                · intro w'
                                  go_simp
                                  with_reducible rfl
                                rotate_left
                                · simp only [Act.put, List.setIfInBounds_toArray, List.set_cons_zero, List.set_cons_succ, i64_w, i32_w]
                                  rfl
                                refine pure_ (i := 13) (N := some 74) (v := ?_) (a' := ?_) #[true, true, true, true, true, true, true, true, true, true, true, true, true, true, false, false, false, false, false, false, false, false, false, false, false, false, false, false] rfl rfl (any_of HT_.out (by kernel_rfl)) (fun _ _ _ h => h) (Or.inl ⟨by rfl, ?_⟩) ?_ ?_
                                rotate_left
                                · intro w'
                                  go_simp
                                  with_reducible rfl
                                rotate_left
                                · simp only [Act.put, List.setIfInBounds_toArray, List.set_cons_zero, List.set_cons_succ, i64_w, i32_w]
                                  rfl
                                refine pure_ (i := 14) (N := some 75) (v := ?_) (a' := ?_) #[true, true, true, true, true, true, true, true, true, true, true, true, true, true, true, false, false, false, false, false, false, false, false, false, false, false, false, false] rfl rfl (any_of HT_.out (by kernel_rfl)) (fun _ _ _ h => h) (Or.inl ⟨by rfl, ?_⟩) ?_ ?_
                                rotate_left
                                · intro w'
                                  go_simp
                                  with_reducible rfl
                                rotate_left
                                · simp only [Act.put, List.setIfInBounds_toArray, List.set_cons_zero, List.set_cons_succ, i64_w, i32_w]
                                  rfl
                                refine pure_ (i := 16) (N := some 77) (v := ?_) (a' := ?_) #[true, true, true, true, true, true, true, true, true, true, true, true, true, true, true, false, true, false, false, false, false, false, false, false, false, false, false, false] rfl rfl (any_of HT_.out (by kernel_rfl)) (fun _ _ _ h => h) (Or.inl ⟨by rfl, ?_⟩) ?_ ?_
                                rotate_left
                                · intro w'
                                  go_simp
                                  with_reducible rfl
                                rotate_left
                                · simp only [Act.put, List.setIfInBounds_toArray, List.set_cons_zero, List.set_cons_succ, i64_w, i32_w]
                                  rfl
                                refine pure_ (i := 17) (N := some 78) (v := ?_) (a' := ?_) #[true, true, true, true, true, true, true, true, true, true, true, true, true, true, true, false, true, true, false, false, false, false, false, false, false, false, false, false] rfl rfl (any_of HT_.out (by kernel_rfl)) (fun _ _ _ h => h) (Or.inl ⟨by rfl, ?_⟩) ?_ ?_
                                rotate_left
                                · intro w'
                                  go_simp
                                  with_reducible rfl
                                rotate_left
                                · simp only [Act.put, List.setIfInBounds_toArray, List.set_cons_zero, List.set_cons_succ, i64_w, i32_w]
                                  rfl
                                refine pure_ (i := 18) (N := some 79) (v := ?_) (a' := ?_) #[true, true, true, true, true, true, true, true, true, true, true, true, true, true, true, false, true, true, true, false, false, false, false, false, false, false, false, false] rfl rfl (any_of HT_.out (by kernel_rfl)) (fun _ _ _ h => h) (Or.inl ⟨by rfl, ?_⟩) ?_ ?_
                                rotate_left
                                · intro w'
                                  go_simp
                                  with_reducible rfl
                                rotate_left
                                · simp only [Act.put, List.setIfInBounds_toArray, List.set_cons_zero, List.set_cons_succ, i64_w, i32_w]
                                  rfl
                                refine pure_ (i := 20) (N := some 81) (v := ?_) (a' := ?_) #[true, true, true, true, true, true, true, true, true, true, true, true, true, true, true, false, true, true, true, false, true, false, false, false, false, false, false, false] rfl rfl (any_of HT_.out (by kernel_rfl)) (fun _ _ _ h => h) (Or.inl ⟨by rfl, ?_⟩) ?_ ?_
                                rotate_left
                                · intro w'
                                  go_simp
                                  with_reducible rfl
                                rotate_left
                                · simp only [Act.put, List.setIfInBounds_toArray, List.set_cons_zero, List.set_cons_succ, i64_w, i32_w]
                                  rfl
                                refine take_ (i := 15) (N := some 76) (v := ?_) (a' := ?_) #[true, true, true, true, true, true, true, true, true, true, true, true, true, true, true, true, true, true, true, false, true, false, false, false, false, false, false, false] rfl rfl (take_ofW HT_.out HW_.out (by kernel_rfl)) (fun _ _ _ h => h) (Or.inl ⟨by rfl, ?_⟩) hHeld ?_ ?_
                                rotate_left
                                · rintro w' ⟨s0, s1, s2, s3, s4, s5, s6, s7, s8, s9, s10, s11, s12, s13, s14, s15, s16, s17, s18, s19, s20, s21, s22, s23⟩
                                  go_simp
                                  with_reducible rfl
                                rotate_left
                                · simp only [Act.put, List.setIfInBounds_toArray, List.set_cons_zero, List.set_cons_succ, i64_w, i32_w]
                                  rfl
                                refine take_ (i := 19) (N := some 80) (v := ?_) (a' := ?_) #[true, true, true, true, true, true, true, true, true, true, true, true, true, true, true, true, true, true, true, true, true, false, false, false, false, false, false, false] rfl rfl (take_ofW HT_.out HW_.out (by kernel_rfl)) (fun _ _ _ h => h) (Or.inl ⟨by rfl, ?_⟩) hHeld ?_ ?_
                                rotate_left
                                · rintro w' ⟨s0, s1, s2, s3, s4, s5, s6, s7, s8, s9, s10, s11, s12, s13, s14, s15, s16, s17, s18, s19, s20, s21, s22, s23⟩
                                  go_simp
                                  with_reducible rfl
                                rotate_left
                                · simp only [Act.put, List.setIfInBounds_toArray, List.set_cons_zero, List.set_cons_succ, i64_w, i32_w]
                                  rfl
                                refine one_ (i := 21) (N := some 82) #[true, true, true, true, true, true, true, true, true, true, true, true, true, true, true, true, true, true, true, true, true, true, false, false, false, false, false, false] rfl rfl (one_of HT_.out (by kernel_rfl)) (by decide) (fun K hK => ?_)
                                refine goes_ Try.func16 (by kernel_rfl) rfl #[.agg #[.string ((rd_T27 x6_2 t203).f0), .int .i64 ((rd_T27 x6_2 t203).f1), .slice A205_2 ((rd_T27 x6_2 t203).f2).length c205_2, .int .i64 ((rd_T27 x6_2 t203).f3), .int .i64 ((rd_T27 x6_2 t203).f4), .int .i64 ((rd_T27 x6_2 t203).f5)], .agg #[.string ((rd_T27 l0 t202).f0), .int .i64 ((rd_T27 l0 t202).f1), .slice A204_2 ((rd_T27 l0 t202).f2).length c204_2, .int .i64 ((rd_T27 l0 t202).f3), .int .i64 ((rd_T27 l0 t202).f4), .int .i64 ((rd_T27 l0 t202).f5)], .int .i64 (wrap64 (1 + (Int.tmod (wrap64 (a1)) 3)))] (by rfl) rfl rfl (by (try simp only [List.map_toArray, List.map_cons, List.map_nil]); first | done | rfl | (simp only [List.length_drop, List.length_take]; rfl)) ?_
                                with_reducible refine (expand_Better.calls kj14 ((rd_T27 x6_2 t203).f0) ((rd_T27 x6_2 t203).f1) _ _ ((rd_T27 x6_2 t203).f2) ((rd_T27 x6_2 t203).f3) ((rd_T27 x6_2 t203).f4) ((rd_T27 x6_2 t203).f5) ((rd_T27 l0 t202).f0) ((rd_T27 l0 t202).f1) _ _ ((rd_T27 l0 t202).f2) ((rd_T27 l0 t202).f3) ((rd_T27 l0 t202).f4) ((rd_T27 l0 t202).f5) (wrap64 (1 + (Int.tmod (wrap64 (a1)) 3))) true _ ?side1 ?side2 ?side3 ?side4 A31.out).mono ?_
                                (case side1 => repeat (first | exact (by repeat (first | (with_reducible exact HR207_2.out) | (with_reducible refine Kd.C_alloc ?_ _) | (with_reducible refine Kd.C_drewN ?_ _) | (with_reducible refine Kd.C_drew ?_) | exact HR207_2.out)) | (with_reducible refine Kd.C_alloc ?_ _) | (with_reducible refine Kd.C_drewN ?_ _) | (with_reducible refine Kd.C_drew ?_)))
                                (case side2 => exact HC207_2.out)
                                (case side3 => repeat (first | exact (by repeat (first | (with_reducible exact HR208_2.out) | (with_reducible refine Kd.C_alloc ?_ _) | (with_reducible refine Kd.C_drewN ?_ _) | (with_reducible refine Kd.C_drew ?_) | exact HR208_2.out)) | (with_reducible refine Kd.C_alloc ?_ _) | (with_reducible refine Kd.C_drewN ?_ _) | (with_reducible refine Kd.C_drew ?_)))
                                (case side4 => exact HC208_2.out)
                                rintro e w35 ⟨rfl, hb⟩
                                have HS0_ := (hb.cell (World.block_lt_of_cell? _ _ (hHeld.1))).trans (hHeld.1)
                                have HS1_ := (hb.cell (World.block_lt_of_cell? _ _ (hHeld.2.1))).trans (hHeld.2.1)
                                have HS2_ := (hb.cell (World.block_lt_of_cell? _ _ (hHeld.2.2.1))).trans (hHeld.2.2.1)
                                have HS3_ := (hb.cell (World.block_lt_of_cell? _ _ (hHeld.2.2.2.1))).trans (hHeld.2.2.2.1)
                                have HS4_ := (hb.cell (World.block_lt_of_cell? _ _ (hHeld.2.2.2.2.1))).trans (hHeld.2.2.2.2.1)
                                have HS5_ := (hb.cell (World.block_lt_of_cell? _ _ (hHeld.2.2.2.2.2.1))).trans (hHeld.2.2.2.2.2.1)
                                have HS6_ := (hb.cell (World.block_lt_of_cell? _ _ (hHeld.2.2.2.2.2.2.1))).trans (hHeld.2.2.2.2.2.2.1)
                                have HS7_ := (hb.cell (World.block_lt_of_cell? _ _ (hHeld.2.2.2.2.2.2.2.1))).trans (hHeld.2.2.2.2.2.2.2.1)
                                have HS8_ := (hb.cell (World.block_lt_of_cell? _ _ (hHeld.2.2.2.2.2.2.2.2.1))).trans (hHeld.2.2.2.2.2.2.2.2.1)
                                have HS9_ := (hb.cell (World.block_lt_of_cell? _ _ (hHeld.2.2.2.2.2.2.2.2.2.1))).trans (hHeld.2.2.2.2.2.2.2.2.2.1)
                                have HS10_ := (hb.cell (World.block_lt_of_cell? _ _ (hHeld.2.2.2.2.2.2.2.2.2.2.1))).trans (hHeld.2.2.2.2.2.2.2.2.2.2.1)
                                have HS11_ := (hb.cell (World.block_lt_of_cell? _ _ (hHeld.2.2.2.2.2.2.2.2.2.2.2.1))).trans (hHeld.2.2.2.2.2.2.2.2.2.2.2.1)
                                have HS12_ := (hb.cell (World.block_lt_of_cell? _ _ (hHeld.2.2.2.2.2.2.2.2.2.2.2.2.1))).trans (hHeld.2.2.2.2.2.2.2.2.2.2.2.2.1)
                                have HS13_ := (hb.cell (World.block_lt_of_cell? _ _ (hHeld.2.2.2.2.2.2.2.2.2.2.2.2.2.1))).trans (hHeld.2.2.2.2.2.2.2.2.2.2.2.2.2.1)
                                have HS14_ := (hb.cell (World.block_lt_of_cell? _ _ (hHeld.2.2.2.2.2.2.2.2.2.2.2.2.2.2.1))).trans (hHeld.2.2.2.2.2.2.2.2.2.2.2.2.2.2.1)
                                have HS15_ := (hb.cell (World.block_lt_of_cell? _ _ (hHeld.2.2.2.2.2.2.2.2.2.2.2.2.2.2.2.1))).trans (hHeld.2.2.2.2.2.2.2.2.2.2.2.2.2.2.2.1)
                                have HS16_ := (hb.cell (World.block_lt_of_cell? _ _ (hHeld.2.2.2.2.2.2.2.2.2.2.2.2.2.2.2.2.1))).trans (hHeld.2.2.2.2.2.2.2.2.2.2.2.2.2.2.2.2.1)
                                have HS17_ := (hb.cell (World.block_lt_of_cell? _ _ (hHeld.2.2.2.2.2.2.2.2.2.2.2.2.2.2.2.2.2.1))).trans (hHeld.2.2.2.2.2.2.2.2.2.2.2.2.2.2.2.2.2.1)
                                have HS18_ := (hb.cell (World.block_lt_of_cell? _ _ (hHeld.2.2.2.2.2.2.2.2.2.2.2.2.2.2.2.2.2.2.1))).trans (hHeld.2.2.2.2.2.2.2.2.2.2.2.2.2.2.2.2.2.2.1)
                                have HS19_ := (hb.cell (World.block_lt_of_cell? _ _ (hHeld.2.2.2.2.2.2.2.2.2.2.2.2.2.2.2.2.2.2.2.1))).trans (hHeld.2.2.2.2.2.2.2.2.2.2.2.2.2.2.2.2.2.2.2.1)
                                have HS20_ := (hb.cell (World.block_lt_of_cell? _ _ (hHeld.2.2.2.2.2.2.2.2.2.2.2.2.2.2.2.2.2.2.2.2.1))).trans (hHeld.2.2.2.2.2.2.2.2.2.2.2.2.2.2.2.2.2.2.2.2.1)
                                have HS21_ := (hb.cell (World.block_lt_of_cell? _ _ (hHeld.2.2.2.2.2.2.2.2.2.2.2.2.2.2.2.2.2.2.2.2.2.1))).trans (hHeld.2.2.2.2.2.2.2.2.2.2.2.2.2.2.2.2.2.2.2.2.2.1)
                                have HS22_ := (hb.cell (World.block_lt_of_cell? _ _ (hHeld.2.2.2.2.2.2.2.2.2.2.2.2.2.2.2.2.2.2.2.2.2.2.1))).trans (hHeld.2.2.2.2.2.2.2.2.2.2.2.2.2.2.2.2.2.2.2.2.2.2.1)
                                have HS23_ := (hb.cell (World.block_lt_of_cell? _ _ (hHeld.2.2.2.2.2.2.2.2.2.2.2.2.2.2.2.2.2.2.2.2.2.2.2))).trans (hHeld.2.2.2.2.2.2.2.2.2.2.2.2.2.2.2.2.2.2.2.2.2.2.2)
                                refine ⟨_, rfl, ?_⟩
                                have n0_ := Aside0.mk (Kd.V_below (by (with_reducible repeat (first | apply Kd.V_alloc | apply Kd.V_drewN | apply Kd.V_drew)); exact HO_0.out) hb)
                                have n1_ := Aside0.mk (Kd.N_below (by (with_reducible repeat (first | apply Kd.N_alloc | apply Kd.N_drewN | apply Kd.N_drew)); exact HO_6.out) hb)
                                have n2_ := Aside0.mk (Kd.V_below (by (with_reducible repeat (first | apply Kd.V_alloc | apply Kd.V_drewN | apply Kd.V_drew)); exact HL204_2.out) hb)
                                have n3_ := Aside0.mk (Kd.V_below (by (with_reducible repeat (first | apply Kd.V_alloc | apply Kd.V_drewN | apply Kd.V_drew)); exact HL205_2.out) hb)
                                have n4_ := Aside0.mk (Kd.V_below (by (with_reducible repeat (first | apply Kd.V_alloc | apply Kd.V_drewN | apply Kd.V_drew)); exact HL207_2.out) hb)
                                have n5_ := Aside0.mk (Kd.V_below (by (with_reducible repeat (first | apply Kd.V_alloc | apply Kd.V_drewN | apply Kd.V_drew)); exact HL208_2.out) hb)
                                have n6_ := Aside0.mk (Kd.C_below (by repeat (first | (with_reducible exact HR204_2.out) | (with_reducible refine Kd.C_alloc ?_ _) | (with_reducible refine Kd.C_drewN ?_ _) | (with_reducible refine Kd.C_drew ?_) | exact HR204_2.out)) hb)
                                have n7_ := Aside0.mk (Kd.C_below (by repeat (first | (with_reducible exact HR205_2.out) | (with_reducible refine Kd.C_alloc ?_ _) | (with_reducible refine Kd.C_drewN ?_ _) | (with_reducible refine Kd.C_drew ?_) | exact HR205_2.out)) hb)
                                have n8_ := Aside0.mk (Kd.C_below (by repeat (first | (with_reducible exact HR207_2.out) | (with_reducible refine Kd.C_alloc ?_ _) | (with_reducible refine Kd.C_drewN ?_ _) | (with_reducible refine Kd.C_drew ?_) | exact HR207_2.out)) hb)
                                have n9_ := Aside0.mk (Kd.C_below (by repeat (first | (with_reducible exact HR208_2.out) | (with_reducible refine Kd.C_alloc ?_ _) | (with_reducible refine Kd.C_drewN ?_ _) | (with_reducible refine Kd.C_drew ?_) | exact HR208_2.out)) hb)
                                have n10_ := Aside0.mk (below_step (by repeat (first | (with_reducible first | exact HB.out | apply below_alloc | apply pw_below_drewN | apply below_drew1) | exact HB.out)) hb)
                                clear HO_0
                                clear HO_6
                                clear HL204_2
                                clear HL205_2
                                clear HL207_2
                                clear HL208_2
                                clear HR204_2
                                clear HR205_2
                                clear HR207_2
                                clear HR208_2
                                clear HB
                                have HO_0 := n0_
                                have HO_6 := n1_
                                have HL204_2 := n2_
                                have HL205_2 := n3_
                                have HL207_2 := n4_
                                have HL208_2 := n5_
                                have HR204_2 := n6_
                                have HR205_2 := n7_
                                have HR207_2 := n8_
                                have HR208_2 := n9_
                                have HB := n10_
                                clear n0_ n1_ n2_ n3_ n4_ n5_ n6_ n7_ n8_ n9_ n10_
                                (try clear hb)
                                (try clear hb2)
                                (try clear hk)
                                (try clear hi)
                                refine hK.out _ _ ⟨HS0_, HS1_, HS2_, HS3_, HS4_, HS5_, HS6_, HS7_, HS8_, HS9_, HS10_, HS11_, HS12_, HS13_, HS14_, HS15_, HS16_, HS17_, HS18_, HS19_, HS20_, HS21_, HS22_, HS23_⟩ (fun hHeld => ?_)
                                clear hK K
                                refine norm_ (a' := ?_) ?_ ?_
                                rotate_left
                                · show Act.put _ (some 82) _ = _
                                  simp only [Act.put, List.setIfInBounds_toArray, List.set_cons_zero, List.set_cons_succ, i64_w, i32_w]
                                  rfl
                                refine pure_ (i := 22) (N := some 83) (v := ?_) (a' := ?_) #[true, true, true, true, true, true, true, true, true, true, true, true, true, true, true, true, true, true, true, true, true, true, true, false, false, false, false, false] rfl rfl (any_of HT_.out (by kernel_rfl)) (fun _ _ _ h => h) (Or.inl ⟨by rfl, ?_⟩) ?_ ?_
                                rotate_left
                                · intro w'
                                  go_simp
                                  with_reducible rfl
                                rotate_left
                                · simp only [Act.put, List.setIfInBounds_toArray, List.set_cons_zero, List.set_cons_succ, i64_w, i32_w]
                                  rfl
                                refine pure_ (i := 23) (N := some 84) (v := ?_) (a' := ?_) #[true, true, true, true, true, true, true, true, true, true, true, true, true, true, true, true, true, true, true, true, true, true, true, true, false, false, false, false] rfl rfl (any_of HT_.out (by kernel_rfl)) (fun _ _ _ h => h) (Or.inl ⟨by rfl, ?_⟩) ?_ ?_
                                rotate_left
                                · intro w'
                                  go_simp
                                  with_reducible rfl
                                rotate_left
                                · simp only [Act.put, List.setIfInBounds_toArray, List.set_cons_zero, List.set_cons_succ, i64_w, i32_w]
                                  rfl
                                refine pure_ (i := 24) (N := some 85) (v := ?_) (a' := ?_) #[true, true, true, true, true, true, true, true, true, true, true, true, true, true, true, true, true, true, true, true, true, true, true, true, true, false, false, false] rfl rfl (any_of HT_.out (by kernel_rfl)) (fun _ _ _ h => h) (Or.inl ⟨by rfl, ?_⟩) ?_ ?_
                                rotate_left
                                · intro w'
                                  go_simp
                                  with_reducible rfl
                                rotate_left
                                · simp only [Act.put, List.setIfInBounds_toArray, List.set_cons_zero, List.set_cons_succ, i64_w, i32_w]
                                  rfl
                                refine pure_ (i := 25) (N := some 86) (v := undef) (a' := ?_) #[true, true, true, true, true, true, true, true, true, true, true, true, true, true, true, true, true, true, true, true, true, true, true, true, true, true, false, false] rfl rfl (any_of HT_.out (by kernel_rfl)) (fun _ _ _ h => h) (Or.inr ⟨by rfl, rfl⟩) ?_ ?_
                                rotate_left
                                · simp only [Act.put, List.setIfInBounds_toArray, List.set_cons_zero, List.set_cons_succ, i64_w, i32_w]
                                  rfl
                                refine pure_ (i := 26) (N := some 87) (v := ?_) (a' := ?_) #[true, true, true, true, true, true, true, true, true, true, true, true, true, true, true, true, true, true, true, true, true, true, true, true, true, true, true, false] rfl rfl (any_of HT_.out (by kernel_rfl)) (fun _ _ _ h => h) (Or.inl ⟨by rfl, ?_⟩) ?_ ?_
                                rotate_left
                                · intro w'
                                  go_simp
                                  with_reducible rfl
                                rotate_left
                                · simp only [Act.put, List.setIfInBounds_toArray, List.set_cons_zero, List.set_cons_succ, i64_w, i32_w]
                                  rfl
                                refine pure_ (i := 27) (N := some 4) (v := ?_) (a' := ?_) #[true, true, true, true, true, true, true, true, true, true, true, true, true, true, true, true, true, true, true, true, true, true, true, true, true, true, true, true] rfl rfl (any_of HT_.out (by kernel_rfl)) (fun _ _ _ h => h) (Or.inl ⟨by rfl, ?_⟩) ?_ ?_
                                rotate_left
                                · intro w'
                                  go_simp
                                  with_reducible rfl
                                rotate_left
                                · simp only [Act.put, List.setIfInBounds_toArray, List.set_cons_zero, List.set_cons_succ, i64_w, i32_w]
                                  rfl
                                refine done_ (done_of HT_.out (by kernel_rfl)) ?_
                                try go_wp2
                                go_ret
                                exact ⟨by first | rfl | (simp [errW_none, errW_some] <;> rfl) | (simp [*, errW_none, errW_some] <;> rfl), by repeat (first | (with_reducible first | exact HB.out | apply below_alloc | apply pw_below_drewN | apply below_drew1) | exact HB.out)⟩
                              · replace c32 := Bool.eq_false_iff.mpr c32
                                subst c32
                                have H1 : ((triremelaw21_known.f kj14).bind fun t210 => (some t210)) = some r := by rw [if_neg (show ¬ (false = true) by decide)] at H; exact H
                                clear H
                                have H := H1
                                clear H1
                                replace H := Option.bind_eq_some_iff.mp H
                                obtain ⟨t210, A360, H⟩ := H
                                replace H : (some t210) = some r := H
                                have A36 := Aside0.mk A360
                                clear A360
                                obtain rfl := Option.some.inj H
                                try go_wp2
                                have n0_ := Aside0.mk (Kd.V_drew HO_0.out)
                                have n1_ := Aside0.mk (Kd.N_drew HO_6.out)
                                have n2_ := Aside0.mk (below_drew1 HB.out)
                                clear HO_0
                                clear HO_6
                                clear HB
                                have HO_0 := n0_
                                have HO_6 := n1_
                                have HB := n2_
                                clear n0_ n1_ n2_
                                have p204 : 0 ≤ (t202 : Int) := of_decide_eq_true (by first | (with_reducible assumption) | assumption)
                                have q204 : t202 < (l0.length : Int) := of_decide_eq_true (by first | (with_reducible assumption) | assumption)
                                obtain ⟨ad204, A204_2, c204_2, e204, hx204_0, hx204_1, hx204_2, hx204_3, hx204_4, hx204_5, hl204_2, hi204_2⟩ := at_T27 (Kd.V_reads' HO_0.out).2.2 t202 p204 q204
                                cases e204
                                obtain ⟨ce204, hce204, hMe204, hcc204⟩ := Kd.V_get HO_0.out z27 t202 p204 (by first | exact q204 | exact of_decide_eq_true (by first | (with_reducible assumption) | assumption) | (have e_ := (Kd.V_reads' HO_0.out).1; omega))
                                obtain ⟨ua204_2, uc204_2, rfl, ul204_2, ge204_2⟩ := k27_openF hMe204
                                have hv204_2 := hcc204 2 _ rfl
                                rw [add_field _ _ 2 (by omega)] at hv204_2
                                replace hv204_2 := Option.some.inj (hv204_2.symm.trans hx204_2)
                                injection hv204_2 with hva_ hvn_ hvc_
                                rw [hva_] at ge204_2
                                rw [hvc_] at ul204_2
                                have HL204_2 := Aside0.mk (show Kd.V Kd.string 9 _ w.heap.size _ _ ((rd_T27 l0 t202).f2) from Kd.V_mk ul204_2 ge204_2)
                                clear hva_ hvn_ hvc_ ge204_2 ul204_2
                                clear hcc204 hce204
                                have HR204_2 := Aside0.mk hi204_2
                                have HC204_2 := Aside0.mk hl204_2
                                clear hi204_2 hl204_2
                                replace p204 := eq_true p204
                                replace q204 := eq_true q204
                                have p205 : 0 ≤ (t203 : Int) := of_decide_eq_true (by first | (with_reducible assumption) | assumption)
                                have q205 : t203 < (x6_2.length : Int) := of_decide_eq_true (by first | (with_reducible assumption) | assumption)
                                obtain ⟨ad205, A205_2, c205_2, e205, hx205_0, hx205_1, hx205_2, hx205_3, hx205_4, hx205_5, hl205_2, hi205_2⟩ := at_T27 (Kd.N_reads' HO_6.out).2.2 t203 p205 q205
                                cases e205
                                obtain ⟨ce205, hce205, hMe205, hcc205⟩ := Kd.N_get HO_6.out z27 t203 p205 (by first | exact q205 | exact of_decide_eq_true (by first | (with_reducible assumption) | assumption) | (have e_ := (Kd.N_reads' HO_6.out).1; omega))
                                obtain ⟨ua205_2, uc205_2, rfl, ul205_2, ge205_2⟩ := k27_openF hMe205
                                have hv205_2 := hcc205 2 _ rfl
                                rw [add_field _ _ 2 (by omega)] at hv205_2
                                replace hv205_2 := Option.some.inj (hv205_2.symm.trans hx205_2)
                                injection hv205_2 with hva_ hvn_ hvc_
                                rw [hva_] at ge205_2
                                rw [hvc_] at ul205_2
                                have HL205_2 := Aside0.mk (show Kd.V Kd.string 9 _ w.heap.size _ _ ((rd_T27 x6_2 t203).f2) from Kd.V_mk ul205_2 ge205_2)
                                clear hva_ hvn_ hvc_ ge205_2 ul205_2
                                clear hcc205 hce205
                                have HR205_2 := Aside0.mk hi205_2
                                have HC205_2 := Aside0.mk hl205_2
                                clear hi205_2 hl205_2
                                replace p205 := eq_true p205
                                replace q205 := eq_true q205
                                have p207 : 0 ≤ (t203 : Int) := of_decide_eq_true (by first | (with_reducible assumption) | assumption)
                                have q207 : t203 < (x6_2.length : Int) := of_decide_eq_true (by first | (with_reducible assumption) | assumption)
                                obtain ⟨ad207, A207_2, c207_2, e207, hx207_0, hx207_1, hx207_2, hx207_3, hx207_4, hx207_5, hl207_2, hi207_2⟩ := at_T27 (Kd.N_reads' HO_6.out).2.2 t203 p207 q207
                                obtain rfl : ad205 = ad207 := (by injection e207)
                                obtain ⟨ce207, hce207, hMe207, hcc207⟩ := Kd.N_get HO_6.out z27 t203 p207 (by first | exact q207 | exact of_decide_eq_true (by first | (with_reducible assumption) | assumption) | (have e_ := (Kd.N_reads' HO_6.out).1; omega))
                                obtain ⟨ua207_2, uc207_2, rfl, ul207_2, ge207_2⟩ := k27_openF hMe207
                                have hv207_2 := hcc207 2 _ rfl
                                rw [add_field _ _ 2 (by omega)] at hv207_2
                                replace hv207_2 := Option.some.inj (hv207_2.symm.trans hx207_2)
                                injection hv207_2 with hva_ hvn_ hvc_
                                rw [hva_] at ge207_2
                                rw [hvc_] at ul207_2
                                have HL207_2 := Aside0.mk (show Kd.V Kd.string 9 _ w.heap.size _ _ ((rd_T27 x6_2 t203).f2) from Kd.V_mk ul207_2 ge207_2)
                                clear hva_ hvn_ hvc_ ge207_2 ul207_2
                                clear hcc207 hce207
                                have HR207_2 := Aside0.mk hi207_2
                                have HC207_2 := Aside0.mk hl207_2
                                clear hi207_2 hl207_2
                                replace p207 := eq_true p207
                                replace q207 := eq_true q207
                                have ea_ := Option.some.inj (hx205_2.symm.trans hx207_2)
                                injection ea_ with ea_ en_ ec_
                                subst ea_
                                subst ec_
                                clear en_
                                have p208 : 0 ≤ (t202 : Int) := of_decide_eq_true (by first | (with_reducible assumption) | assumption)
                                have q208 : t202 < (l0.length : Int) := of_decide_eq_true (by first | (with_reducible assumption) | assumption)
                                obtain ⟨ad208, A208_2, c208_2, e208, hx208_0, hx208_1, hx208_2, hx208_3, hx208_4, hx208_5, hl208_2, hi208_2⟩ := at_T27 (Kd.V_reads' HO_0.out).2.2 t202 p208 q208
                                obtain rfl : ad204 = ad208 := (by injection e208)
                                obtain ⟨ce208, hce208, hMe208, hcc208⟩ := Kd.V_get HO_0.out z27 t202 p208 (by first | exact q208 | exact of_decide_eq_true (by first | (with_reducible assumption) | assumption) | (have e_ := (Kd.V_reads' HO_0.out).1; omega))
                                obtain ⟨ua208_2, uc208_2, rfl, ul208_2, ge208_2⟩ := k27_openF hMe208
                                have hv208_2 := hcc208 2 _ rfl
                                rw [add_field _ _ 2 (by omega)] at hv208_2
                                replace hv208_2 := Option.some.inj (hv208_2.symm.trans hx208_2)
                                injection hv208_2 with hva_ hvn_ hvc_
                                rw [hva_] at ge208_2
                                rw [hvc_] at ul208_2
                                have HL208_2 := Aside0.mk (show Kd.V Kd.string 9 _ w.heap.size _ _ ((rd_T27 l0 t202).f2) from Kd.V_mk ul208_2 ge208_2)
                                clear hva_ hvn_ hvc_ ge208_2 ul208_2
                                clear hcc208 hce208
                                have HR208_2 := Aside0.mk hi208_2
                                have HC208_2 := Aside0.mk hl208_2
                                clear hi208_2 hl208_2
                                replace p208 := eq_true p208
                                replace q208 := eq_true q208
                                have ea_ := Option.some.inj (hx204_2.symm.trans hx208_2)
                                injection ea_ with ea_ en_ ec_
                                subst ea_
                                subst ec_
                                clear en_
                                refine start_ (n := 28) (S := fun w' => w'.cell? (ad204.add ((t202).toNat * 6)) = some (.string ((rd_T27 l0 t202).f0)) ∧ w'.cell? ⟨(ad204.add ((t202).toNat * 6)).block, (ad204.add ((t202).toNat * 6)).off + 1, none⟩ = some (.int .i64 ((rd_T27 l0 t202).f1)) ∧ w'.cell? ⟨(ad204.add ((t202).toNat * 6)).block, (ad204.add ((t202).toNat * 6)).off + 2, none⟩ = some (.slice A204_2 ((rd_T27 l0 t202).f2).length c204_2) ∧ w'.cell? ⟨(ad204.add ((t202).toNat * 6)).block, (ad204.add ((t202).toNat * 6)).off + 3, none⟩ = some (.int .i64 ((rd_T27 l0 t202).f3)) ∧ w'.cell? ⟨(ad204.add ((t202).toNat * 6)).block, (ad204.add ((t202).toNat * 6)).off + 4, none⟩ = some (.int .i64 ((rd_T27 l0 t202).f4)) ∧ w'.cell? ⟨(ad204.add ((t202).toNat * 6)).block, (ad204.add ((t202).toNat * 6)).off + 5, none⟩ = some (.int .i64 ((rd_T27 l0 t202).f5)) ∧ w'.cell? (ad205.add ((t203).toNat * 6)) = some (.string ((rd_T27 x6_2 t203).f0)) ∧ w'.cell? ⟨(ad205.add ((t203).toNat * 6)).block, (ad205.add ((t203).toNat * 6)).off + 1, none⟩ = some (.int .i64 ((rd_T27 x6_2 t203).f1)) ∧ w'.cell? ⟨(ad205.add ((t203).toNat * 6)).block, (ad205.add ((t203).toNat * 6)).off + 2, none⟩ = some (.slice A205_2 ((rd_T27 x6_2 t203).f2).length c205_2) ∧ w'.cell? ⟨(ad205.add ((t203).toNat * 6)).block, (ad205.add ((t203).toNat * 6)).off + 3, none⟩ = some (.int .i64 ((rd_T27 x6_2 t203).f3)) ∧ w'.cell? ⟨(ad205.add ((t203).toNat * 6)).block, (ad205.add ((t203).toNat * 6)).off + 4, none⟩ = some (.int .i64 ((rd_T27 x6_2 t203).f4)) ∧ w'.cell? ⟨(ad205.add ((t203).toNat * 6)).block, (ad205.add ((t203).toNat * 6)).off + 5, none⟩ = some (.int .i64 ((rd_T27 x6_2 t203).f5)) ∧ w'.cell? (ad205.add ((t203).toNat * 6)) = some (.string ((rd_T27 x6_2 t203).f0)) ∧ w'.cell? ⟨(ad205.add ((t203).toNat * 6)).block, (ad205.add ((t203).toNat * 6)).off + 1, none⟩ = some (.int .i64 ((rd_T27 x6_2 t203).f1)) ∧ w'.cell? ⟨(ad205.add ((t203).toNat * 6)).block, (ad205.add ((t203).toNat * 6)).off + 2, none⟩ = some (.slice A205_2 ((rd_T27 x6_2 t203).f2).length c205_2) ∧ w'.cell? ⟨(ad205.add ((t203).toNat * 6)).block, (ad205.add ((t203).toNat * 6)).off + 3, none⟩ = some (.int .i64 ((rd_T27 x6_2 t203).f3)) ∧ w'.cell? ⟨(ad205.add ((t203).toNat * 6)).block, (ad205.add ((t203).toNat * 6)).off + 4, none⟩ = some (.int .i64 ((rd_T27 x6_2 t203).f4)) ∧ w'.cell? ⟨(ad205.add ((t203).toNat * 6)).block, (ad205.add ((t203).toNat * 6)).off + 5, none⟩ = some (.int .i64 ((rd_T27 x6_2 t203).f5)) ∧ w'.cell? (ad204.add ((t202).toNat * 6)) = some (.string ((rd_T27 l0 t202).f0)) ∧ w'.cell? ⟨(ad204.add ((t202).toNat * 6)).block, (ad204.add ((t202).toNat * 6)).off + 1, none⟩ = some (.int .i64 ((rd_T27 l0 t202).f1)) ∧ w'.cell? ⟨(ad204.add ((t202).toNat * 6)).block, (ad204.add ((t202).toNat * 6)).off + 2, none⟩ = some (.slice A204_2 ((rd_T27 l0 t202).f2).length c204_2) ∧ w'.cell? ⟨(ad204.add ((t202).toNat * 6)).block, (ad204.add ((t202).toNat * 6)).off + 3, none⟩ = some (.int .i64 ((rd_T27 l0 t202).f3)) ∧ w'.cell? ⟨(ad204.add ((t202).toNat * 6)).block, (ad204.add ((t202).toNat * 6)).off + 4, none⟩ = some (.int .i64 ((rd_T27 l0 t202).f4)) ∧ w'.cell? ⟨(ad204.add ((t202).toNat * 6)).block, (ad204.add ((t202).toNat * 6)).off + 5, none⟩ = some (.int .i64 ((rd_T27 l0 t202).f5))) (ds := []) #[false, false, false, false, false, false, false, false, false, false, false, false, false, false, false, false, false, false, false, false, false, false, false, false, false, false, false, false] (by kernel_rfl) rfl rfl ⟨hx204_0, hx204_1, hx204_2, hx204_3, hx204_4, hx204_5, hx205_0, hx205_1, hx205_2, hx205_3, hx205_4, hx205_5, hx207_0, hx207_1, hx207_2, hx207_3, hx207_4, hx207_5, hx208_0, hx208_1, hx208_2, hx208_3, hx208_4, hx208_5⟩ (fun hHeld => ?_); refine with_tabW triremelaw21_ExpandOrder.tab13 triremelaw21_ExpandOrder.bits13 (fun HT_ HW_ => ?_)
                                generalize wc.drew = w37 at HO_0 HO_6 HB HL204_2 HL205_2 HL207_2 HL208_2 HR204_2 HR205_2 HR207_2 HR208_2 hx204_0 hx204_1 hx204_2 hx204_3 hx204_4 hx204_5 hx205_0 hx205_1 hx205_2 hx205_3 hx205_4 hx205_5 hx207_0 hx207_1 hx207_2 hx207_3 hx207_4 hx207_5 hx208_0 hx208_1 hx208_2 hx208_3 hx208_4 hx208_5 hHeld ⊢
                                refine pure_ (i := 0) (N := some 61) (v := ?_) (a' := ?_) #[true, false, false, false, false, false, false, false, false, false, false, false, false, false, false, false, false, false, false, false, false, false, false, false, false, false, false, false] rfl rfl (any_of HT_.out (by kernel_rfl)) (fun _ _ _ h => h) (Or.inl ⟨by rfl, ?_⟩) ?_ ?_
                                rotate_left
                                · intro w'
                                  go_simp
                                  with_reducible rfl
                                rotate_left
                                · simp only [Act.put, List.setIfInBounds_toArray, List.set_cons_zero, List.set_cons_succ, i64_w, i32_w]
                                  rfl
                                refine pure_ (i := 1) (N := some 62) (v := ?_) (a' := ?_) #[true, true, false, false, false, false, false, false, false, false, false, false, false, false, false, false, false, false, false, false, false, false, false, false, false, false, false, false] rfl rfl (any_of HT_.out (by kernel_rfl)) (fun _ _ _ h => h) (Or.inl ⟨by rfl, ?_⟩) ?_ ?_
                                rotate_left
                                · intro w'
                                  go_simp
                                  with_reducible rfl
                                rotate_left
                                · simp only [Act.put, List.setIfInBounds_toArray, List.set_cons_zero, List.set_cons_succ, i64_w, i32_w]
                                  rfl
                                refine pure_ (i := 2) (N := some 63) (v := ?_) (a' := ?_) #[true, true, true, false, false, false, false, false, false, false, false, false, false, false, false, false, false, false, false, false, false, false, false, false, false, false, false, false] rfl rfl (any_of HT_.out (by kernel_rfl)) (fun _ _ _ h => h) (Or.inl ⟨by rfl, ?_⟩) ?_ ?_
                                rotate_left
                                · intro w'
                                  go_simp
                                  with_reducible rfl
                                rotate_left
                                · simp only [Act.put, List.setIfInBounds_toArray, List.set_cons_zero, List.set_cons_succ, i64_w, i32_w]
                                  rfl
                                refine pure_ (i := 4) (N := some 65) (v := ?_) (a' := ?_) #[true, true, true, false, true, false, false, false, false, false, false, false, false, false, false, false, false, false, false, false, false, false, false, false, false, false, false, false] rfl rfl (any_of HT_.out (by kernel_rfl)) (fun _ _ _ h => h) (Or.inl ⟨by rfl, ?_⟩) ?_ ?_
                                rotate_left
                                · intro w'
                                  go_simp
                                  with_reducible rfl
                                rotate_left
                                · simp only [Act.put, List.setIfInBounds_toArray, List.set_cons_zero, List.set_cons_succ, i64_w, i32_w]
                                  rfl
                                refine pure_ (i := 5) (N := some 66) (v := ?_) (a' := ?_) #[true, true, true, false, true, true, false, false, false, false, false, false, false, false, false, false, false, false, false, false, false, false, false, false, false, false, false, false] rfl rfl (any_of HT_.out (by kernel_rfl)) (fun _ _ _ h => h) (Or.inl ⟨by rfl, ?_⟩) ?_ ?_
                                rotate_left
                                · intro w'
                                  go_simp
                                  with_reducible rfl
                                rotate_left
                                · simp only [Act.put, List.setIfInBounds_toArray, List.set_cons_zero, List.set_cons_succ, i64_w, i32_w]
                                  rfl
                                refine pure_ (i := 6) (N := some 67) (v := ?_) (a' := ?_) #[true, true, true, false, true, true, true, false, false, false, false, false, false, false, false, false, false, false, false, false, false, false, false, false, false, false, false, false] rfl rfl (any_of HT_.out (by kernel_rfl)) (fun _ _ _ h => h) (Or.inl ⟨by rfl, ?_⟩) ?_ ?_
                                rotate_left
                                · intro w'
                                  go_simp
                                  with_reducible rfl
                                rotate_left
                                · simp only [Act.put, List.setIfInBounds_toArray, List.set_cons_zero, List.set_cons_succ, i64_w, i32_w]
                                  rfl
                                refine pure_ (i := 8) (N := some 69) (v := ?_) (a' := ?_) #[true, true, true, false, true, true, true, false, true, false, false, false, false, false, false, false, false, false, false, false, false, false, false, false, false, false, false, false] rfl rfl (any_of HT_.out (by kernel_rfl)) (fun _ _ _ h => h) (Or.inl ⟨by rfl, ?_⟩) ?_ ?_
                                rotate_left
                                · intro w'
                                  go_simp
                                  with_reducible rfl
                                rotate_left
                                · simp only [Act.put, List.setIfInBounds_toArray, List.set_cons_zero, List.set_cons_succ, i64_w, i32_w]
                                  rfl
                                refine take_ (i := 3) (N := some 64) (v := ?_) (a' := ?_) #[true, true, true, true, true, true, true, false, true, false, false, false, false, false, false, false, false, false, false, false, false, false, false, false, false, false, false, false] rfl rfl (take_ofW HT_.out HW_.out (by kernel_rfl)) (fun _ _ _ h => h) (Or.inl ⟨by rfl, ?_⟩) hHeld ?_ ?_
                                rotate_left
                                · rintro w' ⟨s0, s1, s2, s3, s4, s5, s6, s7, s8, s9, s10, s11, s12, s13, s14, s15, s16, s17, s18, s19, s20, s21, s22, s23⟩
                                  go_simp
                                  with_reducible rfl
                                rotate_left
                                · simp only [Act.put, List.setIfInBounds_toArray, List.set_cons_zero, List.set_cons_succ, i64_w, i32_w]
                                  rfl
                                refine take_ (i := 7) (N := some 68) (v := ?_) (a' := ?_) #[true, true, true, true, true, true, true, true, true, false, false, false, false, false, false, false, false, false, false, false, false, false, false, false, false, false, false, false] rfl rfl (take_ofW HT_.out HW_.out (by kernel_rfl)) (fun _ _ _ h => h) (Or.inl ⟨by rfl, ?_⟩) hHeld ?_ ?_
                                rotate_left
                                · rintro w' ⟨s0, s1, s2, s3, s4, s5, s6, s7, s8, s9, s10, s11, s12, s13, s14, s15, s16, s17, s18, s19, s20, s21, s22, s23⟩
                                  go_simp
                                  with_reducible rfl
                                rotate_left
                                · simp only [Act.put, List.setIfInBounds_toArray, List.set_cons_zero, List.set_cons_succ, i64_w, i32_w]
                                  rfl
                                refine one_ (i := 9) (N := some 70) #[true, true, true, true, true, true, true, true, true, true, false, false, false, false, false, false, false, false, false, false, false, false, false, false, false, false, false, false] rfl rfl (one_of HT_.out (by kernel_rfl)) (by decide) (fun K hK => ?_)
                                refine goes_ Try.func16 (by kernel_rfl) rfl #[.agg #[.string ((rd_T27 l0 t202).f0), .int .i64 ((rd_T27 l0 t202).f1), .slice A204_2 ((rd_T27 l0 t202).f2).length c204_2, .int .i64 ((rd_T27 l0 t202).f3), .int .i64 ((rd_T27 l0 t202).f4), .int .i64 ((rd_T27 l0 t202).f5)], .agg #[.string ((rd_T27 x6_2 t203).f0), .int .i64 ((rd_T27 x6_2 t203).f1), .slice A205_2 ((rd_T27 x6_2 t203).f2).length c205_2, .int .i64 ((rd_T27 x6_2 t203).f3), .int .i64 ((rd_T27 x6_2 t203).f4), .int .i64 ((rd_T27 x6_2 t203).f5)], .int .i64 (wrap64 (1 + (Int.tmod (wrap64 (a1)) 3)))] (by rfl) rfl rfl (by (try simp only [List.map_toArray, List.map_cons, List.map_nil]); first | done | rfl | (simp only [List.length_drop, List.length_take]; rfl)) ?_
                                with_reducible refine (expand_Better.calls kj14 ((rd_T27 l0 t202).f0) ((rd_T27 l0 t202).f1) _ _ ((rd_T27 l0 t202).f2) ((rd_T27 l0 t202).f3) ((rd_T27 l0 t202).f4) ((rd_T27 l0 t202).f5) ((rd_T27 x6_2 t203).f0) ((rd_T27 x6_2 t203).f1) _ _ ((rd_T27 x6_2 t203).f2) ((rd_T27 x6_2 t203).f3) ((rd_T27 x6_2 t203).f4) ((rd_T27 x6_2 t203).f5) (wrap64 (1 + (Int.tmod (wrap64 (a1)) 3))) false _ ?side1 ?side2 ?side3 ?side4 A27.out).mono ?_
                                (case side1 => repeat (first | exact (by repeat (first | (with_reducible exact HR204_2.out) | (with_reducible refine Kd.C_alloc ?_ _) | (with_reducible refine Kd.C_drewN ?_ _) | (with_reducible refine Kd.C_drew ?_) | exact HR204_2.out)) | (with_reducible refine Kd.C_alloc ?_ _) | (with_reducible refine Kd.C_drewN ?_ _) | (with_reducible refine Kd.C_drew ?_)))
                                (case side2 => exact HC204_2.out)
                                (case side3 => repeat (first | exact (by repeat (first | (with_reducible exact HR205_2.out) | (with_reducible refine Kd.C_alloc ?_ _) | (with_reducible refine Kd.C_drewN ?_ _) | (with_reducible refine Kd.C_drew ?_) | exact HR205_2.out)) | (with_reducible refine Kd.C_alloc ?_ _) | (with_reducible refine Kd.C_drewN ?_ _) | (with_reducible refine Kd.C_drew ?_)))
                                (case side4 => exact HC205_2.out)
                                rintro e w38 ⟨rfl, hb⟩
                                have HS0_ := (hb.cell (World.block_lt_of_cell? _ _ (hHeld.1))).trans (hHeld.1)
                                have HS1_ := (hb.cell (World.block_lt_of_cell? _ _ (hHeld.2.1))).trans (hHeld.2.1)
                                have HS2_ := (hb.cell (World.block_lt_of_cell? _ _ (hHeld.2.2.1))).trans (hHeld.2.2.1)
                                have HS3_ := (hb.cell (World.block_lt_of_cell? _ _ (hHeld.2.2.2.1))).trans (hHeld.2.2.2.1)
                                have HS4_ := (hb.cell (World.block_lt_of_cell? _ _ (hHeld.2.2.2.2.1))).trans (hHeld.2.2.2.2.1)
                                have HS5_ := (hb.cell (World.block_lt_of_cell? _ _ (hHeld.2.2.2.2.2.1))).trans (hHeld.2.2.2.2.2.1)
                                have HS6_ := (hb.cell (World.block_lt_of_cell? _ _ (hHeld.2.2.2.2.2.2.1))).trans (hHeld.2.2.2.2.2.2.1)
                                have HS7_ := (hb.cell (World.block_lt_of_cell? _ _ (hHeld.2.2.2.2.2.2.2.1))).trans (hHeld.2.2.2.2.2.2.2.1)
                                have HS8_ := (hb.cell (World.block_lt_of_cell? _ _ (hHeld.2.2.2.2.2.2.2.2.1))).trans (hHeld.2.2.2.2.2.2.2.2.1)
                                have HS9_ := (hb.cell (World.block_lt_of_cell? _ _ (hHeld.2.2.2.2.2.2.2.2.2.1))).trans (hHeld.2.2.2.2.2.2.2.2.2.1)
                                have HS10_ := (hb.cell (World.block_lt_of_cell? _ _ (hHeld.2.2.2.2.2.2.2.2.2.2.1))).trans (hHeld.2.2.2.2.2.2.2.2.2.2.1)
                                have HS11_ := (hb.cell (World.block_lt_of_cell? _ _ (hHeld.2.2.2.2.2.2.2.2.2.2.2.1))).trans (hHeld.2.2.2.2.2.2.2.2.2.2.2.1)
                                have HS12_ := (hb.cell (World.block_lt_of_cell? _ _ (hHeld.2.2.2.2.2.2.2.2.2.2.2.2.1))).trans (hHeld.2.2.2.2.2.2.2.2.2.2.2.2.1)
                                have HS13_ := (hb.cell (World.block_lt_of_cell? _ _ (hHeld.2.2.2.2.2.2.2.2.2.2.2.2.2.1))).trans (hHeld.2.2.2.2.2.2.2.2.2.2.2.2.2.1)
                                have HS14_ := (hb.cell (World.block_lt_of_cell? _ _ (hHeld.2.2.2.2.2.2.2.2.2.2.2.2.2.2.1))).trans (hHeld.2.2.2.2.2.2.2.2.2.2.2.2.2.2.1)
                                have HS15_ := (hb.cell (World.block_lt_of_cell? _ _ (hHeld.2.2.2.2.2.2.2.2.2.2.2.2.2.2.2.1))).trans (hHeld.2.2.2.2.2.2.2.2.2.2.2.2.2.2.2.1)
                                have HS16_ := (hb.cell (World.block_lt_of_cell? _ _ (hHeld.2.2.2.2.2.2.2.2.2.2.2.2.2.2.2.2.1))).trans (hHeld.2.2.2.2.2.2.2.2.2.2.2.2.2.2.2.2.1)
                                have HS17_ := (hb.cell (World.block_lt_of_cell? _ _ (hHeld.2.2.2.2.2.2.2.2.2.2.2.2.2.2.2.2.2.1))).trans (hHeld.2.2.2.2.2.2.2.2.2.2.2.2.2.2.2.2.2.1)
                                have HS18_ := (hb.cell (World.block_lt_of_cell? _ _ (hHeld.2.2.2.2.2.2.2.2.2.2.2.2.2.2.2.2.2.2.1))).trans (hHeld.2.2.2.2.2.2.2.2.2.2.2.2.2.2.2.2.2.2.1)
                                have HS19_ := (hb.cell (World.block_lt_of_cell? _ _ (hHeld.2.2.2.2.2.2.2.2.2.2.2.2.2.2.2.2.2.2.2.1))).trans (hHeld.2.2.2.2.2.2.2.2.2.2.2.2.2.2.2.2.2.2.2.1)
                                have HS20_ := (hb.cell (World.block_lt_of_cell? _ _ (hHeld.2.2.2.2.2.2.2.2.2.2.2.2.2.2.2.2.2.2.2.2.1))).trans (hHeld.2.2.2.2.2.2.2.2.2.2.2.2.2.2.2.2.2.2.2.2.1)
                                have HS21_ := (hb.cell (World.block_lt_of_cell? _ _ (hHeld.2.2.2.2.2.2.2.2.2.2.2.2.2.2.2.2.2.2.2.2.2.1))).trans (hHeld.2.2.2.2.2.2.2.2.2.2.2.2.2.2.2.2.2.2.2.2.2.1)
                                have HS22_ := (hb.cell (World.block_lt_of_cell? _ _ (hHeld.2.2.2.2.2.2.2.2.2.2.2.2.2.2.2.2.2.2.2.2.2.2.1))).trans (hHeld.2.2.2.2.2.2.2.2.2.2.2.2.2.2.2.2.2.2.2.2.2.2.1)
                                have HS23_ := (hb.cell (World.block_lt_of_cell? _ _ (hHeld.2.2.2.2.2.2.2.2.2.2.2.2.2.2.2.2.2.2.2.2.2.2.2))).trans (hHeld.2.2.2.2.2.2.2.2.2.2.2.2.2.2.2.2.2.2.2.2.2.2.2)
                                refine ⟨_, rfl, ?_⟩
                                have n0_ := Aside0.mk (Kd.V_below (by (with_reducible repeat (first | apply Kd.V_alloc | apply Kd.V_drewN | apply Kd.V_drew)); exact HO_0.out) hb)
                                have n1_ := Aside0.mk (Kd.N_below (by (with_reducible repeat (first | apply Kd.N_alloc | apply Kd.N_drewN | apply Kd.N_drew)); exact HO_6.out) hb)
                                have n2_ := Aside0.mk (Kd.V_below (by (with_reducible repeat (first | apply Kd.V_alloc | apply Kd.V_drewN | apply Kd.V_drew)); exact HL204_2.out) hb)
                                have n3_ := Aside0.mk (Kd.V_below (by (with_reducible repeat (first | apply Kd.V_alloc | apply Kd.V_drewN | apply Kd.V_drew)); exact HL205_2.out) hb)
                                have n4_ := Aside0.mk (Kd.V_below (by (with_reducible repeat (first | apply Kd.V_alloc | apply Kd.V_drewN | apply Kd.V_drew)); exact HL207_2.out) hb)
                                have n5_ := Aside0.mk (Kd.V_below (by (with_reducible repeat (first | apply Kd.V_alloc | apply Kd.V_drewN | apply Kd.V_drew)); exact HL208_2.out) hb)
                                have n6_ := Aside0.mk (Kd.C_below (by repeat (first | (with_reducible exact HR204_2.out) | (with_reducible refine Kd.C_alloc ?_ _) | (with_reducible refine Kd.C_drewN ?_ _) | (with_reducible refine Kd.C_drew ?_) | exact HR204_2.out)) hb)
                                have n7_ := Aside0.mk (Kd.C_below (by repeat (first | (with_reducible exact HR205_2.out) | (with_reducible refine Kd.C_alloc ?_ _) | (with_reducible refine Kd.C_drewN ?_ _) | (with_reducible refine Kd.C_drew ?_) | exact HR205_2.out)) hb)
                                have n8_ := Aside0.mk (Kd.C_below (by repeat (first | (with_reducible exact HR207_2.out) | (with_reducible refine Kd.C_alloc ?_ _) | (with_reducible refine Kd.C_drewN ?_ _) | (with_reducible refine Kd.C_drew ?_) | exact HR207_2.out)) hb)
                                have n9_ := Aside0.mk (Kd.C_below (by repeat (first | (with_reducible exact HR208_2.out) | (with_reducible refine Kd.C_alloc ?_ _) | (with_reducible refine Kd.C_drewN ?_ _) | (with_reducible refine Kd.C_drew ?_) | exact HR208_2.out)) hb)
                                have n10_ := Aside0.mk (below_step (by repeat (first | (with_reducible first | exact HB.out | apply below_alloc | apply pw_below_drewN | apply below_drew1) | exact HB.out)) hb)
                                clear HO_0
                                clear HO_6
                                clear HL204_2
                                clear HL205_2
                                clear HL207_2
                                clear HL208_2
                                clear HR204_2
                                clear HR205_2
                                clear HR207_2
                                clear HR208_2
                                clear HB
                                have HO_0 := n0_
                                have HO_6 := n1_
                                have HL204_2 := n2_
                                have HL205_2 := n3_
                                have HL207_2 := n4_
                                have HL208_2 := n5_
                                have HR204_2 := n6_
                                have HR205_2 := n7_
                                have HR207_2 := n8_
                                have HR208_2 := n9_
                                have HB := n10_
                                clear n0_ n1_ n2_ n3_ n4_ n5_ n6_ n7_ n8_ n9_ n10_
                                (try clear hb)
                                (try clear hb2)
                                (try clear hk)
                                (try clear hi)
                                refine hK.out _ _ ⟨HS0_, HS1_, HS2_, HS3_, HS4_, HS5_, HS6_, HS7_, HS8_, HS9_, HS10_, HS11_, HS12_, HS13_, HS14_, HS15_, HS16_, HS17_, HS18_, HS19_, HS20_, HS21_, HS22_, HS23_⟩ (fun hHeld => ?_)
                                clear hK K
                                refine norm_ (a' := ?_) ?_ ?_
                                rotate_left
                                · show Act.put _ (some 70) _ = _
                                  simp only [Act.put, List.setIfInBounds_toArray, List.set_cons_zero, List.set_cons_succ, i64_w, i32_w]
                                  rfl
                                refine pure_ (i := 10) (N := some 71) (v := ?_) (a' := ?_) #[true, true, true, true, true, true, true, true, true, true, true, false, false, false, false, false, false, false, false, false, false, false, false, false, false, false, false, false] rfl rfl (any_of HT_.out (by kernel_rfl)) (fun _ _ _ h => h) (Or.inl ⟨by rfl, ?_⟩) ?_ ?_
                                rotate_left
                                · intro w'
                                  go_simp
                                  with_reducible rfl
                                rotate_left
                                · simp only [Act.put, List.setIfInBounds_toArray, List.set_cons_zero, List.set_cons_succ, i64_w, i32_w]
                                  rfl
                                refine pure_ (i := 11) (N := some 72) (v := ?_) (a' := ?_) #[true, true, true, true, true, true, true, true, true, true, true, true, false, false, false, false, false, false, false, false, false, false, false, false, false, false, false, false] rfl rfl (any_of HT_.out (by kernel_rfl)) (fun _ _ _ h => h) (Or.inl ⟨by rfl, ?_⟩) ?_ ?_
                                rotate_left
                                · intro w'
                                  go_simp
                                  with_reducible rfl
                                rotate_left
                                · simp only [Act.put, List.setIfInBounds_toArray, List.set_cons_zero, List.set_cons_succ, i64_w, i32_w]
                                  rfl
                                refine pure_ (i := 12) (N := some 73) (v := ?_) (a' := ?_) #[true, true, true, true, true, true, true, true, true, true, true, true, true, false, false, false, false, false, false, false, false, false, false, false, false, false, false, false] rfl rfl (any_of HT_.out (by kernel_rfl)) (fun _ _ _ h => h) (Or.inl ⟨by rfl, ?_⟩) ?_ ?_
                                rotate_left
                                · intro w'
                                  go_simp
                                  with_reducible rfl
                                rotate_left
                                · simp only [Act.put, List.setIfInBounds_toArray, List.set_cons_zero, List.set_cons_succ, i64_w, i32_w]
                                  rfl
                                refine pure_ (i := 13) (N := some 74) (v := ?_) (a' := ?_) #[true, true, true, true, true, true, true, true, true, true, true, true, true, true, false, false, false, false, false, false, false, false, false, false, false, false, false, false] rfl rfl (any_of HT_.out (by kernel_rfl)) (fun _ _ _ h => h) (Or.inl ⟨by rfl, ?_⟩) ?_ ?_
                                rotate_left
                                · intro w'
                                  go_simp
                                  with_reducible rfl
                                rotate_left
                                · simp only [Act.put, List.setIfInBounds_toArray, List.set_cons_zero, List.set_cons_succ, i64_w, i32_w]
                                  rfl
                                refine pure_ (i := 14) (N := some 75) (v := ?_) (a' := ?_) #[true, true, true, true, true, true, true, true, true, true, true, true, true, true, true, false, false, false, false, false, false, false, false, false, false, false, false, false] rfl rfl (any_of HT_.out (by kernel_rfl)) (fun _ _ _ h => h) (Or.inl ⟨by rfl, ?_⟩) ?_ ?_
                                rotate_left
                                · intro w'
                                  go_simp
                                  with_reducible rfl
                                rotate_left
                                · simp only [Act.put, List.setIfInBounds_toArray, List.set_cons_zero, List.set_cons_succ, i64_w, i32_w]
                                  rfl
                                refine pure_ (i := 16) (N := some 77) (v := ?_) (a' := ?_) #[true, true, true, true, true, true, true, true, true, true, true, true, true, true, true, false, true, false, false, false, false, false, false, false, false, false, false, false] rfl rfl (any_of HT_.out (by kernel_rfl)) (fun _ _ _ h => h) (Or.inl ⟨by rfl, ?_⟩) ?_ ?_
                                rotate_left
                                · intro w'
                                  go_simp
                                  with_reducible rfl
                                rotate_left
                                · simp only [Act.put, List.setIfInBounds_toArray, List.set_cons_zero, List.set_cons_succ, i64_w, i32_w]
                                  rfl
                                refine pure_ (i := 17) (N := some 78) (v := ?_) (a' := ?_) #[true, true, true, true, true, true, true, true, true, true, true, true, true, true, true, false, true, true, false, false, false, false, false, false, false, false, false, false] rfl rfl (any_of HT_.out (by kernel_rfl)) (fun _ _ _ h => h) (Or.inl ⟨by rfl, ?_⟩) ?_ ?_
                                rotate_left
                                · intro w'
                                  go_simp
                                  with_reducible rfl
                                rotate_left
                                · simp only [Act.put, List.setIfInBounds_toArray, List.set_cons_zero, List.set_cons_succ, i64_w, i32_w]
                                  rfl
                                refine pure_ (i := 18) (N := some 79) (v := ?_) (a' := ?_) #[true, true, true, true, true, true, true, true, true, true, true, true, true, true, true, false, true, true, true, false, false, false, false, false, false, false, false, false] rfl rfl (any_of HT_.out (by kernel_rfl)) (fun _ _ _ h => h) (Or.inl ⟨by rfl, ?_⟩) ?_ ?_
                                rotate_left
                                · intro w'
                                  go_simp
                                  with_reducible rfl
                                rotate_left
                                · simp only [Act.put, List.setIfInBounds_toArray, List.set_cons_zero, List.set_cons_succ, i64_w, i32_w]
                                  rfl
                                refine pure_ (i := 20) (N := some 81) (v := ?_) (a' := ?_) #[true, true, true, true, true, true, true, true, true, true, true, true, true, true, true, false, true, true, true, false, true, false, false, false, false, false, false, false] rfl rfl (any_of HT_.out (by kernel_rfl)) (fun _ _ _ h => h) (Or.inl ⟨by rfl, ?_⟩) ?_ ?_
                                rotate_left
                                · intro w'
                                  go_simp
                                  with_reducible rfl
                                rotate_left
                                · simp only [Act.put, List.setIfInBounds_toArray, List.set_cons_zero, List.set_cons_succ, i64_w, i32_w]
                                  rfl
                                refine take_ (i := 15) (N := some 76) (v := ?_) (a' := ?_) #[true, true, true, true, true, true, true, true, true, true, true, true, true, true, true, true, true, true, true, false, true, false, false, false, false, false, false, false] rfl rfl (take_ofW HT_.out HW_.out (by kernel_rfl)) (fun _ _ _ h => h) (Or.inl ⟨by rfl, ?_⟩) hHeld ?_ ?_
                                rotate_left
                                · rintro w' ⟨s0, s1, s2, s3, s4, s5, s6, s7, s8, s9, s10, s11, s12, s13, s14, s15, s16, s17, s18, s19, s20, s21, s22, s23⟩
                                  go_simp
                                  with_reducible rfl
                                rotate_left
                                · simp only [Act.put, List.setIfInBounds_toArray, List.set_cons_zero, List.set_cons_succ, i64_w, i32_w]
                                  rfl
                                refine take_ (i := 19) (N := some 80) (v := ?_) (a' := ?_) #[true, true, true, true, true, true, true, true, true, true, true, true, true, true, true, true, true, true, true, true, true, false, false, false, false, false, false, false] rfl rfl (take_ofW HT_.out HW_.out (by kernel_rfl)) (fun _ _ _ h => h) (Or.inl ⟨by rfl, ?_⟩) hHeld ?_ ?_
                                rotate_left
                                · rintro w' ⟨s0, s1, s2, s3, s4, s5, s6, s7, s8, s9, s10, s11, s12, s13, s14, s15, s16, s17, s18, s19, s20, s21, s22, s23⟩
                                  go_simp
                                  with_reducible rfl
                                rotate_left
                                · simp only [Act.put, List.setIfInBounds_toArray, List.set_cons_zero, List.set_cons_succ, i64_w, i32_w]
                                  rfl
                                refine one_ (i := 21) (N := some 82) #[true, true, true, true, true, true, true, true, true, true, true, true, true, true, true, true, true, true, true, true, true, true, false, false, false, false, false, false] rfl rfl (one_of HT_.out (by kernel_rfl)) (by decide) (fun K hK => ?_)
                                refine goes_ Try.func16 (by kernel_rfl) rfl #[.agg #[.string ((rd_T27 x6_2 t203).f0), .int .i64 ((rd_T27 x6_2 t203).f1), .slice A205_2 ((rd_T27 x6_2 t203).f2).length c205_2, .int .i64 ((rd_T27 x6_2 t203).f3), .int .i64 ((rd_T27 x6_2 t203).f4), .int .i64 ((rd_T27 x6_2 t203).f5)], .agg #[.string ((rd_T27 l0 t202).f0), .int .i64 ((rd_T27 l0 t202).f1), .slice A204_2 ((rd_T27 l0 t202).f2).length c204_2, .int .i64 ((rd_T27 l0 t202).f3), .int .i64 ((rd_T27 l0 t202).f4), .int .i64 ((rd_T27 l0 t202).f5)], .int .i64 (wrap64 (1 + (Int.tmod (wrap64 (a1)) 3)))] (by rfl) rfl rfl (by (try simp only [List.map_toArray, List.map_cons, List.map_nil]); first | done | rfl | (simp only [List.length_drop, List.length_take]; rfl)) ?_
                                with_reducible refine (expand_Better.calls kj14 ((rd_T27 x6_2 t203).f0) ((rd_T27 x6_2 t203).f1) _ _ ((rd_T27 x6_2 t203).f2) ((rd_T27 x6_2 t203).f3) ((rd_T27 x6_2 t203).f4) ((rd_T27 x6_2 t203).f5) ((rd_T27 l0 t202).f0) ((rd_T27 l0 t202).f1) _ _ ((rd_T27 l0 t202).f2) ((rd_T27 l0 t202).f3) ((rd_T27 l0 t202).f4) ((rd_T27 l0 t202).f5) (wrap64 (1 + (Int.tmod (wrap64 (a1)) 3))) false _ ?side1 ?side2 ?side3 ?side4 A31.out).mono ?_
                                (case side1 => repeat (first | exact (by repeat (first | (with_reducible exact HR207_2.out) | (with_reducible refine Kd.C_alloc ?_ _) | (with_reducible refine Kd.C_drewN ?_ _) | (with_reducible refine Kd.C_drew ?_) | exact HR207_2.out)) | (with_reducible refine Kd.C_alloc ?_ _) | (with_reducible refine Kd.C_drewN ?_ _) | (with_reducible refine Kd.C_drew ?_)))
                                (case side2 => exact HC207_2.out)
                                (case side3 => repeat (first | exact (by repeat (first | (with_reducible exact HR208_2.out) | (with_reducible refine Kd.C_alloc ?_ _) | (with_reducible refine Kd.C_drewN ?_ _) | (with_reducible refine Kd.C_drew ?_) | exact HR208_2.out)) | (with_reducible refine Kd.C_alloc ?_ _) | (with_reducible refine Kd.C_drewN ?_ _) | (with_reducible refine Kd.C_drew ?_)))
                                (case side4 => exact HC208_2.out)
                                rintro e w39 ⟨rfl, hb⟩
                                have HS0_ := (hb.cell (World.block_lt_of_cell? _ _ (hHeld.1))).trans (hHeld.1)
                                have HS1_ := (hb.cell (World.block_lt_of_cell? _ _ (hHeld.2.1))).trans (hHeld.2.1)
                                have HS2_ := (hb.cell (World.block_lt_of_cell? _ _ (hHeld.2.2.1))).trans (hHeld.2.2.1)
                                have HS3_ := (hb.cell (World.block_lt_of_cell? _ _ (hHeld.2.2.2.1))).trans (hHeld.2.2.2.1)
                                have HS4_ := (hb.cell (World.block_lt_of_cell? _ _ (hHeld.2.2.2.2.1))).trans (hHeld.2.2.2.2.1)
                                have HS5_ := (hb.cell (World.block_lt_of_cell? _ _ (hHeld.2.2.2.2.2.1))).trans (hHeld.2.2.2.2.2.1)
                                have HS6_ := (hb.cell (World.block_lt_of_cell? _ _ (hHeld.2.2.2.2.2.2.1))).trans (hHeld.2.2.2.2.2.2.1)
                                have HS7_ := (hb.cell (World.block_lt_of_cell? _ _ (hHeld.2.2.2.2.2.2.2.1))).trans (hHeld.2.2.2.2.2.2.2.1)
                                have HS8_ := (hb.cell (World.block_lt_of_cell? _ _ (hHeld.2.2.2.2.2.2.2.2.1))).trans (hHeld.2.2.2.2.2.2.2.2.1)
                                have HS9_ := (hb.cell (World.block_lt_of_cell? _ _ (hHeld.2.2.2.2.2.2.2.2.2.1))).trans (hHeld.2.2.2.2.2.2.2.2.2.1)
                                have HS10_ := (hb.cell (World.block_lt_of_cell? _ _ (hHeld.2.2.2.2.2.2.2.2.2.2.1))).trans (hHeld.2.2.2.2.2.2.2.2.2.2.1)
                                have HS11_ := (hb.cell (World.block_lt_of_cell? _ _ (hHeld.2.2.2.2.2.2.2.2.2.2.2.1))).trans (hHeld.2.2.2.2.2.2.2.2.2.2.2.1)
                                have HS12_ := (hb.cell (World.block_lt_of_cell? _ _ (hHeld.2.2.2.2.2.2.2.2.2.2.2.2.1))).trans (hHeld.2.2.2.2.2.2.2.2.2.2.2.2.1)
                                have HS13_ := (hb.cell (World.block_lt_of_cell? _ _ (hHeld.2.2.2.2.2.2.2.2.2.2.2.2.2.1))).trans (hHeld.2.2.2.2.2.2.2.2.2.2.2.2.2.1)
                                have HS14_ := (hb.cell (World.block_lt_of_cell? _ _ (hHeld.2.2.2.2.2.2.2.2.2.2.2.2.2.2.1))).trans (hHeld.2.2.2.2.2.2.2.2.2.2.2.2.2.2.1)
                                have HS15_ := (hb.cell (World.block_lt_of_cell? _ _ (hHeld.2.2.2.2.2.2.2.2.2.2.2.2.2.2.2.1))).trans (hHeld.2.2.2.2.2.2.2.2.2.2.2.2.2.2.2.1)
                                have HS16_ := (hb.cell (World.block_lt_of_cell? _ _ (hHeld.2.2.2.2.2.2.2.2.2.2.2.2.2.2.2.2.1))).trans (hHeld.2.2.2.2.2.2.2.2.2.2.2.2.2.2.2.2.1)
                                have HS17_ := (hb.cell (World.block_lt_of_cell? _ _ (hHeld.2.2.2.2.2.2.2.2.2.2.2.2.2.2.2.2.2.1))).trans (hHeld.2.2.2.2.2.2.2.2.2.2.2.2.2.2.2.2.2.1)
                                have HS18_ := (hb.cell (World.block_lt_of_cell? _ _ (hHeld.2.2.2.2.2.2.2.2.2.2.2.2.2.2.2.2.2.2.1))).trans (hHeld.2.2.2.2.2.2.2.2.2.2.2.2.2.2.2.2.2.2.1)
                                have HS19_ := (hb.cell (World.block_lt_of_cell? _ _ (hHeld.2.2.2.2.2.2.2.2.2.2.2.2.2.2.2.2.2.2.2.1))).trans (hHeld.2.2.2.2.2.2.2.2.2.2.2.2.2.2.2.2.2.2.2.1)
                                have HS20_ := (hb.cell (World.block_lt_of_cell? _ _ (hHeld.2.2.2.2.2.2.2.2.2.2.2.2.2.2.2.2.2.2.2.2.1))).trans (hHeld.2.2.2.2.2.2.2.2.2.2.2.2.2.2.2.2.2.2.2.2.1)
                                have HS21_ := (hb.cell (World.block_lt_of_cell? _ _ (hHeld.2.2.2.2.2.2.2.2.2.2.2.2.2.2.2.2.2.2.2.2.2.1))).trans (hHeld.2.2.2.2.2.2.2.2.2.2.2.2.2.2.2.2.2.2.2.2.2.1)
                                have HS22_ := (hb.cell (World.block_lt_of_cell? _ _ (hHeld.2.2.2.2.2.2.2.2.2.2.2.2.2.2.2.2.2.2.2.2.2.2.1))).trans (hHeld.2.2.2.2.2.2.2.2.2.2.2.2.2.2.2.2.2.2.2.2.2.2.1)
                                have HS23_ := (hb.cell (World.block_lt_of_cell? _ _ (hHeld.2.2.2.2.2.2.2.2.2.2.2.2.2.2.2.2.2.2.2.2.2.2.2))).trans (hHeld.2.2.2.2.2.2.2.2.2.2.2.2.2.2.2.2.2.2.2.2.2.2.2)
                                refine ⟨_, rfl, ?_⟩
                                have n0_ := Aside0.mk (Kd.V_below (by (with_reducible repeat (first | apply Kd.V_alloc | apply Kd.V_drewN | apply Kd.V_drew)); exact HO_0.out) hb)
                                have n1_ := Aside0.mk (Kd.N_below (by (with_reducible repeat (first | apply Kd.N_alloc | apply Kd.N_drewN | apply Kd.N_drew)); exact HO_6.out) hb)
                                have n2_ := Aside0.mk (Kd.V_below (by (with_reducible repeat (first | apply Kd.V_alloc | apply Kd.V_drewN | apply Kd.V_drew)); exact HL204_2.out) hb)
                                have n3_ := Aside0.mk (Kd.V_below (by (with_reducible repeat (first | apply Kd.V_alloc | apply Kd.V_drewN | apply Kd.V_drew)); exact HL205_2.out) hb)
                                have n4_ := Aside0.mk (Kd.V_below (by (with_reducible repeat (first | apply Kd.V_alloc | apply Kd.V_drewN | apply Kd.V_drew)); exact HL207_2.out) hb)
                                have n5_ := Aside0.mk (Kd.V_below (by (with_reducible repeat (first | apply Kd.V_alloc | apply Kd.V_drewN | apply Kd.V_drew)); exact HL208_2.out) hb)
                                have n6_ := Aside0.mk (Kd.C_below (by repeat (first | (with_reducible exact HR204_2.out) | (with_reducible refine Kd.C_alloc ?_ _) | (with_reducible refine Kd.C_drewN ?_ _) | (with_reducible refine Kd.C_drew ?_) | exact HR204_2.out)) hb)
                                have n7_ := Aside0.mk (Kd.C_below (by repeat (first | (with_reducible exact HR205_2.out) | (with_reducible refine Kd.C_alloc ?_ _) | (with_reducible refine Kd.C_drewN ?_ _) | (with_reducible refine Kd.C_drew ?_) | exact HR205_2.out)) hb)
                                have n8_ := Aside0.mk (Kd.C_below (by repeat (first | (with_reducible exact HR207_2.out) | (with_reducible refine Kd.C_alloc ?_ _) | (with_reducible refine Kd.C_drewN ?_ _) | (with_reducible refine Kd.C_drew ?_) | exact HR207_2.out)) hb)
                                have n9_ := Aside0.mk (Kd.C_below (by repeat (first | (with_reducible exact HR208_2.out) | (with_reducible refine Kd.C_alloc ?_ _) | (with_reducible refine Kd.C_drewN ?_ _) | (with_reducible refine Kd.C_drew ?_) | exact HR208_2.out)) hb)
                                have n10_ := Aside0.mk (below_step (by repeat (first | (with_reducible first | exact HB.out | apply below_alloc | apply pw_below_drewN | apply below_drew1) | exact HB.out)) hb)
                                clear HO_0
                                clear HO_6
                                clear HL204_2
                                clear HL205_2
                                clear HL207_2
                                clear HL208_2
                                clear HR204_2
                                clear HR205_2
                                clear HR207_2
                                clear HR208_2
                                clear HB
                                have HO_0 := n0_
                                have HO_6 := n1_
                                have HL204_2 := n2_
                                have HL205_2 := n3_
                                have HL207_2 := n4_
                                have HL208_2 := n5_
                                have HR204_2 := n6_
                                have HR205_2 := n7_
                                have HR207_2 := n8_
                                have HR208_2 := n9_
                                have HB := n10_
                                clear n0_ n1_ n2_ n3_ n4_ n5_ n6_ n7_ n8_ n9_ n10_
                                (try clear hb)
                                (try clear hb2)
                                (try clear hk)
                                (try clear hi)
                                refine hK.out _ _ ⟨HS0_, HS1_, HS2_, HS3_, HS4_, HS5_, HS6_, HS7_, HS8_, HS9_, HS10_, HS11_, HS12_, HS13_, HS14_, HS15_, HS16_, HS17_, HS18_, HS19_, HS20_, HS21_, HS22_, HS23_⟩ (fun hHeld => ?_)
                                clear hK K
                                refine norm_ (a' := ?_) ?_ ?_
                                rotate_left
                                · show Act.put _ (some 82) _ = _
                                  simp only [Act.put, List.setIfInBounds_toArray, List.set_cons_zero, List.set_cons_succ, i64_w, i32_w]
                                  rfl
                                refine pure_ (i := 22) (N := some 83) (v := ?_) (a' := ?_) #[true, true, true, true, true, true, true, true, true, true, true, true, true, true, true, true, true, true, true, true, true, true, true, false, false, false, false, false] rfl rfl (any_of HT_.out (by kernel_rfl)) (fun _ _ _ h => h) (Or.inl ⟨by rfl, ?_⟩) ?_ ?_
                                rotate_left
                                · intro w'
                                  go_simp
                                  with_reducible rfl
                                rotate_left
                                · simp only [Act.put, List.setIfInBounds_toArray, List.set_cons_zero, List.set_cons_succ, i64_w, i32_w]
                                  rfl
                                refine pure_ (i := 23) (N := some 84) (v := ?_) (a' := ?_) #[true, true, true, true, true, true, true, true, true, true, true, true, true, true, true, true, true, true, true, true, true, true, true, true, false, false, false, false] rfl rfl (any_of HT_.out (by kernel_rfl)) (fun _ _ _ h => h) (Or.inl ⟨by rfl, ?_⟩) ?_ ?_
                                rotate_left
                                · intro w'
                                  go_simp
                                  with_reducible rfl
                                rotate_left
                                · simp only [Act.put, List.setIfInBounds_toArray, List.set_cons_zero, List.set_cons_succ, i64_w, i32_w]
                                  rfl
                                refine pure_ (i := 24) (N := some 85) (v := ?_) (a' := ?_) #[true, true, true, true, true, true, true, true, true, true, true, true, true, true, true, true, true, true, true, true, true, true, true, true, true, false, false, false] rfl rfl (any_of HT_.out (by kernel_rfl)) (fun _ _ _ h => h) (Or.inl ⟨by rfl, ?_⟩) ?_ ?_
                                rotate_left
                                · intro w'
                                  go_simp
                                  with_reducible rfl
                                rotate_left
                                · simp only [Act.put, List.setIfInBounds_toArray, List.set_cons_zero, List.set_cons_succ, i64_w, i32_w]
                                  rfl
                                refine one_ (i := 25) (N := some 86) #[true, true, true, true, true, true, true, true, true, true, true, true, true, true, true, true, true, true, true, true, true, true, true, true, true, true, false, false] rfl rfl (one_of HT_.out (by kernel_rfl)) (by decide) (fun K hK => ?_)
                                refine goes_ Try.func15 (by kernel_rfl) rfl #[] (by rfl) rfl rfl (by (try simp only [List.map_toArray, List.map_cons, List.map_nil]); first | done | rfl | (simp only [List.length_drop, List.length_take]; rfl)) ?_
                                with_reducible refine (triremelaw21_known.calls kj14  t210 _ A36.out).mono ?_
                                rintro e w40 ⟨rfl, hb⟩
                                have HS0_ := (hb.cell (World.block_lt_of_cell? _ _ (hHeld.1))).trans (hHeld.1)
                                have HS1_ := (hb.cell (World.block_lt_of_cell? _ _ (hHeld.2.1))).trans (hHeld.2.1)
                                have HS2_ := (hb.cell (World.block_lt_of_cell? _ _ (hHeld.2.2.1))).trans (hHeld.2.2.1)
                                have HS3_ := (hb.cell (World.block_lt_of_cell? _ _ (hHeld.2.2.2.1))).trans (hHeld.2.2.2.1)
                                have HS4_ := (hb.cell (World.block_lt_of_cell? _ _ (hHeld.2.2.2.2.1))).trans (hHeld.2.2.2.2.1)
                                have HS5_ := (hb.cell (World.block_lt_of_cell? _ _ (hHeld.2.2.2.2.2.1))).trans (hHeld.2.2.2.2.2.1)
                                have HS6_ := (hb.cell (World.block_lt_of_cell? _ _ (hHeld.2.2.2.2.2.2.1))).trans (hHeld.2.2.2.2.2.2.1)
                                have HS7_ := (hb.cell (World.block_lt_of_cell? _ _ (hHeld.2.2.2.2.2.2.2.1))).trans (hHeld.2.2.2.2.2.2.2.1)
                                have HS8_ := (hb.cell (World.block_lt_of_cell? _ _ (hHeld.2.2.2.2.2.2.2.2.1))).trans (hHeld.2.2.2.2.2.2.2.2.1)
                                have HS9_ := (hb.cell (World.block_lt_of_cell? _ _ (hHeld.2.2.2.2.2.2.2.2.2.1))).trans (hHeld.2.2.2.2.2.2.2.2.2.1)
                                have HS10_ := (hb.cell (World.block_lt_of_cell? _ _ (hHeld.2.2.2.2.2.2.2.2.2.2.1))).trans (hHeld.2.2.2.2.2.2.2.2.2.2.1)
                                have HS11_ := (hb.cell (World.block_lt_of_cell? _ _ (hHeld.2.2.2.2.2.2.2.2.2.2.2.1))).trans (hHeld.2.2.2.2.2.2.2.2.2.2.2.1)
                                have HS12_ := (hb.cell (World.block_lt_of_cell? _ _ (hHeld.2.2.2.2.2.2.2.2.2.2.2.2.1))).trans (hHeld.2.2.2.2.2.2.2.2.2.2.2.2.1)
                                have HS13_ := (hb.cell (World.block_lt_of_cell? _ _ (hHeld.2.2.2.2.2.2.2.2.2.2.2.2.2.1))).trans (hHeld.2.2.2.2.2.2.2.2.2.2.2.2.2.1)
                                have HS14_ := (hb.cell (World.block_lt_of_cell? _ _ (hHeld.2.2.2.2.2.2.2.2.2.2.2.2.2.2.1))).trans (hHeld.2.2.2.2.2.2.2.2.2.2.2.2.2.2.1)
                                have HS15_ := (hb.cell (World.block_lt_of_cell? _ _ (hHeld.2.2.2.2.2.2.2.2.2.2.2.2.2.2.2.1))).trans (hHeld.2.2.2.2.2.2.2.2.2.2.2.2.2.2.2.1)
                                have HS16_ := (hb.cell (World.block_lt_of_cell? _ _ (hHeld.2.2.2.2.2.2.2.2.2.2.2.2.2.2.2.2.1))).trans (hHeld.2.2.2.2.2.2.2.2.2.2.2.2.2.2.2.2.1)
                                have HS17_ := (hb.cell (World.block_lt_of_cell? _ _ (hHeld.2.2.2.2.2.2.2.2.2.2.2.2.2.2.2.2.2.1))).trans (hHeld.2.2.2.2.2.2.2.2.2.2.2.2.2.2.2.2.2.1)
                                have HS18_ := (hb.cell (World.block_lt_of_cell? _ _ (hHeld.2.2.2.2.2.2.2.2.2.2.2.2.2.2.2.2.2.2.1))).trans (hHeld.2.2.2.2.2.2.2.2.2.2.2.2.2.2.2.2.2.2.1)
                                have HS19_ := (hb.cell (World.block_lt_of_cell? _ _ (hHeld.2.2.2.2.2.2.2.2.2.2.2.2.2.2.2.2.2.2.2.1))).trans (hHeld.2.2.2.2.2.2.2.2.2.2.2.2.2.2.2.2.2.2.2.1)
                                have HS20_ := (hb.cell (World.block_lt_of_cell? _ _ (hHeld.2.2.2.2.2.2.2.2.2.2.2.2.2.2.2.2.2.2.2.2.1))).trans (hHeld.2.2.2.2.2.2.2.2.2.2.2.2.2.2.2.2.2.2.2.2.1)
                                have HS21_ := (hb.cell (World.block_lt_of_cell? _ _ (hHeld.2.2.2.2.2.2.2.2.2.2.2.2.2.2.2.2.2.2.2.2.2.1))).trans (hHeld.2.2.2.2.2.2.2.2.2.2.2.2.2.2.2.2.2.2.2.2.2.1)
                                have HS22_ := (hb.cell (World.block_lt_of_cell? _ _ (hHeld.2.2.2.2.2.2.2.2.2.2.2.2.2.2.2.2.2.2.2.2.2.2.1))).trans (hHeld.2.2.2.2.2.2.2.2.2.2.2.2.2.2.2.2.2.2.2.2.2.2.1)
                                have HS23_ := (hb.cell (World.block_lt_of_cell? _ _ (hHeld.2.2.2.2.2.2.2.2.2.2.2.2.2.2.2.2.2.2.2.2.2.2.2))).trans (hHeld.2.2.2.2.2.2.2.2.2.2.2.2.2.2.2.2.2.2.2.2.2.2.2)
                                refine ⟨_, rfl, ?_⟩
                                have n0_ := Aside0.mk (Kd.V_below (by (with_reducible repeat (first | apply Kd.V_alloc | apply Kd.V_drewN | apply Kd.V_drew)); exact HO_0.out) hb)
                                have n1_ := Aside0.mk (Kd.N_below (by (with_reducible repeat (first | apply Kd.N_alloc | apply Kd.N_drewN | apply Kd.N_drew)); exact HO_6.out) hb)
                                have n2_ := Aside0.mk (Kd.V_below (by (with_reducible repeat (first | apply Kd.V_alloc | apply Kd.V_drewN | apply Kd.V_drew)); exact HL204_2.out) hb)
                                have n3_ := Aside0.mk (Kd.V_below (by (with_reducible repeat (first | apply Kd.V_alloc | apply Kd.V_drewN | apply Kd.V_drew)); exact HL205_2.out) hb)
                                have n4_ := Aside0.mk (Kd.V_below (by (with_reducible repeat (first | apply Kd.V_alloc | apply Kd.V_drewN | apply Kd.V_drew)); exact HL207_2.out) hb)
                                have n5_ := Aside0.mk (Kd.V_below (by (with_reducible repeat (first | apply Kd.V_alloc | apply Kd.V_drewN | apply Kd.V_drew)); exact HL208_2.out) hb)
                                have n6_ := Aside0.mk (Kd.C_below (by repeat (first | (with_reducible exact HR204_2.out) | (with_reducible refine Kd.C_alloc ?_ _) | (with_reducible refine Kd.C_drewN ?_ _) | (with_reducible refine Kd.C_drew ?_) | exact HR204_2.out)) hb)
                                have n7_ := Aside0.mk (Kd.C_below (by repeat (first | (with_reducible exact HR205_2.out) | (with_reducible refine Kd.C_alloc ?_ _) | (with_reducible refine Kd.C_drewN ?_ _) | (with_reducible refine Kd.C_drew ?_) | exact HR205_2.out)) hb)
                                have n8_ := Aside0.mk (Kd.C_below (by repeat (first | (with_reducible exact HR207_2.out) | (with_reducible refine Kd.C_alloc ?_ _) | (with_reducible refine Kd.C_drewN ?_ _) | (with_reducible refine Kd.C_drew ?_) | exact HR207_2.out)) hb)
                                have n9_ := Aside0.mk (Kd.C_below (by repeat (first | (with_reducible exact HR208_2.out) | (with_reducible refine Kd.C_alloc ?_ _) | (with_reducible refine Kd.C_drewN ?_ _) | (with_reducible refine Kd.C_drew ?_) | exact HR208_2.out)) hb)
                                have n10_ := Aside0.mk (below_step (by repeat (first | (with_reducible first | exact HB.out | apply below_alloc | apply pw_below_drewN | apply below_drew1) | exact HB.out)) hb)
                                clear HO_0
                                clear HO_6
                                clear HL204_2
                                clear HL205_2
                                clear HL207_2
                                clear HL208_2
                                clear HR204_2
                                clear HR205_2
                                clear HR207_2
                                clear HR208_2
                                clear HB
                                have HO_0 := n0_
                                have HO_6 := n1_
                                have HL204_2 := n2_
                                have HL205_2 := n3_
                                have HL207_2 := n4_
                                have HL208_2 := n5_
                                have HR204_2 := n6_
                                have HR205_2 := n7_
                                have HR207_2 := n8_
                                have HR208_2 := n9_
                                have HB := n10_
                                clear n0_ n1_ n2_ n3_ n4_ n5_ n6_ n7_ n8_ n9_ n10_
                                (try clear hb)
                                (try clear hb2)
                                (try clear hk)
                                (try clear hi)
                                refine hK.out _ _ ⟨HS0_, HS1_, HS2_, HS3_, HS4_, HS5_, HS6_, HS7_, HS8_, HS9_, HS10_, HS11_, HS12_, HS13_, HS14_, HS15_, HS16_, HS17_, HS18_, HS19_, HS20_, HS21_, HS22_, HS23_⟩ (fun hHeld => ?_)
                                clear hK K
                                refine norm_ (a' := ?_) ?_ ?_
                                rotate_left
                                · show Act.put _ (some 86) _ = _
                                  simp only [Act.put, List.setIfInBounds_toArray, List.set_cons_zero, List.set_cons_succ, i64_w, i32_w]
                                  rfl
                                refine pure_ (i := 26) (N := some 87) (v := ?_) (a' := ?_) #[true, true, true, true, true, true, true, true, true, true, true, true, true, true, true, true, true, true, true, true, true, true, true, true, true, true, true, false] rfl rfl (any_of HT_.out (by kernel_rfl)) (fun _ _ _ h => h) (Or.inl ⟨by rfl, ?_⟩) ?_ ?_
                                rotate_left
                                · intro w'
                                  go_simp
                                  with_reducible rfl
                                rotate_left
                                · simp only [Act.put, List.setIfInBounds_toArray, List.set_cons_zero, List.set_cons_succ, i64_w, i32_w]
                                  rfl
                                refine pure_ (i := 27) (N := some 4) (v := ?_) (a' := ?_) #[true, true, true, true, true, true, true, true, true, true, true, true, true, true, true, true, true, true, true, true, true, true, true, true, true, true, true, true] rfl rfl (any_of HT_.out (by kernel_rfl)) (fun _ _ _ h => h) (Or.inl ⟨by rfl, ?_⟩) ?_ ?_
                                rotate_left
                                · intro w'
                                  go_simp
                                  with_reducible rfl
                                rotate_left
                                · simp only [Act.put, List.setIfInBounds_toArray, List.set_cons_zero, List.set_cons_succ, i64_w, i32_w]
                                  rfl
                                refine done_ (done_of HT_.out (by kernel_rfl)) ?_
                                try go_wp2
                                go_ret
                                exact ⟨by first | rfl | (simp [errW_none, errW_some] <;> rfl) | (simp [*, errW_none, errW_some] <;> rfl), by repeat (first | (with_reducible first | exact HB.out | apply below_alloc | apply pw_below_drewN | apply below_drew1) | exact HB.out)⟩
                          · rw [if_neg c26] at H
                            exact absurd H (by simp)
                        · rw [if_neg c25] at H
                          exact absurd H (by simp)
                      · rw [if_neg c24] at H
                        exact absurd H (by simp)
                    · rw [if_neg c23] at H
                      exact absurd H (by simp)

/-- THE ONE PURE STATEMENT of triremelaw21_ExpandOrder: yours. -/
def triremelaw21_ExpandOrder.Pure : Prop := ∀ (x0 : List (S27)) (x1 : Int), (x0.length * 72 ≤ 140737488351232 ∧ ∀ yx0 ∈ x0, B27 yx0) → (Lit.int .u8 x1).wf = true → ∃ k, triremelaw21_ExpandOrder.f k x0 x1 = some true
theorem triremelaw21_ExpandOrder.walk (P : triremelaw21_ExpandOrder.Pure) (x0 : List (S27)) (A0 : Option Addr) (c0 : Nat) (x1 : Int) (w : World) (hr0 : Kd.C k27 w A0 x0.length x0) (hc0 : x0.length ≤ c0) (hb0 : (x0.length * 72 ≤ 140737488351232 ∧ ∀ yx0 ∈ x0, B27 yx0)) (hb1 : (Lit.int .u8 x1).wf = true) :
    Calls Try.prog 5 #[.slice A0 x0.length c0, .int .u8 x1] w fun e w' => e = .returned (.bool true) ∧ Below w.heap.size w w' := by
  obtain ⟨k, h⟩ := P x0 x1 hb0 hb1
  refine (triremelaw21_ExpandOrder.calls k (fun k_ => k_ < w.heap.size) _ _ x0 x1 true w (Kd.V_mk hc0 (Kd.C_F k27_heap hr0)) h).mono ?_
  rintro e w' ⟨rfl, hd⟩
  exact ⟨rfl, hd⟩

end Go.Proofs.Ytplgkdfmpbkfpaa.HEx
