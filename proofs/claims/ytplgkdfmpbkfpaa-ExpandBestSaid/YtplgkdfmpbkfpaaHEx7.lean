-- PRINTED by print.py (a twelfth state) out of the translation. Not trusted: Lean checks it.
import Derived.Test.YtplgkdfmpbkfpaaHEx0
import Derived.Test.YtplgkdfmpbkfpaaHEx3
import Derived.Test.YtplgkdfmpbkfpaaHEx4
import Derived.Test.YtplgkdfmpbkfpaaHExOp
namespace Go.Proofs.Ytplgkdfmpbkfpaa.HEx
open Go.RowKit Go.Proofs.YtplgkdfmpbkfpaaW.PrintWords Go.Proofs.YtplgkdfmpbkfpaaW.PrintLast Go.Proofs.YtplgkdfmpbkfpaaW.PrintMore
attribute [local go_sem] max2_int min2_int max_two min_two max_three min_three max_four min_four   -- for this text's walks alone
attribute [local go_sem] run_store_fnW fnW_nil fnW_75 fnW_76 fnW_77 fnW_78 fnW_79
set_option linter.unusedVariables false
set_option linter.unusedSimpArgs false

/-! ### triremelaw21_ExpandBest: function 4 -/
mutual
def triremelaw21_ExpandBest.j0 : Nat → List (S27) → Int → Int → Bool → Option (Bool)
  | 0, _, _, _, _ => none
  | k + 1, x0, x1, x2, x18 => if x18 = true then ((triremelaw21_known.f k).bind fun t184 => (some t184)) else ((expand_Choose.f k x0 (wrap64 (1 + (Int.tmod (wrap64 (x1)) 4))) x2).bind fun t185 => (if t185 < 0 then (triremelaw21_ExpandBest.j1 k x0 x2 (wrap64 (1 + (Int.tmod (wrap64 (x1)) 4))) t185 true) else (triremelaw21_ExpandBest.j1 k x0 x2 (wrap64 (1 + (Int.tmod (wrap64 (x1)) 4))) t185 (decide (t185 ≥ (x0.length : Int))))))
def triremelaw21_ExpandBest.j1 : Nat → List (S27) → Int → Int → Int → Bool → Option (Bool)
  | 0, _, _, _, _, _ => none
  | k + 1, x0, x2, x7, x8, x35 => if x35 = true then (some false) else (if x7 = 4 then ((expand_Choose.f k x0 x7 x2).bind fun t186 => (if t186 = x8 then ((triremelaw21_known.f k).bind fun t187 => (some t187)) else (some false))) else (triremelaw21_ExpandBest.l0 k x0 x2 x7 x8 0))
def triremelaw21_ExpandBest.l0 : Nat → List (S27) → Int → Int → Int → Int → Option (Bool)
  | 0, _, _, _, _, _ => none
  | k + 1, x0, x2, x7, x8, x9 => if x9 < (x0.length : Int) then (if 0 ≤ x9 then (if 0 ≤ x8 then (if x8 < (x0.length : Int) then ((expand_Better.f k ((rd_T27 x0 x9).f0) ((rd_T27 x0 x9).f1) ((rd_T27 x0 x9).f2) ((rd_T27 x0 x9).f3) ((rd_T27 x0 x9).f4) ((rd_T27 x0 x9).f5) ((rd_T27 x0 x8).f0) ((rd_T27 x0 x8).f1) ((rd_T27 x0 x8).f2) ((rd_T27 x0 x8).f3) ((rd_T27 x0 x8).f4) ((rd_T27 x0 x8).f5) x7).bind fun t190 => (if t190 = true then (some false) else (triremelaw21_ExpandBest.l0 k x0 x2 x7 x8 (wrap64 (x9 + 1))))) else (none)) else (none)) else (none)) else (if 0 ≤ x8 then (if x8 ≤ (x0.length : Int) then ((expand_Choose.f k (x0.drop (x8 : Int).toNat) x7 x2).bind fun t195 => (if t195 = 0 then ((triremelaw21_known.f k).bind fun t196 => (some t196)) else (some false))) else (none)) else (none))
end
def triremelaw21_ExpandBest.f (k : Nat) (l0 : List (S27)) (a1 : Int) (a2 : Int) : Option (Bool) := if (l0.length : Int) > 60 then (triremelaw21_ExpandBest.j0 k l0 a1 a2 true) else (triremelaw21_ExpandBest.j0 k l0 a1 a2 ((l0.length : Int) == 0))
theorem triremelaw21_ExpandBest.mono_l : ∀ k, (∀ y0 y1 y2 y3, LeO (triremelaw21_ExpandBest.j0 k y0 y1 y2 y3) (triremelaw21_ExpandBest.j0 (k + 1) y0 y1 y2 y3)) ∧ (∀ y0 y1 y2 y3 y4, LeO (triremelaw21_ExpandBest.j1 k y0 y1 y2 y3 y4) (triremelaw21_ExpandBest.j1 (k + 1) y0 y1 y2 y3 y4)) ∧ (∀ y0 y1 y2 y3 y4, LeO (triremelaw21_ExpandBest.l0 k y0 y1 y2 y3 y4) (triremelaw21_ExpandBest.l0 (k + 1) y0 y1 y2 y3 y4))
  | 0 => ⟨fun _ _ _ _ r h => by simp [triremelaw21_ExpandBest.j0] at h, fun _ _ _ _ _ r h => by simp [triremelaw21_ExpandBest.j1] at h, fun _ _ _ _ _ r h => by simp [triremelaw21_ExpandBest.l0] at h⟩
  | k + 1 => by
    obtain ⟨ih0, ih1, ih2⟩ := triremelaw21_ExpandBest.mono_l k
    refine ⟨?_, ?_, ?_⟩
    · intro y0 y1 y2 y3
      unfold triremelaw21_ExpandBest.j0
      repeat' first
      | (with_reducible exact ih0 _ _ _ _)
      | (with_reducible exact ih1 _ _ _ _ _)
      | (with_reducible exact ih2 _ _ _ _ _)
      | (with_reducible exact expand_Better.mono _ _ _ _ _ _ _ _ _ _ _ _ _ _)
      | (with_reducible exact expand_Choose.mono _ _ _ _)
      | (with_reducible exact triremelaw21_known.mono _)
      | (with_reducible exact LeO.refl _)
      | (with_reducible exact LeO.none _)
      | (with_reducible refine LeO.ite ?_ ?_)
      | (with_reducible refine LeO.bind ?_ (fun _ => ?_))
      | exact ih0 _ _ _ _
      | exact ih1 _ _ _ _ _
      | exact ih2 _ _ _ _ _
      | exact expand_Better.mono _ _ _ _ _ _ _ _ _ _ _ _ _ _
      | exact expand_Choose.mono _ _ _ _
      | exact triremelaw21_known.mono _
      | exact LeO.none _
      | refine LeO.ite ?_ ?_
      | refine LeO.bind ?_ (fun _ => ?_)
    · intro y0 y1 y2 y3 y4
      unfold triremelaw21_ExpandBest.j1
      repeat' first
      | (with_reducible exact ih0 _ _ _ _)
      | (with_reducible exact ih1 _ _ _ _ _)
      | (with_reducible exact ih2 _ _ _ _ _)
      | (with_reducible exact expand_Better.mono _ _ _ _ _ _ _ _ _ _ _ _ _ _)
      | (with_reducible exact expand_Choose.mono _ _ _ _)
      | (with_reducible exact triremelaw21_known.mono _)
      | (with_reducible exact LeO.refl _)
      | (with_reducible exact LeO.none _)
      | (with_reducible refine LeO.ite ?_ ?_)
      | (with_reducible refine LeO.bind ?_ (fun _ => ?_))
      | exact ih0 _ _ _ _
      | exact ih1 _ _ _ _ _
      | exact ih2 _ _ _ _ _
      | exact expand_Better.mono _ _ _ _ _ _ _ _ _ _ _ _ _ _
      | exact expand_Choose.mono _ _ _ _
      | exact triremelaw21_known.mono _
      | exact LeO.none _
      | refine LeO.ite ?_ ?_
      | refine LeO.bind ?_ (fun _ => ?_)
    · intro y0 y1 y2 y3 y4
      unfold triremelaw21_ExpandBest.l0
      repeat' first
      | (with_reducible exact ih0 _ _ _ _)
      | (with_reducible exact ih1 _ _ _ _ _)
      | (with_reducible exact ih2 _ _ _ _ _)
      | (with_reducible exact expand_Better.mono _ _ _ _ _ _ _ _ _ _ _ _ _ _)
      | (with_reducible exact expand_Choose.mono _ _ _ _)
      | (with_reducible exact triremelaw21_known.mono _)
      | (with_reducible exact LeO.refl _)
      | (with_reducible exact LeO.none _)
      | (with_reducible refine LeO.ite ?_ ?_)
      | (with_reducible refine LeO.bind ?_ (fun _ => ?_))
      | exact ih0 _ _ _ _
      | exact ih1 _ _ _ _ _
      | exact ih2 _ _ _ _ _
      | exact expand_Better.mono _ _ _ _ _ _ _ _ _ _ _ _ _ _
      | exact expand_Choose.mono _ _ _ _
      | exact triremelaw21_known.mono _
      | exact LeO.none _
      | refine LeO.ite ?_ ?_
      | refine LeO.bind ?_ (fun _ => ?_)
theorem triremelaw21_ExpandBest.mono : ∀ a0 a1 a2 k, LeO (triremelaw21_ExpandBest.f k a0 a1 a2) (triremelaw21_ExpandBest.f (k + 1) a0 a1 a2) := by
  intro a0 a1 a2 k
  obtain ⟨ih0, ih1, ih2⟩ := triremelaw21_ExpandBest.mono_l k
  unfold triremelaw21_ExpandBest.f
  repeat' first
      | (with_reducible exact ih0 _ _ _ _)
      | (with_reducible exact ih1 _ _ _ _ _)
      | (with_reducible exact ih2 _ _ _ _ _)
      | (with_reducible exact expand_Better.mono _ _ _ _ _ _ _ _ _ _ _ _ _ _)
      | (with_reducible exact expand_Choose.mono _ _ _ _)
      | (with_reducible exact triremelaw21_known.mono _)
      | (with_reducible exact LeO.refl _)
      | (with_reducible exact LeO.none _)
      | (with_reducible refine LeO.ite ?_ ?_)
      | (with_reducible refine LeO.bind ?_ (fun _ => ?_))
      | exact ih0 _ _ _ _
      | exact ih1 _ _ _ _ _
      | exact ih2 _ _ _ _ _
      | exact expand_Better.mono _ _ _ _ _ _ _ _ _ _ _ _ _ _
      | exact expand_Choose.mono _ _ _ _
      | exact triremelaw21_known.mono _
      | exact LeO.none _
      | refine LeO.ite ?_ ?_
      | refine LeO.bind ?_ (fun _ => ?_)
def triremelaw21_ExpandBest.T12 : Bool × List (List Nat × List Nat) := (true, [([], []), ([], []), ([0, 1], [0, 1]), ([2], [2]), ([], []), ([], []), ([4, 5], [4, 5]), ([6], [6]), ([], []), ([3, 7, 8], [3, 7, 8])])
def triremelaw21_ExpandBest.B12 : List Nat := [0, 0, 3, 7, 0, 0, 48, 112, 0, 511]
theorem triremelaw21_ExpandBest.tab12 : rtab .any (opsOf Try.f4 12) = triremelaw21_ExpandBest.T12 := by kernel_rfl
theorem triremelaw21_ExpandBest.bits12 : waitsOk triremelaw21_ExpandBest.T12.2 triremelaw21_ExpandBest.B12 = true := by kernel_rfl
set_option maxHeartbeats 8000000 in
set_option maxRecDepth 100000 in
theorem triremelaw21_ExpandBest.calls (k : Nat) (A0 : Option Addr) (c0 : Nat) (l0 : List (S27)) (a1 : Int) (a2 : Int) (r : Bool) (w : World) (hr0 : Kd.C k27 w A0 l0.length l0) (hc0 : l0.length ≤ c0) (h : triremelaw21_ExpandBest.f k l0 a1 a2 = some r) :
    Calls Try.prog 4 #[.slice A0 l0.length c0, .int .u8 a1, .int .i64 a2] w fun e w' => e = .returned (.bool r) ∧ Below w.heap.size w w' := by
  have hu27 := Try.underlying27
  have HR0 := Aside0.mk hr0
  have HC0 := Aside0.mk hc0
  clear hr0 hc0
  have HB := Aside0.mk (Below.refl w.heap.size w)
  have H : (if (l0.length : Int) > 60 then (triremelaw21_ExpandBest.j0 k l0 a1 a2 true) else (triremelaw21_ExpandBest.j0 k l0 a1 a2 ((l0.length : Int) == 0))) = some r := h
  clear h
  have HC4 := Aside0.mk H
  clear H
  go_enter Try.func4, Try.ntmps4
  go_upto_region 1 with (fail)
  go_cut [18] (fun v18 wc => ∃ (kq : Nat) (x18_3 : Bool), v18 = .bool x18_3 ∧ Aside0 (triremelaw21_ExpandBest.j0 kq l0 a1 a2 x18_3 = some r) ∧ Aside0 (kq ≤ k) ∧ Aside0 (Below w.heap.size w wc))
  case first =>
    have H := HC4.out
    clear HC4
    by_cases c5 : (l0.length : Int) > 60
    · rw [if_pos c5] at H
      have c5b0 : decide (60 < (l0.length : Int)) = true := decide_eq_true c5
      have c5b1 : decide (60 < l0.length) = true := decide_eq_true (by omega)
      clear c5
      (first | rw [c5b0] | (simp only [i64_w, i32_w]; rw [c5b0]) | skip)
      have H' := Aside0.mk H
      clear H
      go_wp2
      go_meet
      case rel => exact ⟨_, (true), (by first | rfl | (simp; done) | (simp [*]; done)), H', ⟨by first | omega | exact Nat.le_refl _⟩, ⟨by repeat (first | (with_reducible first | exact HB.out | apply below_alloc | apply pw_below_drewN | apply below_drew1) | exact HB.out)⟩⟩
    · rw [if_neg c5] at H
      have c5b0 : decide (60 < (l0.length : Int)) = false := decide_eq_false c5
      have c5b1 : decide (60 < l0.length) = false := decide_eq_false (by omega)
      clear c5
      (first | rw [c5b0] | (simp only [i64_w, i32_w]; rw [c5b0]) | skip)
      have H' := Aside0.mk H
      clear H
      go_wp2
      go_meet
      case rel => exact ⟨_, (((l0.length : Int) == 0)), (by first | rfl | (simp; done) | (simp [*]; done)), H', ⟨by first | omega | exact Nat.le_refl _⟩, ⟨by repeat (first | (with_reducible first | exact HB.out | apply below_alloc | apply pw_below_drewN | apply below_drew1) | exact HB.out)⟩⟩
  case rest =>
    clear HC4
    try clear p2
    try clear c4
    try clear c5
    try clear c5b0
    try clear c5b1
    obtain ⟨kq, x18_3, rfl, HA, HJ3, HB⟩ := hcut
    cases kq with
    | zero => exact absurd HA.out (by simp [triremelaw21_ExpandBest.j0])
    | succ kj3 =>
      have H := HA.out
      clear HA
      simp only [triremelaw21_ExpandBest.j0] at H
      by_cases c6 : x18_3 = true
      · subst c6
        have H1 : ((triremelaw21_known.f kj3).bind fun t184 => (some t184)) = some r := by rw [if_pos rfl] at H; exact H
        clear H
        have H := H1
        clear H1
        replace H := Option.bind_eq_some_iff.mp H
        obtain ⟨t184, A70, H⟩ := H
        replace H : (some t184) = some r := H
        have A7 := Aside0.mk A70
        clear A70
        obtain rfl := Option.some.inj H
        go_wp2_with (first | ((with_reducible refine gate_callee (f := 15) rfl ?_); refine goesL_ (some 19) rfl rfl Try.func15 (by kernel_rfl) rfl #[] rfl (by (try simp only [List.map_toArray, List.map_cons, List.map_nil]); first | done | rfl | (simp only [List.length_drop, List.length_take]; rfl)) ?_; (with_reducible refine (triremelaw21_known.calls kj3  t184 _ A7.out).mono ?_); rintro e w8 ⟨rfl, hb⟩; refine ⟨_, rfl, ?_⟩; have n0_ := Aside0.mk (below_step (by repeat (first | (with_reducible first | exact HB.out | apply below_alloc | apply pw_below_drewN | apply below_drew1) | exact HB.out)) hb); clear HB; have HB := n0_; clear n0_; (try clear hb); (try clear hb2); (try clear hk); (try clear hi)))
        go_ret
        exact ⟨by first | rfl | (simp [errW_none, errW_some] <;> rfl) | (simp [*, errW_none, errW_some] <;> rfl), by repeat (first | (with_reducible first | exact HB.out | apply below_alloc | apply pw_below_drewN | apply below_drew1) | exact HB.out)⟩
      · replace c6 := Bool.eq_false_iff.mpr c6
        subst c6
        have H1 : ((expand_Choose.f kj3 l0 (wrap64 (1 + (Int.tmod (wrap64 (a1)) 4))) a2).bind fun t185 => (if t185 < 0 then (triremelaw21_ExpandBest.j1 kj3 l0 a2 (wrap64 (1 + (Int.tmod (wrap64 (a1)) 4))) t185 true) else (triremelaw21_ExpandBest.j1 kj3 l0 a2 (wrap64 (1 + (Int.tmod (wrap64 (a1)) 4))) t185 (decide (t185 ≥ (l0.length : Int)))))) = some r := by rw [if_neg (show ¬ (false = true) by decide)] at H; exact H
        clear H
        have H := H1
        clear H1
        replace H := Option.bind_eq_some_iff.mp H
        obtain ⟨t185, A90, H⟩ := H
        replace H : (if t185 < 0 then (triremelaw21_ExpandBest.j1 kj3 l0 a2 (wrap64 (1 + (Int.tmod (wrap64 (a1)) 4))) t185 true) else (triremelaw21_ExpandBest.j1 kj3 l0 a2 (wrap64 (1 + (Int.tmod (wrap64 (a1)) 4))) t185 (decide (t185 ≥ (l0.length : Int))))) = some r := H
        have A9 := Aside0.mk A90
        clear A90
        have HC10 := Aside0.mk H
        clear H
        go_upto_region 5 with (first | ((with_reducible refine gate_callee (f := 18) rfl ?_); refine goesL_ (some 27) rfl rfl Try.func18 (by kernel_rfl) rfl #[.slice A0 l0.length c0, .int .i64 (wrap64 (1 + (Int.tmod (wrap64 (a1)) 4))), .int .i64 a2] rfl (by (try simp only [List.map_toArray, List.map_cons, List.map_nil]); first | done | rfl | (simp only [List.length_drop, List.length_take]; rfl)) ?_; (with_reducible refine (expand_Choose.calls kj3 _ _ l0 (wrap64 (1 + (Int.tmod (wrap64 (a1)) 4))) a2 t185 _ ?side1 ?side2 A9.out).mono ?_); (case side1 => repeat (first | exact (Kd.C_below HR0.out HB.out) | (with_reducible refine Kd.C_alloc ?_ _) | (with_reducible refine Kd.C_drewN ?_ _) | (with_reducible refine Kd.C_drew ?_))); (case side2 => exact HC0.out); rintro e w11 ⟨rfl, hb⟩; refine ⟨_, rfl, ?_⟩; have n0_ := Aside0.mk (below_step (by repeat (first | (with_reducible first | exact HB.out | apply below_alloc | apply pw_below_drewN | apply below_drew1) | exact HB.out)) hb); clear HB; have HB := n0_; clear n0_; (try clear hb); (try clear hb2); (try clear hk); (try clear hi)))
        (try simp only [Act.put, List.setIfInBounds_toArray, List.set_cons_zero, List.set_cons_succ])
        go_cut [35] (fun v35 wc => ∃ (kq : Nat) (x35_9 : Bool), v35 = .bool x35_9 ∧ Aside0 (triremelaw21_ExpandBest.j1 kq l0 a2 (wrap64 (1 + (Int.tmod (wrap64 (a1)) 4))) t185 x35_9 = some r) ∧ Aside0 (kq ≤ kj3) ∧ Aside0 (Below w.heap.size w wc))
        case first =>
          have H := HC10.out
          clear HC10
          by_cases c12 : t185 < 0
          · rw [if_pos c12] at H
            have c12b0 : decide (t185 < 0) = true := decide_eq_true c12
            clear c12
            (first | rw [c12b0] | (simp only [i64_w, i32_w]; rw [c12b0]) | skip)
            have H' := Aside0.mk H
            clear H
            go_wp2
            go_meet
            case rel => exact ⟨_, (true), (by first | rfl | (simp; done) | (simp [*]; done)), H', ⟨by have := HJ3.out; first | omega | exact Nat.le_refl _⟩, ⟨by repeat (first | (with_reducible first | exact HB.out | apply below_alloc | apply pw_below_drewN | apply below_drew1) | exact HB.out)⟩⟩
          · rw [if_neg c12] at H
            have c12b0 : decide (t185 < 0) = false := decide_eq_false c12
            clear c12
            (first | rw [c12b0] | (simp only [i64_w, i32_w]; rw [c12b0]) | skip)
            have H' := Aside0.mk H
            clear H
            go_wp2
            go_meet
            case rel => exact ⟨_, (decide (t185 ≥ (l0.length : Int))), (by first | rfl | (simp; done) | (simp [*]; done)), H', ⟨by have := HJ3.out; first | omega | exact Nat.le_refl _⟩, ⟨by repeat (first | (with_reducible first | exact HB.out | apply below_alloc | apply pw_below_drewN | apply below_drew1) | exact HB.out)⟩⟩
        case rest =>
          clear HC10
          try clear c1
          try clear p2
          try clear c4
          try clear c5
          try clear c5b0
          try clear c5b1
          try clear c6
          try clear p6
          try clear c12
          try clear c12b0
          try clear p2
          obtain ⟨kq, x35_9, rfl, HA, HJ9, HB⟩ := hcut
          cases kq with
          | zero => exact absurd HA.out (by simp [triremelaw21_ExpandBest.j1])
          | succ kj9 =>
            have H := HA.out
            clear HA
            simp only [triremelaw21_ExpandBest.j1] at H
            by_cases c13 : x35_9 = true
            · subst c13
              have H1 : (some false) = some r := by rw [if_pos rfl] at H; exact H
              clear H
              have H := H1
              clear H1
              obtain rfl := Option.some.inj H
              go_wp2
              go_ret
              exact ⟨by first | rfl | (simp [errW_none, errW_some] <;> rfl) | (simp [*, errW_none, errW_some] <;> rfl), by repeat (first | (with_reducible first | exact HB.out | apply below_alloc | apply pw_below_drewN | apply below_drew1) | exact HB.out)⟩
            · replace c13 := Bool.eq_false_iff.mpr c13
              subst c13
              have H1 : (if (wrap64 (1 + (Int.tmod (wrap64 (a1)) 4))) = 4 then ((expand_Choose.f kj9 l0 (wrap64 (1 + (Int.tmod (wrap64 (a1)) 4))) a2).bind fun t186 => (if t186 = t185 then ((triremelaw21_known.f kj9).bind fun t187 => (some t187)) else (some false))) else (triremelaw21_ExpandBest.l0 kj9 l0 a2 (wrap64 (1 + (Int.tmod (wrap64 (a1)) 4))) t185 0)) = some r := by rw [if_neg (show ¬ (false = true) by decide)] at H; exact H
              clear H
              have H := H1
              clear H1
              by_cases c14 : (wrap64 (1 + (Int.tmod (wrap64 (a1)) 4))) = 4
              · rw [if_pos c14] at H
                have c14b0 : ((wrap64 (1 + (Int.tmod (wrap64 (a1)) 4))) == 4) = true := beq_iff_eq.mpr c14
                have c14b1 : ((wrap64 (1 + (Int.tmod (wrap64 (a1)) 4))) != 4) = false := bne_eq_false_iff_eq.mpr c14
                clear c14
                replace H := Option.bind_eq_some_iff.mp H
                obtain ⟨t186, A150, H⟩ := H
                replace H : (if t186 = t185 then ((triremelaw21_known.f kj9).bind fun t187 => (some t187)) else (some false)) = some r := H
                have A15 := Aside0.mk A150
                clear A150
                by_cases c16 : t186 = t185
                · rw [if_pos c16] at H
                  have c16b0 : (t186 == t185) = true := beq_iff_eq.mpr c16
                  have c16b1 : (t186 != t185) = false := bne_eq_false_iff_eq.mpr c16
                  clear c16
                  replace H := Option.bind_eq_some_iff.mp H
                  obtain ⟨t187, A170, H⟩ := H
                  replace H : (some t187) = some r := H
                  have A17 := Aside0.mk A170
                  clear A170
                  obtain rfl := Option.some.inj H
                  go_wp2_with (first | ((with_reducible refine gate_callee (f := 18) rfl ?_); refine goesL_ (some 41) rfl rfl Try.func18 (by kernel_rfl) rfl #[.slice A0 l0.length c0, .int .i64 (wrap64 (1 + (Int.tmod (wrap64 (a1)) 4))), .int .i64 a2] rfl (by (try simp only [List.map_toArray, List.map_cons, List.map_nil]); first | done | rfl | (simp only [List.length_drop, List.length_take]; rfl)) ?_; (with_reducible refine (expand_Choose.calls kj9 _ _ l0 (wrap64 (1 + (Int.tmod (wrap64 (a1)) 4))) a2 t186 _ ?side1 ?side2 A15.out).mono ?_); (case side1 => repeat (first | exact (Kd.C_below HR0.out HB.out) | (with_reducible refine Kd.C_alloc ?_ _) | (with_reducible refine Kd.C_drewN ?_ _) | (with_reducible refine Kd.C_drew ?_))); (case side2 => exact HC0.out); rintro e w18 ⟨rfl, hb⟩; refine ⟨_, rfl, ?_⟩; have n0_ := Aside0.mk (below_step (by repeat (first | (with_reducible first | exact HB.out | apply below_alloc | apply pw_below_drewN | apply below_drew1) | exact HB.out)) hb); clear HB; have HB := n0_; clear n0_; (try clear hb); (try clear hb2); (try clear hk); (try clear hi)) | (go_at_call 15; (with_reducible refine (triremelaw21_known.calls kj9  t187 _ A17.out).mono ?_); rintro e w19 ⟨rfl, hb⟩; have n0_ := Aside0.mk (below_step (by repeat (first | (with_reducible first | exact HB.out | apply below_alloc | apply pw_below_drewN | apply below_drew1) | exact HB.out)) hb); clear HB; have HB := n0_; clear n0_; (try clear hb); (try clear hb2); (try clear hk); (try clear hi)))
                  go_ret
                  exact ⟨by first | rfl | (simp [errW_none, errW_some] <;> rfl) | (simp [*, errW_none, errW_some] <;> rfl), by repeat (first | (with_reducible first | exact HB.out | apply below_alloc | apply pw_below_drewN | apply below_drew1) | exact HB.out)⟩
                · rw [if_neg c16] at H
                  have c16b0 : (t186 == t185) = false := beq_eq_false_iff_ne.mpr c16
                  have c16b1 : (t186 != t185) = true := bne_iff_ne.mpr c16
                  obtain rfl := Option.some.inj H
                  go_wp2_with (first | ((with_reducible refine gate_callee (f := 18) rfl ?_); refine goesL_ (some 41) rfl rfl Try.func18 (by kernel_rfl) rfl #[.slice A0 l0.length c0, .int .i64 (wrap64 (1 + (Int.tmod (wrap64 (a1)) 4))), .int .i64 a2] rfl (by (try simp only [List.map_toArray, List.map_cons, List.map_nil]); first | done | rfl | (simp only [List.length_drop, List.length_take]; rfl)) ?_; (with_reducible refine (expand_Choose.calls kj9 _ _ l0 (wrap64 (1 + (Int.tmod (wrap64 (a1)) 4))) a2 t186 _ ?side1 ?side2 A15.out).mono ?_); (case side1 => repeat (first | exact (Kd.C_below HR0.out HB.out) | (with_reducible refine Kd.C_alloc ?_ _) | (with_reducible refine Kd.C_drewN ?_ _) | (with_reducible refine Kd.C_drew ?_))); (case side2 => exact HC0.out); rintro e w20 ⟨rfl, hb⟩; refine ⟨_, rfl, ?_⟩; have n0_ := Aside0.mk (below_step (by repeat (first | (with_reducible first | exact HB.out | apply below_alloc | apply pw_below_drewN | apply below_drew1) | exact HB.out)) hb); clear HB; have HB := n0_; clear n0_; (try clear hb); (try clear hb2); (try clear hk); (try clear hi)))
                  go_ret
                  exact ⟨by first | rfl | (simp [errW_none, errW_some] <;> rfl) | (simp [*, errW_none, errW_some] <;> rfl), by repeat (first | (with_reducible first | exact HB.out | apply below_alloc | apply pw_below_drewN | apply below_drew1) | exact HB.out)⟩
              · rw [if_neg c14] at H
                have c14b0 : ((wrap64 (1 + (Int.tmod (wrap64 (a1)) 4))) == 4) = false := beq_eq_false_iff_ne.mpr c14
                have c14b1 : ((wrap64 (1 + (Int.tmod (wrap64 (a1)) 4))) != 4) = true := bne_iff_ne.mpr c14
                have H' := Aside0.mk H
                clear H
                go_wp2
                go_loopg [9] kj9 (fun kq v9 w' => ∃ (x9_3 : Int), v9 = .int .i64 x9_3 ∧ Aside0 (triremelaw21_ExpandBest.l0 kq l0 a2 (wrap64 (1 + (Int.tmod (wrap64 (a1)) 4))) t185 x9_3 = some r) ∧ Aside0 (kq ≤ kj9) ∧ Aside0 (Below w.heap.size w w'))
                case atStart => exact ⟨(0), (by first | rfl | (simp; done) | (simp [*]; done)), H', ⟨Nat.le_refl _⟩, ⟨by repeat (first | (with_reducible first | exact HB.out | apply below_alloc | apply pw_below_drewN | apply below_drew1) | exact HB.out)⟩⟩
                case round =>
                  clear H'
                  try clear c1
                  try clear p2
                  try clear c4
                  try clear c5
                  try clear c5b0
                  try clear c5b1
                  try clear c6
                  try clear p6
                  try clear c12
                  try clear c12b0
                  try clear c13
                  try clear c14
                  try clear c14b0
                  try clear c14b1
                  try clear c15
                  try clear c16
                  try clear c16b0
                  try clear c16b1
                  try clear c18
                  try clear p2
                  try clear p6
                  obtain ⟨x9_3, rfl, HA, HK3, HB⟩ := hrel
                  cases gk with
                  | zero => exact absurd HA.out (by simp [triremelaw21_ExpandBest.l0])
                  | succ k3 =>
                    have H := HA.out
                    clear HA
                    simp only [triremelaw21_ExpandBest.l0] at H
                    by_cases c21 : x9_3 < (l0.length : Int)
                    · rw [if_pos c21] at H
                      have c21b0 : decide (x9_3 < (l0.length : Int)) = true := decide_eq_true c21
                      clear c21
                      by_cases c22 : 0 ≤ x9_3
                      · rw [if_pos c22] at H
                        have c22b0 : decide (0 ≤ x9_3) = true := decide_eq_true c22
                        clear c22
                        by_cases c23 : 0 ≤ t185
                        · rw [if_pos c23] at H
                          have c23b0 : decide (0 ≤ t185) = true := decide_eq_true c23
                          clear c23
                          by_cases c24 : t185 < (l0.length : Int)
                          · rw [if_pos c24] at H
                            have c24b0 : decide (t185 < (l0.length : Int)) = true := decide_eq_true c24
                            clear c24
                            replace H := Option.bind_eq_some_iff.mp H
                            obtain ⟨t190, A250, H⟩ := H
                            replace H : (if t190 = true then (some false) else (triremelaw21_ExpandBest.l0 k3 l0 a2 (wrap64 (1 + (Int.tmod (wrap64 (a1)) 4))) t185 (wrap64 (x9_3 + 1)))) = some r := H
                            have A25 := Aside0.mk A250
                            clear A250
                            by_cases c26 : t190 = true
                            · subst c26
                              have H1 : (some false) = some r := by rw [if_pos rfl] at H; exact H
                              clear H
                              have H := H1
                              clear H1
                              obtain rfl := Option.some.inj H
                              try go_wp2
                              have n0_ := Aside0.mk (below_drew1 HB.out)
                              clear HB
                              have HB := n0_
                              clear n0_
                              have p188 : 0 ≤ (x9_3 : Int) := of_decide_eq_true (by first | (with_reducible assumption) | assumption)
                              have q188 : x9_3 < (l0.length : Int) := of_decide_eq_true (by first | (with_reducible assumption) | assumption)
                              obtain ⟨ad188, A188_2, c188_2, e188, hx188_0, hx188_1, hx188_2, hx188_3, hx188_4, hx188_5, hl188_2, hi188_2⟩ := at_T27 HR0.out x9_3 p188 q188
                              have hw188_5 := hx188_5
                              have hw188_4 := hx188_4
                              have hw188_3 := hx188_3
                              have hw188_2 := hx188_2
                              have hw188_1 := hx188_1
                              have hw188_0 := hx188_0
                              cases e188
                              replace hx188_0 := (HB.out.cell (World.block_lt_of_cell? w _ hx188_0)).trans hx188_0
                              replace hx188_1 := (HB.out.cell (World.block_lt_of_cell? w _ hx188_1)).trans hx188_1
                              replace hx188_2 := (HB.out.cell (World.block_lt_of_cell? w _ hx188_2)).trans hx188_2
                              replace hx188_3 := (HB.out.cell (World.block_lt_of_cell? w _ hx188_3)).trans hx188_3
                              replace hx188_4 := (HB.out.cell (World.block_lt_of_cell? w _ hx188_4)).trans hx188_4
                              replace hx188_5 := (HB.out.cell (World.block_lt_of_cell? w _ hx188_5)).trans hx188_5
                              have HR188_2 := Aside0.mk hi188_2
                              have HC188_2 := Aside0.mk hl188_2
                              clear hi188_2 hl188_2
                              replace p188 := eq_true p188
                              replace q188 := eq_true q188
                              have p189 : 0 ≤ (t185 : Int) := of_decide_eq_true (by first | (with_reducible assumption) | assumption)
                              have q189 : t185 < (l0.length : Int) := of_decide_eq_true (by first | (with_reducible assumption) | assumption)
                              obtain ⟨ad189, A189_2, c189_2, e189, hx189_0, hx189_1, hx189_2, hx189_3, hx189_4, hx189_5, hl189_2, hi189_2⟩ := at_T27 HR0.out t185 p189 q189
                              have hw189_5 := hx189_5
                              have hw189_4 := hx189_4
                              have hw189_3 := hx189_3
                              have hw189_2 := hx189_2
                              have hw189_1 := hx189_1
                              have hw189_0 := hx189_0
                              obtain rfl : ad188 = ad189 := (by injection e189)
                              replace hx189_0 := (HB.out.cell (World.block_lt_of_cell? w _ hx189_0)).trans hx189_0
                              replace hx189_1 := (HB.out.cell (World.block_lt_of_cell? w _ hx189_1)).trans hx189_1
                              replace hx189_2 := (HB.out.cell (World.block_lt_of_cell? w _ hx189_2)).trans hx189_2
                              replace hx189_3 := (HB.out.cell (World.block_lt_of_cell? w _ hx189_3)).trans hx189_3
                              replace hx189_4 := (HB.out.cell (World.block_lt_of_cell? w _ hx189_4)).trans hx189_4
                              replace hx189_5 := (HB.out.cell (World.block_lt_of_cell? w _ hx189_5)).trans hx189_5
                              have HR189_2 := Aside0.mk hi189_2
                              have HC189_2 := Aside0.mk hl189_2
                              clear hi189_2 hl189_2
                              replace p189 := eq_true p189
                              replace q189 := eq_true q189
                              refine start_ (n := 10) (S := fun w' => w'.cell? (ad188.add ((x9_3).toNat * 6)) = some (.string ((rd_T27 l0 x9_3).f0)) ∧ w'.cell? ⟨(ad188.add ((x9_3).toNat * 6)).block, (ad188.add ((x9_3).toNat * 6)).off + 1, none⟩ = some (.int .i64 ((rd_T27 l0 x9_3).f1)) ∧ w'.cell? ⟨(ad188.add ((x9_3).toNat * 6)).block, (ad188.add ((x9_3).toNat * 6)).off + 2, none⟩ = some (.slice A188_2 ((rd_T27 l0 x9_3).f2).length c188_2) ∧ w'.cell? ⟨(ad188.add ((x9_3).toNat * 6)).block, (ad188.add ((x9_3).toNat * 6)).off + 3, none⟩ = some (.int .i64 ((rd_T27 l0 x9_3).f3)) ∧ w'.cell? ⟨(ad188.add ((x9_3).toNat * 6)).block, (ad188.add ((x9_3).toNat * 6)).off + 4, none⟩ = some (.int .i64 ((rd_T27 l0 x9_3).f4)) ∧ w'.cell? ⟨(ad188.add ((x9_3).toNat * 6)).block, (ad188.add ((x9_3).toNat * 6)).off + 5, none⟩ = some (.int .i64 ((rd_T27 l0 x9_3).f5)) ∧ w'.cell? (ad188.add ((t185).toNat * 6)) = some (.string ((rd_T27 l0 t185).f0)) ∧ w'.cell? ⟨(ad188.add ((t185).toNat * 6)).block, (ad188.add ((t185).toNat * 6)).off + 1, none⟩ = some (.int .i64 ((rd_T27 l0 t185).f1)) ∧ w'.cell? ⟨(ad188.add ((t185).toNat * 6)).block, (ad188.add ((t185).toNat * 6)).off + 2, none⟩ = some (.slice A189_2 ((rd_T27 l0 t185).f2).length c189_2) ∧ w'.cell? ⟨(ad188.add ((t185).toNat * 6)).block, (ad188.add ((t185).toNat * 6)).off + 3, none⟩ = some (.int .i64 ((rd_T27 l0 t185).f3)) ∧ w'.cell? ⟨(ad188.add ((t185).toNat * 6)).block, (ad188.add ((t185).toNat * 6)).off + 4, none⟩ = some (.int .i64 ((rd_T27 l0 t185).f4)) ∧ w'.cell? ⟨(ad188.add ((t185).toNat * 6)).block, (ad188.add ((t185).toNat * 6)).off + 5, none⟩ = some (.int .i64 ((rd_T27 l0 t185).f5))) (ds := []) #[false, false, false, false, false, false, false, false, false, false] (by kernel_rfl) rfl rfl ⟨((HB.out.cell (World.block_lt_of_cell? w _ hw188_0)).trans hw188_0), ((HB.out.cell (World.block_lt_of_cell? w _ hw188_1)).trans hw188_1), ((HB.out.cell (World.block_lt_of_cell? w _ hw188_2)).trans hw188_2), ((HB.out.cell (World.block_lt_of_cell? w _ hw188_3)).trans hw188_3), ((HB.out.cell (World.block_lt_of_cell? w _ hw188_4)).trans hw188_4), ((HB.out.cell (World.block_lt_of_cell? w _ hw188_5)).trans hw188_5), ((HB.out.cell (World.block_lt_of_cell? w _ hw189_0)).trans hw189_0), ((HB.out.cell (World.block_lt_of_cell? w _ hw189_1)).trans hw189_1), ((HB.out.cell (World.block_lt_of_cell? w _ hw189_2)).trans hw189_2), ((HB.out.cell (World.block_lt_of_cell? w _ hw189_3)).trans hw189_3), ((HB.out.cell (World.block_lt_of_cell? w _ hw189_4)).trans hw189_4), ((HB.out.cell (World.block_lt_of_cell? w _ hw189_5)).trans hw189_5)⟩ (fun hHeld => ?_); refine with_tabW triremelaw21_ExpandBest.tab12 triremelaw21_ExpandBest.bits12 (fun HT_ HW_ => ?_)
                              generalize wr.drew = w27 at HB HR188_2 HR189_2 hx188_0 hx188_1 hx188_2 hx188_3 hx188_4 hx188_5 hx189_0 hx189_1 hx189_2 hx189_3 hx189_4 hx189_5 hHeld ⊢
                              refine pure_ (i := 0) (N := some 53) (v := ?_) (a' := ?_) #[true, false, false, false, false, false, false, false, false, false] rfl rfl (any_of HT_.out (by kernel_rfl)) (fun _ _ _ h => h) (Or.inl ⟨by rfl, ?_⟩) ?_ ?_
                              rotate_left
                              · intro w'
                                go_simp
                                with_reducible rfl
                              rotate_left
                              · simp only [Act.put, List.setIfInBounds_toArray, List.set_cons_zero, List.set_cons_succ, i64_w, i32_w]
                                rfl
                              refine pure_ (i := 1) (N := some 54) (v := ?_) (a' := ?_) #[true, true, false, false, false, false, false, false, false, false] rfl rfl (any_of HT_.out (by kernel_rfl)) (fun _ _ _ h => h) (Or.inl ⟨by rfl, ?_⟩) ?_ ?_
                              rotate_left
                              · intro w'
                                go_simp
                                with_reducible rfl
                              rotate_left
                              · simp only [Act.put, List.setIfInBounds_toArray, List.set_cons_zero, List.set_cons_succ, i64_w, i32_w]
                                rfl
                              refine pure_ (i := 2) (N := some 55) (v := ?_) (a' := ?_) #[true, true, true, false, false, false, false, false, false, false] rfl rfl (any_of HT_.out (by kernel_rfl)) (fun _ _ _ h => h) (Or.inl ⟨by rfl, ?_⟩) ?_ ?_
                              rotate_left
                              · intro w'
                                go_simp
                                with_reducible rfl
                              rotate_left
                              · simp only [Act.put, List.setIfInBounds_toArray, List.set_cons_zero, List.set_cons_succ, i64_w, i32_w]
                                rfl
                              refine pure_ (i := 4) (N := some 57) (v := ?_) (a' := ?_) #[true, true, true, false, true, false, false, false, false, false] rfl rfl (any_of HT_.out (by kernel_rfl)) (fun _ _ _ h => h) (Or.inl ⟨by rfl, ?_⟩) ?_ ?_
                              rotate_left
                              · intro w'
                                go_simp
                                with_reducible rfl
                              rotate_left
                              · simp only [Act.put, List.setIfInBounds_toArray, List.set_cons_zero, List.set_cons_succ, i64_w, i32_w]
                                rfl
                              refine pure_ (i := 5) (N := some 58) (v := ?_) (a' := ?_) #[true, true, true, false, true, true, false, false, false, false] rfl rfl (any_of HT_.out (by kernel_rfl)) (fun _ _ _ h => h) (Or.inl ⟨by rfl, ?_⟩) ?_ ?_
                              rotate_left
                              · intro w'
                                go_simp
                                with_reducible rfl
                              rotate_left
                              · simp only [Act.put, List.setIfInBounds_toArray, List.set_cons_zero, List.set_cons_succ, i64_w, i32_w]
                                rfl
                              refine pure_ (i := 6) (N := some 59) (v := ?_) (a' := ?_) #[true, true, true, false, true, true, true, false, false, false] rfl rfl (any_of HT_.out (by kernel_rfl)) (fun _ _ _ h => h) (Or.inl ⟨by rfl, ?_⟩) ?_ ?_
                              rotate_left
                              · intro w'
                                go_simp
                                with_reducible rfl
                              rotate_left
                              · simp only [Act.put, List.setIfInBounds_toArray, List.set_cons_zero, List.set_cons_succ, i64_w, i32_w]
                                rfl
                              refine pure_ (i := 8) (N := some 61) (v := ?_) (a' := ?_) #[true, true, true, false, true, true, true, false, true, false] rfl rfl (any_of HT_.out (by kernel_rfl)) (fun _ _ _ h => h) (Or.inl ⟨by rfl, ?_⟩) ?_ ?_
                              rotate_left
                              · intro w'
                                go_simp
                                with_reducible rfl
                              rotate_left
                              · simp only [Act.put, List.setIfInBounds_toArray, List.set_cons_zero, List.set_cons_succ, i64_w, i32_w]
                                rfl
                              refine take_ (i := 3) (N := some 56) (v := ?_) (a' := ?_) #[true, true, true, true, true, true, true, false, true, false] rfl rfl (take_ofW HT_.out HW_.out (by kernel_rfl)) (fun _ _ _ h => h) (Or.inl ⟨by rfl, ?_⟩) hHeld ?_ ?_
                              rotate_left
                              · rintro w' ⟨s0, s1, s2, s3, s4, s5, s6, s7, s8, s9, s10, s11⟩
                                go_simp
                                with_reducible rfl
                              rotate_left
                              · simp only [Act.put, List.setIfInBounds_toArray, List.set_cons_zero, List.set_cons_succ, i64_w, i32_w]
                                rfl
                              refine take_ (i := 7) (N := some 60) (v := ?_) (a' := ?_) #[true, true, true, true, true, true, true, true, true, false] rfl rfl (take_ofW HT_.out HW_.out (by kernel_rfl)) (fun _ _ _ h => h) (Or.inl ⟨by rfl, ?_⟩) hHeld ?_ ?_
                              rotate_left
                              · rintro w' ⟨s0, s1, s2, s3, s4, s5, s6, s7, s8, s9, s10, s11⟩
                                go_simp
                                with_reducible rfl
                              rotate_left
                              · simp only [Act.put, List.setIfInBounds_toArray, List.set_cons_zero, List.set_cons_succ, i64_w, i32_w]
                                rfl
                              refine one_ (i := 9) (N := some 62) #[true, true, true, true, true, true, true, true, true, true] rfl rfl (one_of HT_.out (by kernel_rfl)) (by decide) (fun K hK => ?_)
                              refine goes_ Try.func16 (by kernel_rfl) rfl #[.agg #[.string ((rd_T27 l0 x9_3).f0), .int .i64 ((rd_T27 l0 x9_3).f1), .slice A188_2 ((rd_T27 l0 x9_3).f2).length c188_2, .int .i64 ((rd_T27 l0 x9_3).f3), .int .i64 ((rd_T27 l0 x9_3).f4), .int .i64 ((rd_T27 l0 x9_3).f5)], .agg #[.string ((rd_T27 l0 t185).f0), .int .i64 ((rd_T27 l0 t185).f1), .slice A189_2 ((rd_T27 l0 t185).f2).length c189_2, .int .i64 ((rd_T27 l0 t185).f3), .int .i64 ((rd_T27 l0 t185).f4), .int .i64 ((rd_T27 l0 t185).f5)], .int .i64 (wrap64 (1 + (Int.tmod (wrap64 (a1)) 4)))] (by rfl) rfl rfl (by (try simp only [List.map_toArray, List.map_cons, List.map_nil]); first | done | rfl | (simp only [List.length_drop, List.length_take]; rfl)) ?_
                              with_reducible refine (expand_Better.calls k3 ((rd_T27 l0 x9_3).f0) ((rd_T27 l0 x9_3).f1) _ _ ((rd_T27 l0 x9_3).f2) ((rd_T27 l0 x9_3).f3) ((rd_T27 l0 x9_3).f4) ((rd_T27 l0 x9_3).f5) ((rd_T27 l0 t185).f0) ((rd_T27 l0 t185).f1) _ _ ((rd_T27 l0 t185).f2) ((rd_T27 l0 t185).f3) ((rd_T27 l0 t185).f4) ((rd_T27 l0 t185).f5) (wrap64 (1 + (Int.tmod (wrap64 (a1)) 4))) true _ ?side1 ?side2 ?side3 ?side4 A25.out).mono ?_
                              (case side1 => repeat (first | exact (Kd.C_below HR188_2.out HB.out) | (with_reducible refine Kd.C_alloc ?_ _) | (with_reducible refine Kd.C_drewN ?_ _) | (with_reducible refine Kd.C_drew ?_)))
                              (case side2 => exact HC188_2.out)
                              (case side3 => repeat (first | exact (Kd.C_below HR189_2.out HB.out) | (with_reducible refine Kd.C_alloc ?_ _) | (with_reducible refine Kd.C_drewN ?_ _) | (with_reducible refine Kd.C_drew ?_)))
                              (case side4 => exact HC189_2.out)
                              rintro e w28 ⟨rfl, hb⟩
                              refine ⟨_, rfl, ?_⟩
                              have n0_ := Aside0.mk (below_step (by repeat (first | (with_reducible first | exact HB.out | apply below_alloc | apply pw_below_drewN | apply below_drew1) | exact HB.out)) hb)
                              clear HB
                              have HB := n0_
                              clear n0_
                              (try clear hb)
                              (try clear hb2)
                              (try clear hk)
                              (try clear hi)
                              refine hK.out _ _ ⟨((HB.out.cell (World.block_lt_of_cell? w _ hw188_0)).trans hw188_0), ((HB.out.cell (World.block_lt_of_cell? w _ hw188_1)).trans hw188_1), ((HB.out.cell (World.block_lt_of_cell? w _ hw188_2)).trans hw188_2), ((HB.out.cell (World.block_lt_of_cell? w _ hw188_3)).trans hw188_3), ((HB.out.cell (World.block_lt_of_cell? w _ hw188_4)).trans hw188_4), ((HB.out.cell (World.block_lt_of_cell? w _ hw188_5)).trans hw188_5), ((HB.out.cell (World.block_lt_of_cell? w _ hw189_0)).trans hw189_0), ((HB.out.cell (World.block_lt_of_cell? w _ hw189_1)).trans hw189_1), ((HB.out.cell (World.block_lt_of_cell? w _ hw189_2)).trans hw189_2), ((HB.out.cell (World.block_lt_of_cell? w _ hw189_3)).trans hw189_3), ((HB.out.cell (World.block_lt_of_cell? w _ hw189_4)).trans hw189_4), ((HB.out.cell (World.block_lt_of_cell? w _ hw189_5)).trans hw189_5)⟩ (fun hHeld => ?_)
                              clear hK K
                              refine norm_ (a' := ?_) ?_ ?_
                              rotate_left
                              · show Act.put _ (some 62) _ = _
                                simp only [Act.put, List.setIfInBounds_toArray, List.set_cons_zero, List.set_cons_succ, i64_w, i32_w]
                                rfl
                              refine done_ (done_of HT_.out (by kernel_rfl)) ?_
                              try go_wp2
                              go_ret
                              exact ⟨by first | rfl | (simp [errW_none, errW_some] <;> rfl) | (simp [*, errW_none, errW_some] <;> rfl), by repeat (first | (with_reducible first | exact HB.out | apply below_alloc | apply pw_below_drewN | apply below_drew1) | exact HB.out)⟩
                            · replace c26 := Bool.eq_false_iff.mpr c26
                              subst c26
                              have H1 : (triremelaw21_ExpandBest.l0 k3 l0 a2 (wrap64 (1 + (Int.tmod (wrap64 (a1)) 4))) t185 (wrap64 (x9_3 + 1))) = some r := by rw [if_neg (show ¬ (false = true) by decide)] at H; exact H
                              clear H
                              have H := H1
                              clear H1
                              have H' := Aside0.mk H
                              clear H
                              try go_wp2
                              have n0_ := Aside0.mk (below_drew1 HB.out)
                              clear HB
                              have HB := n0_
                              clear n0_
                              have p188 : 0 ≤ (x9_3 : Int) := of_decide_eq_true (by first | (with_reducible assumption) | assumption)
                              have q188 : x9_3 < (l0.length : Int) := of_decide_eq_true (by first | (with_reducible assumption) | assumption)
                              obtain ⟨ad188, A188_2, c188_2, e188, hx188_0, hx188_1, hx188_2, hx188_3, hx188_4, hx188_5, hl188_2, hi188_2⟩ := at_T27 HR0.out x9_3 p188 q188
                              have hw188_5 := hx188_5
                              have hw188_4 := hx188_4
                              have hw188_3 := hx188_3
                              have hw188_2 := hx188_2
                              have hw188_1 := hx188_1
                              have hw188_0 := hx188_0
                              cases e188
                              replace hx188_0 := (HB.out.cell (World.block_lt_of_cell? w _ hx188_0)).trans hx188_0
                              replace hx188_1 := (HB.out.cell (World.block_lt_of_cell? w _ hx188_1)).trans hx188_1
                              replace hx188_2 := (HB.out.cell (World.block_lt_of_cell? w _ hx188_2)).trans hx188_2
                              replace hx188_3 := (HB.out.cell (World.block_lt_of_cell? w _ hx188_3)).trans hx188_3
                              replace hx188_4 := (HB.out.cell (World.block_lt_of_cell? w _ hx188_4)).trans hx188_4
                              replace hx188_5 := (HB.out.cell (World.block_lt_of_cell? w _ hx188_5)).trans hx188_5
                              have HR188_2 := Aside0.mk hi188_2
                              have HC188_2 := Aside0.mk hl188_2
                              clear hi188_2 hl188_2
                              replace p188 := eq_true p188
                              replace q188 := eq_true q188
                              have p189 : 0 ≤ (t185 : Int) := of_decide_eq_true (by first | (with_reducible assumption) | assumption)
                              have q189 : t185 < (l0.length : Int) := of_decide_eq_true (by first | (with_reducible assumption) | assumption)
                              obtain ⟨ad189, A189_2, c189_2, e189, hx189_0, hx189_1, hx189_2, hx189_3, hx189_4, hx189_5, hl189_2, hi189_2⟩ := at_T27 HR0.out t185 p189 q189
                              have hw189_5 := hx189_5
                              have hw189_4 := hx189_4
                              have hw189_3 := hx189_3
                              have hw189_2 := hx189_2
                              have hw189_1 := hx189_1
                              have hw189_0 := hx189_0
                              obtain rfl : ad188 = ad189 := (by injection e189)
                              replace hx189_0 := (HB.out.cell (World.block_lt_of_cell? w _ hx189_0)).trans hx189_0
                              replace hx189_1 := (HB.out.cell (World.block_lt_of_cell? w _ hx189_1)).trans hx189_1
                              replace hx189_2 := (HB.out.cell (World.block_lt_of_cell? w _ hx189_2)).trans hx189_2
                              replace hx189_3 := (HB.out.cell (World.block_lt_of_cell? w _ hx189_3)).trans hx189_3
                              replace hx189_4 := (HB.out.cell (World.block_lt_of_cell? w _ hx189_4)).trans hx189_4
                              replace hx189_5 := (HB.out.cell (World.block_lt_of_cell? w _ hx189_5)).trans hx189_5
                              have HR189_2 := Aside0.mk hi189_2
                              have HC189_2 := Aside0.mk hl189_2
                              clear hi189_2 hl189_2
                              replace p189 := eq_true p189
                              replace q189 := eq_true q189
                              refine start_ (n := 10) (S := fun w' => w'.cell? (ad188.add ((x9_3).toNat * 6)) = some (.string ((rd_T27 l0 x9_3).f0)) ∧ w'.cell? ⟨(ad188.add ((x9_3).toNat * 6)).block, (ad188.add ((x9_3).toNat * 6)).off + 1, none⟩ = some (.int .i64 ((rd_T27 l0 x9_3).f1)) ∧ w'.cell? ⟨(ad188.add ((x9_3).toNat * 6)).block, (ad188.add ((x9_3).toNat * 6)).off + 2, none⟩ = some (.slice A188_2 ((rd_T27 l0 x9_3).f2).length c188_2) ∧ w'.cell? ⟨(ad188.add ((x9_3).toNat * 6)).block, (ad188.add ((x9_3).toNat * 6)).off + 3, none⟩ = some (.int .i64 ((rd_T27 l0 x9_3).f3)) ∧ w'.cell? ⟨(ad188.add ((x9_3).toNat * 6)).block, (ad188.add ((x9_3).toNat * 6)).off + 4, none⟩ = some (.int .i64 ((rd_T27 l0 x9_3).f4)) ∧ w'.cell? ⟨(ad188.add ((x9_3).toNat * 6)).block, (ad188.add ((x9_3).toNat * 6)).off + 5, none⟩ = some (.int .i64 ((rd_T27 l0 x9_3).f5)) ∧ w'.cell? (ad188.add ((t185).toNat * 6)) = some (.string ((rd_T27 l0 t185).f0)) ∧ w'.cell? ⟨(ad188.add ((t185).toNat * 6)).block, (ad188.add ((t185).toNat * 6)).off + 1, none⟩ = some (.int .i64 ((rd_T27 l0 t185).f1)) ∧ w'.cell? ⟨(ad188.add ((t185).toNat * 6)).block, (ad188.add ((t185).toNat * 6)).off + 2, none⟩ = some (.slice A189_2 ((rd_T27 l0 t185).f2).length c189_2) ∧ w'.cell? ⟨(ad188.add ((t185).toNat * 6)).block, (ad188.add ((t185).toNat * 6)).off + 3, none⟩ = some (.int .i64 ((rd_T27 l0 t185).f3)) ∧ w'.cell? ⟨(ad188.add ((t185).toNat * 6)).block, (ad188.add ((t185).toNat * 6)).off + 4, none⟩ = some (.int .i64 ((rd_T27 l0 t185).f4)) ∧ w'.cell? ⟨(ad188.add ((t185).toNat * 6)).block, (ad188.add ((t185).toNat * 6)).off + 5, none⟩ = some (.int .i64 ((rd_T27 l0 t185).f5))) (ds := []) #[false, false, false, false, false, false, false, false, false, false] (by kernel_rfl) rfl rfl ⟨((HB.out.cell (World.block_lt_of_cell? w _ hw188_0)).trans hw188_0), ((HB.out.cell (World.block_lt_of_cell? w _ hw188_1)).trans hw188_1), ((HB.out.cell (World.block_lt_of_cell? w _ hw188_2)).trans hw188_2), ((HB.out.cell (World.block_lt_of_cell? w _ hw188_3)).trans hw188_3), ((HB.out.cell (World.block_lt_of_cell? w _ hw188_4)).trans hw188_4), ((HB.out.cell (World.block_lt_of_cell? w _ hw188_5)).trans hw188_5), ((HB.out.cell (World.block_lt_of_cell? w _ hw189_0)).trans hw189_0), ((HB.out.cell (World.block_lt_of_cell? w _ hw189_1)).trans hw189_1), ((HB.out.cell (World.block_lt_of_cell? w _ hw189_2)).trans hw189_2), ((HB.out.cell (World.block_lt_of_cell? w _ hw189_3)).trans hw189_3), ((HB.out.cell (World.block_lt_of_cell? w _ hw189_4)).trans hw189_4), ((HB.out.cell (World.block_lt_of_cell? w _ hw189_5)).trans hw189_5)⟩ (fun hHeld => ?_); refine with_tabW triremelaw21_ExpandBest.tab12 triremelaw21_ExpandBest.bits12 (fun HT_ HW_ => ?_)
                              generalize wr.drew = w29 at HB HR188_2 HR189_2 hx188_0 hx188_1 hx188_2 hx188_3 hx188_4 hx188_5 hx189_0 hx189_1 hx189_2 hx189_3 hx189_4 hx189_5 hHeld ⊢
                              refine pure_ (i := 0) (N := some 53) (v := ?_) (a' := ?_) #[true, false, false, false, false, false, false, false, false, false] rfl rfl (any_of HT_.out (by kernel_rfl)) (fun _ _ _ h => h) (Or.inl ⟨by rfl, ?_⟩) ?_ ?_
                              rotate_left
                              · intro w'
                                go_simp
                                with_reducible rfl
                              rotate_left
                              · simp only [Act.put, List.setIfInBounds_toArray, List.set_cons_zero, List.set_cons_succ, i64_w, i32_w]
                                rfl
                              refine pure_ (i := 1) (N := some 54) (v := ?_) (a' := ?_) #[true, true, false, false, false, false, false, false, false, false] rfl rfl (any_of HT_.out (by kernel_rfl)) (fun _ _ _ h => h) (Or.inl ⟨by rfl, ?_⟩) ?_ ?_
                              rotate_left
                              · intro w'
                                go_simp
                                with_reducible rfl
                              rotate_left
                              · simp only [Act.put, List.setIfInBounds_toArray, List.set_cons_zero, List.set_cons_succ, i64_w, i32_w]
                                rfl
                              refine pure_ (i := 2) (N := some 55) (v := ?_) (a' := ?_) #[true, true, true, false, false, false, false, false, false, false] rfl rfl (any_of HT_.out (by kernel_rfl)) (fun _ _ _ h => h) (Or.inl ⟨by rfl, ?_⟩) ?_ ?_
                              rotate_left
                              · intro w'
                                go_simp
                                with_reducible rfl
                              rotate_left
                              · simp only [Act.put, List.setIfInBounds_toArray, List.set_cons_zero, List.set_cons_succ, i64_w, i32_w]
                                rfl
                              refine pure_ (i := 4) (N := some 57) (v := ?_) (a' := ?_) #[true, true, true, false, true, false, false, false, false, false] rfl rfl (any_of HT_.out (by kernel_rfl)) (fun _ _ _ h => h) (Or.inl ⟨by rfl, ?_⟩) ?_ ?_
                              rotate_left
                              · intro w'
                                go_simp
                                with_reducible rfl
                              rotate_left
                              · simp only [Act.put, List.setIfInBounds_toArray, List.set_cons_zero, List.set_cons_succ, i64_w, i32_w]
                                rfl
                              refine pure_ (i := 5) (N := some 58) (v := ?_) (a' := ?_) #[true, true, true, false, true, true, false, false, false, false] rfl rfl (any_of HT_.out (by kernel_rfl)) (fun _ _ _ h => h) (Or.inl ⟨by rfl, ?_⟩) ?_ ?_
                              rotate_left
                              · intro w'
                                go_simp
                                with_reducible rfl
                              rotate_left
                              · simp only [Act.put, List.setIfInBounds_toArray, List.set_cons_zero, List.set_cons_succ, i64_w, i32_w]
                                rfl
                              refine pure_ (i := 6) (N := some 59) (v := ?_) (a' := ?_) #[true, true, true, false, true, true, true, false, false, false] rfl rfl (any_of HT_.out (by kernel_rfl)) (fun _ _ _ h => h) (Or.inl ⟨by rfl, ?_⟩) ?_ ?_
                              rotate_left
                              · intro w'
                                go_simp
                                with_reducible rfl
                              rotate_left
                              · simp only [Act.put, List.setIfInBounds_toArray, List.set_cons_zero, List.set_cons_succ, i64_w, i32_w]
                                rfl
                              refine pure_ (i := 8) (N := some 61) (v := ?_) (a' := ?_) #[true, true, true, false, true, true, true, false, true, false] rfl rfl (any_of HT_.out (by kernel_rfl)) (fun _ _ _ h => h) (Or.inl ⟨by rfl, ?_⟩) ?_ ?_
                              rotate_left
                              · intro w'
                                go_simp
                                with_reducible rfl
                              rotate_left
                              · simp only [Act.put, List.setIfInBounds_toArray, List.set_cons_zero, List.set_cons_succ, i64_w, i32_w]
                                rfl
                              refine take_ (i := 3) (N := some 56) (v := ?_) (a' := ?_) #[true, true, true, true, true, true, true, false, true, false] rfl rfl (take_ofW HT_.out HW_.out (by kernel_rfl)) (fun _ _ _ h => h) (Or.inl ⟨by rfl, ?_⟩) hHeld ?_ ?_
                              rotate_left
                              · rintro w' ⟨s0, s1, s2, s3, s4, s5, s6, s7, s8, s9, s10, s11⟩
                                go_simp
                                with_reducible rfl
                              rotate_left
                              · simp only [Act.put, List.setIfInBounds_toArray, List.set_cons_zero, List.set_cons_succ, i64_w, i32_w]
                                rfl
                              refine take_ (i := 7) (N := some 60) (v := ?_) (a' := ?_) #[true, true, true, true, true, true, true, true, true, false] rfl rfl (take_ofW HT_.out HW_.out (by kernel_rfl)) (fun _ _ _ h => h) (Or.inl ⟨by rfl, ?_⟩) hHeld ?_ ?_
                              rotate_left
                              · rintro w' ⟨s0, s1, s2, s3, s4, s5, s6, s7, s8, s9, s10, s11⟩
                                go_simp
                                with_reducible rfl
                              rotate_left
                              · simp only [Act.put, List.setIfInBounds_toArray, List.set_cons_zero, List.set_cons_succ, i64_w, i32_w]
                                rfl
                              refine one_ (i := 9) (N := some 62) #[true, true, true, true, true, true, true, true, true, true] rfl rfl (one_of HT_.out (by kernel_rfl)) (by decide) (fun K hK => ?_)
                              refine goes_ Try.func16 (by kernel_rfl) rfl #[.agg #[.string ((rd_T27 l0 x9_3).f0), .int .i64 ((rd_T27 l0 x9_3).f1), .slice A188_2 ((rd_T27 l0 x9_3).f2).length c188_2, .int .i64 ((rd_T27 l0 x9_3).f3), .int .i64 ((rd_T27 l0 x9_3).f4), .int .i64 ((rd_T27 l0 x9_3).f5)], .agg #[.string ((rd_T27 l0 t185).f0), .int .i64 ((rd_T27 l0 t185).f1), .slice A189_2 ((rd_T27 l0 t185).f2).length c189_2, .int .i64 ((rd_T27 l0 t185).f3), .int .i64 ((rd_T27 l0 t185).f4), .int .i64 ((rd_T27 l0 t185).f5)], .int .i64 (wrap64 (1 + (Int.tmod (wrap64 (a1)) 4)))] (by rfl) rfl rfl (by (try simp only [List.map_toArray, List.map_cons, List.map_nil]); first | done | rfl | (simp only [List.length_drop, List.length_take]; rfl)) ?_
                              with_reducible refine (expand_Better.calls k3 ((rd_T27 l0 x9_3).f0) ((rd_T27 l0 x9_3).f1) _ _ ((rd_T27 l0 x9_3).f2) ((rd_T27 l0 x9_3).f3) ((rd_T27 l0 x9_3).f4) ((rd_T27 l0 x9_3).f5) ((rd_T27 l0 t185).f0) ((rd_T27 l0 t185).f1) _ _ ((rd_T27 l0 t185).f2) ((rd_T27 l0 t185).f3) ((rd_T27 l0 t185).f4) ((rd_T27 l0 t185).f5) (wrap64 (1 + (Int.tmod (wrap64 (a1)) 4))) false _ ?side1 ?side2 ?side3 ?side4 A25.out).mono ?_
                              (case side1 => repeat (first | exact (Kd.C_below HR188_2.out HB.out) | (with_reducible refine Kd.C_alloc ?_ _) | (with_reducible refine Kd.C_drewN ?_ _) | (with_reducible refine Kd.C_drew ?_)))
                              (case side2 => exact HC188_2.out)
                              (case side3 => repeat (first | exact (Kd.C_below HR189_2.out HB.out) | (with_reducible refine Kd.C_alloc ?_ _) | (with_reducible refine Kd.C_drewN ?_ _) | (with_reducible refine Kd.C_drew ?_)))
                              (case side4 => exact HC189_2.out)
                              rintro e w30 ⟨rfl, hb⟩
                              refine ⟨_, rfl, ?_⟩
                              have n0_ := Aside0.mk (below_step (by repeat (first | (with_reducible first | exact HB.out | apply below_alloc | apply pw_below_drewN | apply below_drew1) | exact HB.out)) hb)
                              clear HB
                              have HB := n0_
                              clear n0_
                              (try clear hb)
                              (try clear hb2)
                              (try clear hk)
                              (try clear hi)
                              refine hK.out _ _ ⟨((HB.out.cell (World.block_lt_of_cell? w _ hw188_0)).trans hw188_0), ((HB.out.cell (World.block_lt_of_cell? w _ hw188_1)).trans hw188_1), ((HB.out.cell (World.block_lt_of_cell? w _ hw188_2)).trans hw188_2), ((HB.out.cell (World.block_lt_of_cell? w _ hw188_3)).trans hw188_3), ((HB.out.cell (World.block_lt_of_cell? w _ hw188_4)).trans hw188_4), ((HB.out.cell (World.block_lt_of_cell? w _ hw188_5)).trans hw188_5), ((HB.out.cell (World.block_lt_of_cell? w _ hw189_0)).trans hw189_0), ((HB.out.cell (World.block_lt_of_cell? w _ hw189_1)).trans hw189_1), ((HB.out.cell (World.block_lt_of_cell? w _ hw189_2)).trans hw189_2), ((HB.out.cell (World.block_lt_of_cell? w _ hw189_3)).trans hw189_3), ((HB.out.cell (World.block_lt_of_cell? w _ hw189_4)).trans hw189_4), ((HB.out.cell (World.block_lt_of_cell? w _ hw189_5)).trans hw189_5)⟩ (fun hHeld => ?_)
                              clear hK K
                              refine norm_ (a' := ?_) ?_ ?_
                              rotate_left
                              · show Act.put _ (some 62) _ = _
                                simp only [Act.put, List.setIfInBounds_toArray, List.set_cons_zero, List.set_cons_succ, i64_w, i32_w]
                                rfl
                              refine done_ (done_of HT_.out (by kernel_rfl)) ?_
                              try go_wp2
                              go_roundg k3
                              case measure => have := HJ3.out; have := HJ9.out; have := HK3.out; omega
                              case rel => exact ⟨(wrap64 (x9_3 + 1)), (by first | rfl | (simp; done) | (simp [*]; done)), H', ⟨by have := HJ3.out; have := HJ9.out; have := HK3.out; omega⟩, ⟨by repeat (first | (with_reducible first | exact HB.out | apply below_alloc | apply pw_below_drewN | apply below_drew1) | exact HB.out)⟩⟩
                          · rw [if_neg c24] at H
                            exact absurd H (by simp)
                        · rw [if_neg c23] at H
                          exact absurd H (by simp)
                      · rw [if_neg c22] at H
                        exact absurd H (by simp)
                    · rw [if_neg c21] at H
                      have c21b0 : decide (x9_3 < (l0.length : Int)) = false := decide_eq_false c21
                      clear c21
                      by_cases c31 : 0 ≤ t185
                      · rw [if_pos c31] at H
                        have c31b0 := eq_true c31
                        have c31b1 : decide (0 ≤ t185) = true := decide_eq_true c31
                        clear c31
                        by_cases c32 : t185 ≤ (l0.length : Int)
                        · rw [if_pos c32] at H
                          have c32b0 := eq_true c32
                          have c32b1 : decide (t185 ≤ (l0.length : Int)) = true := decide_eq_true c32
                          clear c32
                          obtain ⟨y191, hy191⟩ : ∃ y_ : List (S27), y_ = (l0.drop (t185 : Int).toNat) := ⟨_, rfl⟩
                          replace H : ((expand_Choose.f k3 y191 (wrap64 (1 + (Int.tmod (wrap64 (a1)) 4))) a2).bind fun t195 => (if t195 = 0 then ((triremelaw21_known.f k3).bind fun t196 => (some t196)) else (some false))) = some r := by first | (rw [hy191]; with_reducible exact H) | (have H2_ := (Option.bind_some _ _).symm.trans H; rw [hy191]; with_reducible exact H2_) | (have H2_ := (Option.bind_some _ _).symm.trans H; with_reducible exact H2_) | with_reducible exact H | (rw [hy191]; exact H) | exact H
                          have Ny191 := Aside0.mk hy191
                          clear hy191
                          replace H := Option.bind_eq_some_iff.mp H
                          obtain ⟨t195, A330, H⟩ := H
                          replace H : (if t195 = 0 then ((triremelaw21_known.f k3).bind fun t196 => (some t196)) else (some false)) = some r := H
                          have A33 := Aside0.mk A330
                          clear A330
                          by_cases c34 : t195 = 0
                          · rw [if_pos c34] at H
                            have c34b0 : (t195 == 0) = true := beq_iff_eq.mpr c34
                            have c34b1 : (t195 != 0) = false := bne_eq_false_iff_eq.mpr c34
                            clear c34
                            replace H := Option.bind_eq_some_iff.mp H
                            obtain ⟨t196, A350, H⟩ := H
                            replace H : (some t196) = some r := H
                            have A35 := Aside0.mk A350
                            clear A350
                            obtain rfl := Option.some.inj H
                            have q36 : (t185 : Int) ≤ ((l0.length : Int) : Int) := of_decide_eq_true (by first | (with_reducible assumption) | assumption)
                            obtain ⟨i036, hi036, _, hsz36, _⟩ := info_parts info27
                            have hroom36 : l0.length ≤ c0 := HC0.out
                            have hC36 : Kd.C k27 _ A0 l0.length l0 := HR0.out
                            have q036 : (0 : Int) ≤ (t185 : Int) := of_decide_eq_true (by first | (with_reducible assumption) | assumption)
                            have hcut36 := cut_from (P := Try.prog) 22 27 .i64 Try.underlying22 hi036 6 hsz36 A0 l0.length c0 t185 q036 q36
                            have hr36 := Kd.C_drop (m := (t185 : Int).toNat) (c := c0) hC36 (by omega) hroom36
                            obtain ⟨A36, hA36⟩ : ∃ A1, A1 = (if c0 = (t185 : Int).toNat then A0 else (A0 : Option Addr).map (·.add ((t185 : Int).toNat * 6))) := ⟨_, rfl⟩
                            obtain ⟨c36, hc36⟩ : ∃ c1, c1 = c0 - (t185 : Int).toNat := ⟨_, rfl⟩
                            have hy36 : y191.length = l0.length - (t185 : Int).toNat := (by rw [Ny191.out, List.length_drop] <;> omega)
                            rw [show (l0).drop (t185 : Int).toNat = y191 from Ny191.out.symm] at hr36
                            replace hr36 : Kd.C k27 _ A36 y191.length y191 := (by rw [hA36]; exact hr36)
                            rw [← hy36, ← hA36, ← hc36] at hcut36
                            have HR194 := Aside0.mk hr36
                            have HC194 := Aside0.mk (show y191.length ≤ c36 from by rw [hy36, hc36]; exact Nat.sub_le_sub_right hroom36 _)
                            clear hr36 hC36 hroom36 hi036 hsz36 hc36
                            have KY36 := Aside0.mk hy36
                            have KA36 := Aside0.mk hA36
                            clear hy36 hA36
                            replace q36 := eq_true q36
                            go_wp2_with (first | ((with_reducible refine gate_callee (f := 18) rfl ?_); refine goesL_ (some 68) rfl rfl Try.func18 (by kernel_rfl) rfl #[.slice A36 y191.length c36, .int .i64 (wrap64 (1 + (Int.tmod (wrap64 (a1)) 4))), .int .i64 a2] rfl (by (try simp only [List.map_toArray, List.map_cons, List.map_nil]); first | done | rfl | (simp only [List.length_drop, List.length_take]; rfl)) ?_; (with_reducible refine (expand_Choose.calls k3 _ _ y191 (wrap64 (1 + (Int.tmod (wrap64 (a1)) 4))) a2 t195 _ ?side1 ?side2 A33.out).mono ?_); (case side1 => repeat (first | exact (Kd.C_below HR194.out HB.out) | (with_reducible refine Kd.C_alloc ?_ _) | (with_reducible refine Kd.C_drewN ?_ _) | (with_reducible refine Kd.C_drew ?_))); (case side2 => exact HC194.out); rintro e w37 ⟨rfl, hb⟩; refine ⟨_, rfl, ?_⟩; have n0_ := Aside0.mk (below_step (by repeat (first | (with_reducible first | exact HB.out | apply below_alloc | apply pw_below_drewN | apply below_drew1) | exact HB.out)) hb); clear HB; have HB := n0_; clear n0_; (try clear hb); (try clear hb2); (try clear hk); (try clear hi)) | (go_at_call 15; (with_reducible refine (triremelaw21_known.calls k3  t196 _ A35.out).mono ?_); rintro e w38 ⟨rfl, hb⟩; have n0_ := Aside0.mk (below_step (by repeat (first | (with_reducible first | exact HB.out | apply below_alloc | apply pw_below_drewN | apply below_drew1) | exact HB.out)) hb); clear HB; have HB := n0_; clear n0_; (try clear hb); (try clear hb2); (try clear hk); (try clear hi)))
                            go_ret
                            exact ⟨by first | rfl | (simp [errW_none, errW_some] <;> rfl) | (simp [*, errW_none, errW_some] <;> rfl), by repeat (first | (with_reducible first | exact HB.out | apply below_alloc | apply pw_below_drewN | apply below_drew1) | exact HB.out)⟩
                          · rw [if_neg c34] at H
                            have c34b0 : (t195 == 0) = false := beq_eq_false_iff_ne.mpr c34
                            have c34b1 : (t195 != 0) = true := bne_iff_ne.mpr c34
                            obtain rfl := Option.some.inj H
                            have q39 : (t185 : Int) ≤ ((l0.length : Int) : Int) := of_decide_eq_true (by first | (with_reducible assumption) | assumption)
                            obtain ⟨i039, hi039, _, hsz39, _⟩ := info_parts info27
                            have hroom39 : l0.length ≤ c0 := HC0.out
                            have hC39 : Kd.C k27 _ A0 l0.length l0 := HR0.out
                            have q039 : (0 : Int) ≤ (t185 : Int) := of_decide_eq_true (by first | (with_reducible assumption) | assumption)
                            have hcut39 := cut_from (P := Try.prog) 22 27 .i64 Try.underlying22 hi039 6 hsz39 A0 l0.length c0 t185 q039 q39
                            have hr39 := Kd.C_drop (m := (t185 : Int).toNat) (c := c0) hC39 (by omega) hroom39
                            obtain ⟨A39, hA39⟩ : ∃ A1, A1 = (if c0 = (t185 : Int).toNat then A0 else (A0 : Option Addr).map (·.add ((t185 : Int).toNat * 6))) := ⟨_, rfl⟩
                            obtain ⟨c39, hc39⟩ : ∃ c1, c1 = c0 - (t185 : Int).toNat := ⟨_, rfl⟩
                            have hy39 : y191.length = l0.length - (t185 : Int).toNat := (by rw [Ny191.out, List.length_drop] <;> omega)
                            rw [show (l0).drop (t185 : Int).toNat = y191 from Ny191.out.symm] at hr39
                            replace hr39 : Kd.C k27 _ A39 y191.length y191 := (by rw [hA39]; exact hr39)
                            rw [← hy39, ← hA39, ← hc39] at hcut39
                            have HR194 := Aside0.mk hr39
                            have HC194 := Aside0.mk (show y191.length ≤ c39 from by rw [hy39, hc39]; exact Nat.sub_le_sub_right hroom39 _)
                            clear hr39 hC39 hroom39 hi039 hsz39 hc39
                            have KY39 := Aside0.mk hy39
                            have KA39 := Aside0.mk hA39
                            clear hy39 hA39
                            replace q39 := eq_true q39
                            go_wp2_with (first | ((with_reducible refine gate_callee (f := 18) rfl ?_); refine goesL_ (some 68) rfl rfl Try.func18 (by kernel_rfl) rfl #[.slice A39 y191.length c39, .int .i64 (wrap64 (1 + (Int.tmod (wrap64 (a1)) 4))), .int .i64 a2] rfl (by (try simp only [List.map_toArray, List.map_cons, List.map_nil]); first | done | rfl | (simp only [List.length_drop, List.length_take]; rfl)) ?_; (with_reducible refine (expand_Choose.calls k3 _ _ y191 (wrap64 (1 + (Int.tmod (wrap64 (a1)) 4))) a2 t195 _ ?side1 ?side2 A33.out).mono ?_); (case side1 => repeat (first | exact (Kd.C_below HR194.out HB.out) | (with_reducible refine Kd.C_alloc ?_ _) | (with_reducible refine Kd.C_drewN ?_ _) | (with_reducible refine Kd.C_drew ?_))); (case side2 => exact HC194.out); rintro e w40 ⟨rfl, hb⟩; refine ⟨_, rfl, ?_⟩; have n0_ := Aside0.mk (below_step (by repeat (first | (with_reducible first | exact HB.out | apply below_alloc | apply pw_below_drewN | apply below_drew1) | exact HB.out)) hb); clear HB; have HB := n0_; clear n0_; (try clear hb); (try clear hb2); (try clear hk); (try clear hi)))
                            go_ret
                            exact ⟨by first | rfl | (simp [errW_none, errW_some] <;> rfl) | (simp [*, errW_none, errW_some] <;> rfl), by repeat (first | (with_reducible first | exact HB.out | apply below_alloc | apply pw_below_drewN | apply below_drew1) | exact HB.out)⟩
                        · rw [if_neg c32] at H
                          exact absurd H (by simp)
                      · rw [if_neg c31] at H
                        exact absurd H (by simp)

/-- THE ONE PURE STATEMENT of triremelaw21_ExpandBest: yours. -/
def triremelaw21_ExpandBest.Pure : Prop := ∀ (x0 : List (S27)) (x1 : Int) (x2 : Int), (x0.length * 72 ≤ 140737488351232 ∧ ∀ yx0 ∈ x0, B27 yx0) → (Lit.int .u8 x1).wf = true → (Lit.int .i64 x2).wf = true → ∃ k, triremelaw21_ExpandBest.f k x0 x1 x2 = some true
theorem triremelaw21_ExpandBest.walk (P : triremelaw21_ExpandBest.Pure) (x0 : List (S27)) (A0 : Option Addr) (c0 : Nat) (x1 : Int) (x2 : Int) (w : World) (hr0 : Kd.C k27 w A0 x0.length x0) (hc0 : x0.length ≤ c0) (hb0 : (x0.length * 72 ≤ 140737488351232 ∧ ∀ yx0 ∈ x0, B27 yx0)) (hb1 : (Lit.int .u8 x1).wf = true) (hb2 : (Lit.int .i64 x2).wf = true) :
    Calls Try.prog 4 #[.slice A0 x0.length c0, .int .u8 x1, .int .i64 x2] w fun e w' => e = .returned (.bool true) ∧ Below w.heap.size w w' := by
  obtain ⟨k, h⟩ := P x0 x1 x2 hb0 hb1 hb2
  refine (triremelaw21_ExpandBest.calls k _ _ x0 x1 x2 true w hr0 hc0 h).mono ?_
  rintro e w' ⟨rfl, hd⟩
  exact ⟨rfl, hd⟩

end Go.Proofs.Ytplgkdfmpbkfpaa.HEx
