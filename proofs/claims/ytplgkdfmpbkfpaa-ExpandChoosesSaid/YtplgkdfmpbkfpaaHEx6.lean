-- PRINTED by print.py (a twelfth state) out of the translation. Not trusted: Lean checks it.
import Derived.Test.YtplgkdfmpbkfpaaHEx0
import Derived.Test.YtplgkdfmpbkfpaaHEx3
import Derived.Test.YtplgkdfmpbkfpaaHEx4
import Derived.Test.YtplgkdfmpbkfpaaHEx5
import Derived.Test.YtplgkdfmpbkfpaaHExOp
namespace Go.Proofs.Ytplgkdfmpbkfpaa.HEx
open Go.RowKit Go.Proofs.YtplgkdfmpbkfpaaW.PrintWords Go.Proofs.YtplgkdfmpbkfpaaW.PrintLast Go.Proofs.YtplgkdfmpbkfpaaW.PrintMore
attribute [local go_sem] max2_int min2_int max_two min_two max_three min_three max_four min_four   -- for this text's walks alone
attribute [local go_sem] run_store_fnW fnW_nil fnW_75 fnW_76 fnW_77 fnW_78 fnW_79
set_option linter.unusedVariables false
set_option linter.unusedSimpArgs false

/-! ### triremelaw21_ExpandChooses: function 3 -/
def triremelaw21_ExpandChooses.l0 : Nat → List (S27) → Int → Int → Int → Option (Bool)
  | 0, _, _, _, _ => none
  | k + 1, x0, x1, x2, x7 => if x7 < (x0.length : Int) then (if 0 ≤ x7 then (if 0 < (x0.length : Int) then ((expand_Better.f k ((rd_T27 x0 x7).f0) ((rd_T27 x0 x7).f1) ((rd_T27 x0 x7).f2) ((rd_T27 x0 x7).f3) ((rd_T27 x0 x7).f4) ((rd_T27 x0 x7).f5) ((rd_T27 x0 0).f0) ((rd_T27 x0 0).f1) ((rd_T27 x0 0).f2) ((rd_T27 x0 0).f3) ((rd_T27 x0 0).f4) ((rd_T27 x0 0).f5) x1).bind fun t175 => ((triremeref21_Better.f ((rd_T27 x0 x7).f0) ((rd_T27 x0 x7).f1) ((rd_T27 x0 x7).f2) ((rd_T27 x0 x7).f3) ((rd_T27 x0 x7).f4) ((rd_T27 x0 x7).f5) ((rd_T27 x0 0).f0) ((rd_T27 x0 0).f1) ((rd_T27 x0 0).f2) ((rd_T27 x0 0).f3) ((rd_T27 x0 0).f4) ((rd_T27 x0 0).f5) x1).bind fun t178 => (if (t175 != t178) = true then (some false) else (triremelaw21_ExpandChooses.l0 k x0 x1 x2 (wrap64 (x7 + 1)))))) else (none)) else (none)) else ((expand_Choose.f k x0 x1 x2).bind fun t179 => ((triremeref21_Choose.f k x0 x1 x2).bind fun t180 => (if t179 = t180 then ((expand_Next.f x2).bind fun t181 => ((triremeref21_Next.f x2).bind fun t182 => (if t181 = t182 then ((triremelaw21_known.f k).bind fun t183 => (some t183)) else (some false)))) else (some false))))
def triremelaw21_ExpandChooses.f (k : Nat) (l0 : List (S27)) (a1 : Int) (a2 : Int) : Option (Bool) := if (l0.length : Int) > 60 then ((triremelaw21_known.f k).bind fun t172 => (some t172)) else (triremelaw21_ExpandChooses.l0 k l0 a1 a2 0)
theorem triremelaw21_ExpandChooses.mono_l : ∀ k, (∀ y0 y1 y2 y3, LeO (triremelaw21_ExpandChooses.l0 k y0 y1 y2 y3) (triremelaw21_ExpandChooses.l0 (k + 1) y0 y1 y2 y3))
  | 0 => fun _ _ _ _ r h => by simp [triremelaw21_ExpandChooses.l0] at h
  | k + 1 => by
    have ih0 := triremelaw21_ExpandChooses.mono_l k
    · intro y0 y1 y2 y3
      unfold triremelaw21_ExpandChooses.l0
      repeat' first
      | (with_reducible exact ih0 _ _ _ _)
      | (with_reducible exact expand_Better.mono _ _ _ _ _ _ _ _ _ _ _ _ _ _)
      | (with_reducible exact expand_Choose.mono _ _ _ _)
      | (with_reducible exact triremelaw21_known.mono _)
      | (with_reducible exact triremeref21_Choose.mono _ _ _ _)
      | (with_reducible exact LeO.refl _)
      | (with_reducible exact LeO.none _)
      | (with_reducible refine LeO.ite ?_ ?_)
      | (with_reducible refine LeO.bind ?_ (fun _ => ?_))
      | exact ih0 _ _ _ _
      | exact expand_Better.mono _ _ _ _ _ _ _ _ _ _ _ _ _ _
      | exact expand_Choose.mono _ _ _ _
      | exact triremelaw21_known.mono _
      | exact triremeref21_Choose.mono _ _ _ _
      | exact LeO.none _
      | refine LeO.ite ?_ ?_
      | refine LeO.bind ?_ (fun _ => ?_)
theorem triremelaw21_ExpandChooses.mono : ∀ a0 a1 a2 k, LeO (triremelaw21_ExpandChooses.f k a0 a1 a2) (triremelaw21_ExpandChooses.f (k + 1) a0 a1 a2) := by
  intro a0 a1 a2 k
  have ih0 := triremelaw21_ExpandChooses.mono_l k
  unfold triremelaw21_ExpandChooses.f
  repeat' first
      | (with_reducible exact ih0 _ _ _ _)
      | (with_reducible exact expand_Better.mono _ _ _ _ _ _ _ _ _ _ _ _ _ _)
      | (with_reducible exact expand_Choose.mono _ _ _ _)
      | (with_reducible exact triremelaw21_known.mono _)
      | (with_reducible exact triremeref21_Choose.mono _ _ _ _)
      | (with_reducible exact LeO.refl _)
      | (with_reducible exact LeO.none _)
      | (with_reducible refine LeO.ite ?_ ?_)
      | (with_reducible refine LeO.bind ?_ (fun _ => ?_))
      | exact ih0 _ _ _ _
      | exact expand_Better.mono _ _ _ _ _ _ _ _ _ _ _ _ _ _
      | exact expand_Choose.mono _ _ _ _
      | exact triremelaw21_known.mono _
      | exact triremeref21_Choose.mono _ _ _ _
      | exact LeO.none _
      | refine LeO.ite ?_ ?_
      | refine LeO.bind ?_ (fun _ => ?_)
def triremelaw21_ExpandChooses.T6 : Bool × List (List Nat × List Nat) := (true, [([], []), ([], []), ([0, 1], [0, 1]), ([2], [2]), ([], []), ([4], [4]), ([5], [5]), ([], []), ([3, 6, 7], [3, 6, 7]), ([], []), ([], []), ([9, 10], [9, 10]), ([11], [11]), ([], []), ([13], [13]), ([14], [14]), ([], []), ([12, 15, 16, 8], [12, 15, 16]), ([8, 17], [8, 17])])
def triremelaw21_ExpandChooses.B6 : List Nat := [0, 0, 3, 7, 0, 16, 48, 0, 255, 0, 0, 1536, 3584, 0, 8192, 24576, 0, 131071, 262143]
theorem triremelaw21_ExpandChooses.tab6 : rtab .any (opsOf Try.f3 6) = triremelaw21_ExpandChooses.T6 := by kernel_rfl
theorem triremelaw21_ExpandChooses.bits6 : waitsOk triremelaw21_ExpandChooses.T6.2 triremelaw21_ExpandChooses.B6 = true := by kernel_rfl
set_option maxHeartbeats 8000000 in
set_option maxRecDepth 100000 in
theorem triremelaw21_ExpandChooses.calls (k : Nat) (A0 : Option Addr) (c0 : Nat) (l0 : List (S27)) (a1 : Int) (a2 : Int) (r : Bool) (w : World) (hr0 : Kd.C k27 w A0 l0.length l0) (hc0 : l0.length ≤ c0) (h : triremelaw21_ExpandChooses.f k l0 a1 a2 = some r) :
    Calls Try.prog 3 #[.slice A0 l0.length c0, .int .i64 a1, .int .i64 a2] w fun e w' => e = .returned (.bool r) ∧ Below w.heap.size w w' := by
  have hu27 := Try.underlying27
  have HR0 := Aside0.mk hr0
  have HC0 := Aside0.mk hc0
  clear hr0 hc0
  have HB := Aside0.mk (Below.refl w.heap.size w)
  have H : (if (l0.length : Int) > 60 then ((triremelaw21_known.f k).bind fun t172 => (some t172)) else (triremelaw21_ExpandChooses.l0 k l0 a1 a2 0)) = some r := h
  clear h
  by_cases c4 : (l0.length : Int) > 60
  · rw [if_pos c4] at H
    have c4b0 : decide (60 < (l0.length : Int)) = true := decide_eq_true c4
    have c4b1 : decide (60 < l0.length) = true := decide_eq_true (by omega)
    clear c4
    replace H := Option.bind_eq_some_iff.mp H
    obtain ⟨t172, A50, H⟩ := H
    replace H : (some t172) = some r := H
    have A5 := Aside0.mk A50
    clear A50
    obtain rfl := Option.some.inj H
    go_enter Try.func3, Try.ntmps3
    go_wp2_with (first | ((with_reducible refine gate_callee (f := 15) rfl ?_); refine goesL_ (some 11) rfl rfl Try.func15 (by kernel_rfl) rfl #[] rfl (by (try simp only [List.map_toArray, List.map_cons, List.map_nil]); first | done | rfl | (simp only [List.length_drop, List.length_take]; rfl)) ?_; (with_reducible refine (triremelaw21_known.calls k  t172 _ A5.out).mono ?_); rintro e w6 ⟨rfl, hb⟩; refine ⟨_, rfl, ?_⟩; have n0_ := Aside0.mk (below_step (by repeat (first | (with_reducible first | exact HB.out | apply below_alloc | apply pw_below_drewN | apply below_drew1) | exact HB.out)) hb); clear HB; have HB := n0_; clear n0_; (try clear hb); (try clear hb2); (try clear hk); (try clear hi)))
    go_ret
    exact ⟨by first | rfl | (simp [errW_none, errW_some] <;> rfl) | (simp [*, errW_none, errW_some] <;> rfl), by repeat (first | (with_reducible first | exact HB.out | apply below_alloc | apply pw_below_drewN | apply below_drew1) | exact HB.out)⟩
  · rw [if_neg c4] at H
    have c4b0 : decide (60 < (l0.length : Int)) = false := decide_eq_false c4
    have c4b1 : decide (60 < l0.length) = false := decide_eq_false (by omega)
    clear c4
    have H' := Aside0.mk H
    clear H
    go_enter Try.func3, Try.ntmps3
    go_wp2
    go_loopg [7] k (fun kq v7 w' => ∃ (x7_1 : Int), v7 = .int .i64 x7_1 ∧ Aside0 (triremelaw21_ExpandChooses.l0 kq l0 a1 a2 x7_1 = some r) ∧ Aside0 (kq ≤ k) ∧ Aside0 (Below w.heap.size w w'))
    case atStart => exact ⟨(0), (by first | rfl | (simp; done) | (simp [*]; done)), H', ⟨Nat.le_refl _⟩, ⟨by repeat (first | (with_reducible first | exact HB.out | apply below_alloc | apply pw_below_drewN | apply below_drew1) | exact HB.out)⟩⟩
    case round =>
      clear H'
      try clear c1
      try clear p2
      try clear c3
      try clear c4
      try clear c4b0
      try clear c4b1
      obtain ⟨x7_1, rfl, HA, HK1, HB⟩ := hrel
      cases gk with
      | zero => exact absurd HA.out (by simp [triremelaw21_ExpandChooses.l0])
      | succ k1 =>
        have H := HA.out
        clear HA
        simp only [triremelaw21_ExpandChooses.l0] at H
        by_cases c7 : x7_1 < (l0.length : Int)
        · rw [if_pos c7] at H
          have c7b0 : decide (x7_1 < (l0.length : Int)) = true := decide_eq_true c7
          clear c7
          by_cases c8 : 0 ≤ x7_1
          · rw [if_pos c8] at H
            have c8b0 : decide (0 ≤ x7_1) = true := decide_eq_true c8
            clear c8
            by_cases c9 : 0 < (l0.length : Int)
            · rw [if_pos c9] at H
              have c9b0 : decide (0 < (l0.length : Int)) = true := decide_eq_true c9
              have c9b1 : decide (0 < l0.length) = true := decide_eq_true (by omega)
              clear c9
              replace H := Option.bind_eq_some_iff.mp H
              obtain ⟨t175, A100, H⟩ := H
              replace H : ((triremeref21_Better.f ((rd_T27 l0 x7_1).f0) ((rd_T27 l0 x7_1).f1) ((rd_T27 l0 x7_1).f2) ((rd_T27 l0 x7_1).f3) ((rd_T27 l0 x7_1).f4) ((rd_T27 l0 x7_1).f5) ((rd_T27 l0 0).f0) ((rd_T27 l0 0).f1) ((rd_T27 l0 0).f2) ((rd_T27 l0 0).f3) ((rd_T27 l0 0).f4) ((rd_T27 l0 0).f5) a1).bind fun t178 => (if (t175 != t178) = true then (some false) else (triremelaw21_ExpandChooses.l0 k1 l0 a1 a2 (wrap64 (x7_1 + 1))))) = some r := H
              have A10 := Aside0.mk A100
              clear A100
              replace H := Option.bind_eq_some_iff.mp H
              obtain ⟨t178, A110, H⟩ := H
              replace H : (if (t175 != t178) = true then (some false) else (triremelaw21_ExpandChooses.l0 k1 l0 a1 a2 (wrap64 (x7_1 + 1)))) = some r := H
              have A11 := Aside0.mk A110
              clear A110
              by_cases c12 : (t175 != t178) = true
              · rw [if_pos c12] at H
                have c12b0 : (t175 != t178) = true := c12
                (try (have c12b1 : decide (t175 = t178) = false := by simpa using c12))
                (try (have c12b2 : (t175 == t178) = false := by simpa using c12))
                (try (have c12b3 : ¬ (t175 = t178) := by simpa using c12))
                clear c12
                obtain rfl := Option.some.inj H
                try go_wp2
                have n0_ := Aside0.mk (below_drew1 HB.out)
                clear HB
                have HB := n0_
                clear n0_
                have p173 : 0 ≤ (x7_1 : Int) := of_decide_eq_true (by first | (with_reducible assumption) | assumption)
                have q173 : x7_1 < (l0.length : Int) := of_decide_eq_true (by first | (with_reducible assumption) | assumption)
                obtain ⟨ad173, A173_2, c173_2, e173, hx173_0, hx173_1, hx173_2, hx173_3, hx173_4, hx173_5, hl173_2, hi173_2⟩ := at_T27 HR0.out x7_1 p173 q173
                have hw173_5 := hx173_5
                have hw173_4 := hx173_4
                have hw173_3 := hx173_3
                have hw173_2 := hx173_2
                have hw173_1 := hx173_1
                have hw173_0 := hx173_0
                cases e173
                replace hx173_0 := (HB.out.cell (World.block_lt_of_cell? w _ hx173_0)).trans hx173_0
                replace hx173_1 := (HB.out.cell (World.block_lt_of_cell? w _ hx173_1)).trans hx173_1
                replace hx173_2 := (HB.out.cell (World.block_lt_of_cell? w _ hx173_2)).trans hx173_2
                replace hx173_3 := (HB.out.cell (World.block_lt_of_cell? w _ hx173_3)).trans hx173_3
                replace hx173_4 := (HB.out.cell (World.block_lt_of_cell? w _ hx173_4)).trans hx173_4
                replace hx173_5 := (HB.out.cell (World.block_lt_of_cell? w _ hx173_5)).trans hx173_5
                have HR173_2 := Aside0.mk hi173_2
                have HC173_2 := Aside0.mk hl173_2
                clear hi173_2 hl173_2
                replace p173 := eq_true p173
                replace q173 := eq_true q173
                have p174 : 0 ≤ (0 : Int) := (by omega)
                have q174 : 0 < (l0.length : Int) := of_decide_eq_true (by first | (with_reducible assumption) | assumption)
                obtain ⟨ad174, A174_2, c174_2, e174, hx174_0, hx174_1, hx174_2, hx174_3, hx174_4, hx174_5, hl174_2, hi174_2⟩ := at_T27 HR0.out 0 p174 q174
                have hw174_5 := hx174_5
                (try rw [show ((0 : Int)).toNat = 0 from rfl] at hw174_5)
                (try rw [show 0 * 6 = 0 from rfl] at hw174_5)
                (try rw [Addr.add_zero'] at hw174_5)
                have hw174_4 := hx174_4
                (try rw [show ((0 : Int)).toNat = 0 from rfl] at hw174_4)
                (try rw [show 0 * 6 = 0 from rfl] at hw174_4)
                (try rw [Addr.add_zero'] at hw174_4)
                have hw174_3 := hx174_3
                (try rw [show ((0 : Int)).toNat = 0 from rfl] at hw174_3)
                (try rw [show 0 * 6 = 0 from rfl] at hw174_3)
                (try rw [Addr.add_zero'] at hw174_3)
                have hw174_2 := hx174_2
                (try rw [show ((0 : Int)).toNat = 0 from rfl] at hw174_2)
                (try rw [show 0 * 6 = 0 from rfl] at hw174_2)
                (try rw [Addr.add_zero'] at hw174_2)
                have hw174_1 := hx174_1
                (try rw [show ((0 : Int)).toNat = 0 from rfl] at hw174_1)
                (try rw [show 0 * 6 = 0 from rfl] at hw174_1)
                (try rw [Addr.add_zero'] at hw174_1)
                have hw174_0 := hx174_0
                (try rw [show ((0 : Int)).toNat = 0 from rfl] at hw174_0)
                (try rw [show 0 * 6 = 0 from rfl] at hw174_0)
                (try rw [Addr.add_zero'] at hw174_0)
                obtain rfl : ad173 = ad174 := (by injection e174)
                have qi174 : (0 < l0.length) = True := eq_true (by omega)
                (try rw [show ((0 : Int)).toNat = 0 from rfl] at hx174_0)
                (try rw [show 0 * 6 = 0 from rfl] at hx174_0)
                (try rw [Addr.add_zero'] at hx174_0)
                (try rw [show ((0 : Int)).toNat = 0 from rfl] at hx174_1)
                (try rw [show 0 * 6 = 0 from rfl] at hx174_1)
                (try rw [Addr.add_zero'] at hx174_1)
                (try rw [show ((0 : Int)).toNat = 0 from rfl] at hx174_2)
                (try rw [show 0 * 6 = 0 from rfl] at hx174_2)
                (try rw [Addr.add_zero'] at hx174_2)
                (try rw [show ((0 : Int)).toNat = 0 from rfl] at hx174_3)
                (try rw [show 0 * 6 = 0 from rfl] at hx174_3)
                (try rw [Addr.add_zero'] at hx174_3)
                (try rw [show ((0 : Int)).toNat = 0 from rfl] at hx174_4)
                (try rw [show 0 * 6 = 0 from rfl] at hx174_4)
                (try rw [Addr.add_zero'] at hx174_4)
                (try rw [show ((0 : Int)).toNat = 0 from rfl] at hx174_5)
                (try rw [show 0 * 6 = 0 from rfl] at hx174_5)
                (try rw [Addr.add_zero'] at hx174_5)
                replace hx174_0 := (HB.out.cell (World.block_lt_of_cell? w _ hx174_0)).trans hx174_0
                replace hx174_1 := (HB.out.cell (World.block_lt_of_cell? w _ hx174_1)).trans hx174_1
                replace hx174_2 := (HB.out.cell (World.block_lt_of_cell? w _ hx174_2)).trans hx174_2
                replace hx174_3 := (HB.out.cell (World.block_lt_of_cell? w _ hx174_3)).trans hx174_3
                replace hx174_4 := (HB.out.cell (World.block_lt_of_cell? w _ hx174_4)).trans hx174_4
                replace hx174_5 := (HB.out.cell (World.block_lt_of_cell? w _ hx174_5)).trans hx174_5
                have HR174_2 := Aside0.mk hi174_2
                have HC174_2 := Aside0.mk hl174_2
                clear hi174_2 hl174_2
                replace p174 := eq_true p174
                replace q174 := eq_true q174
                have p176 : 0 ≤ (x7_1 : Int) := of_decide_eq_true (by first | (with_reducible assumption) | assumption)
                have q176 : x7_1 < (l0.length : Int) := of_decide_eq_true (by first | (with_reducible assumption) | assumption)
                obtain ⟨ad176, A176_2, c176_2, e176, hx176_0, hx176_1, hx176_2, hx176_3, hx176_4, hx176_5, hl176_2, hi176_2⟩ := at_T27 HR0.out x7_1 p176 q176
                have hw176_5 := hx176_5
                have hw176_4 := hx176_4
                have hw176_3 := hx176_3
                have hw176_2 := hx176_2
                have hw176_1 := hx176_1
                have hw176_0 := hx176_0
                obtain rfl : ad173 = ad176 := (by injection e176)
                replace hx176_0 := (HB.out.cell (World.block_lt_of_cell? w _ hx176_0)).trans hx176_0
                replace hx176_1 := (HB.out.cell (World.block_lt_of_cell? w _ hx176_1)).trans hx176_1
                replace hx176_2 := (HB.out.cell (World.block_lt_of_cell? w _ hx176_2)).trans hx176_2
                replace hx176_3 := (HB.out.cell (World.block_lt_of_cell? w _ hx176_3)).trans hx176_3
                replace hx176_4 := (HB.out.cell (World.block_lt_of_cell? w _ hx176_4)).trans hx176_4
                replace hx176_5 := (HB.out.cell (World.block_lt_of_cell? w _ hx176_5)).trans hx176_5
                have HR176_2 := Aside0.mk hi176_2
                have HC176_2 := Aside0.mk hl176_2
                clear hi176_2 hl176_2
                replace p176 := eq_true p176
                replace q176 := eq_true q176
                have ea_ := Option.some.inj (hx173_2.symm.trans hx176_2)
                injection ea_ with ea_ en_ ec_
                subst ea_
                subst ec_
                clear en_
                have p177 : 0 ≤ (0 : Int) := (by omega)
                have q177 : 0 < (l0.length : Int) := of_decide_eq_true (by first | (with_reducible assumption) | assumption)
                obtain ⟨ad177, A177_2, c177_2, e177, hx177_0, hx177_1, hx177_2, hx177_3, hx177_4, hx177_5, hl177_2, hi177_2⟩ := at_T27 HR0.out 0 p177 q177
                have hw177_5 := hx177_5
                (try rw [show ((0 : Int)).toNat = 0 from rfl] at hw177_5)
                (try rw [show 0 * 6 = 0 from rfl] at hw177_5)
                (try rw [Addr.add_zero'] at hw177_5)
                have hw177_4 := hx177_4
                (try rw [show ((0 : Int)).toNat = 0 from rfl] at hw177_4)
                (try rw [show 0 * 6 = 0 from rfl] at hw177_4)
                (try rw [Addr.add_zero'] at hw177_4)
                have hw177_3 := hx177_3
                (try rw [show ((0 : Int)).toNat = 0 from rfl] at hw177_3)
                (try rw [show 0 * 6 = 0 from rfl] at hw177_3)
                (try rw [Addr.add_zero'] at hw177_3)
                have hw177_2 := hx177_2
                (try rw [show ((0 : Int)).toNat = 0 from rfl] at hw177_2)
                (try rw [show 0 * 6 = 0 from rfl] at hw177_2)
                (try rw [Addr.add_zero'] at hw177_2)
                have hw177_1 := hx177_1
                (try rw [show ((0 : Int)).toNat = 0 from rfl] at hw177_1)
                (try rw [show 0 * 6 = 0 from rfl] at hw177_1)
                (try rw [Addr.add_zero'] at hw177_1)
                have hw177_0 := hx177_0
                (try rw [show ((0 : Int)).toNat = 0 from rfl] at hw177_0)
                (try rw [show 0 * 6 = 0 from rfl] at hw177_0)
                (try rw [Addr.add_zero'] at hw177_0)
                obtain rfl : ad173 = ad177 := (by injection e177)
                have qi177 : (0 < l0.length) = True := eq_true (by omega)
                (try rw [show ((0 : Int)).toNat = 0 from rfl] at hx177_0)
                (try rw [show 0 * 6 = 0 from rfl] at hx177_0)
                (try rw [Addr.add_zero'] at hx177_0)
                (try rw [show ((0 : Int)).toNat = 0 from rfl] at hx177_1)
                (try rw [show 0 * 6 = 0 from rfl] at hx177_1)
                (try rw [Addr.add_zero'] at hx177_1)
                (try rw [show ((0 : Int)).toNat = 0 from rfl] at hx177_2)
                (try rw [show 0 * 6 = 0 from rfl] at hx177_2)
                (try rw [Addr.add_zero'] at hx177_2)
                (try rw [show ((0 : Int)).toNat = 0 from rfl] at hx177_3)
                (try rw [show 0 * 6 = 0 from rfl] at hx177_3)
                (try rw [Addr.add_zero'] at hx177_3)
                (try rw [show ((0 : Int)).toNat = 0 from rfl] at hx177_4)
                (try rw [show 0 * 6 = 0 from rfl] at hx177_4)
                (try rw [Addr.add_zero'] at hx177_4)
                (try rw [show ((0 : Int)).toNat = 0 from rfl] at hx177_5)
                (try rw [show 0 * 6 = 0 from rfl] at hx177_5)
                (try rw [Addr.add_zero'] at hx177_5)
                replace hx177_0 := (HB.out.cell (World.block_lt_of_cell? w _ hx177_0)).trans hx177_0
                replace hx177_1 := (HB.out.cell (World.block_lt_of_cell? w _ hx177_1)).trans hx177_1
                replace hx177_2 := (HB.out.cell (World.block_lt_of_cell? w _ hx177_2)).trans hx177_2
                replace hx177_3 := (HB.out.cell (World.block_lt_of_cell? w _ hx177_3)).trans hx177_3
                replace hx177_4 := (HB.out.cell (World.block_lt_of_cell? w _ hx177_4)).trans hx177_4
                replace hx177_5 := (HB.out.cell (World.block_lt_of_cell? w _ hx177_5)).trans hx177_5
                have HR177_2 := Aside0.mk hi177_2
                have HC177_2 := Aside0.mk hl177_2
                clear hi177_2 hl177_2
                replace p177 := eq_true p177
                replace q177 := eq_true q177
                have ea_ := Option.some.inj (hx174_2.symm.trans hx177_2)
                injection ea_ with ea_ en_ ec_
                subst ea_
                subst ec_
                clear en_
                refine start_ (n := 19) (S := fun w' => w'.cell? (ad173.add ((x7_1).toNat * 6)) = some (.string ((rd_T27 l0 x7_1).f0)) ∧ w'.cell? ⟨(ad173.add ((x7_1).toNat * 6)).block, (ad173.add ((x7_1).toNat * 6)).off + 1, none⟩ = some (.int .i64 ((rd_T27 l0 x7_1).f1)) ∧ w'.cell? ⟨(ad173.add ((x7_1).toNat * 6)).block, (ad173.add ((x7_1).toNat * 6)).off + 2, none⟩ = some (.slice A173_2 ((rd_T27 l0 x7_1).f2).length c173_2) ∧ w'.cell? ⟨(ad173.add ((x7_1).toNat * 6)).block, (ad173.add ((x7_1).toNat * 6)).off + 3, none⟩ = some (.int .i64 ((rd_T27 l0 x7_1).f3)) ∧ w'.cell? ⟨(ad173.add ((x7_1).toNat * 6)).block, (ad173.add ((x7_1).toNat * 6)).off + 4, none⟩ = some (.int .i64 ((rd_T27 l0 x7_1).f4)) ∧ w'.cell? ⟨(ad173.add ((x7_1).toNat * 6)).block, (ad173.add ((x7_1).toNat * 6)).off + 5, none⟩ = some (.int .i64 ((rd_T27 l0 x7_1).f5)) ∧ w'.cell? ad173 = some (.string ((rd_T27 l0 0).f0)) ∧ w'.cell? ⟨ad173.block, ad173.off + 1, none⟩ = some (.int .i64 ((rd_T27 l0 0).f1)) ∧ w'.cell? ⟨ad173.block, ad173.off + 2, none⟩ = some (.slice A174_2 ((rd_T27 l0 0).f2).length c174_2) ∧ w'.cell? ⟨ad173.block, ad173.off + 3, none⟩ = some (.int .i64 ((rd_T27 l0 0).f3)) ∧ w'.cell? ⟨ad173.block, ad173.off + 4, none⟩ = some (.int .i64 ((rd_T27 l0 0).f4)) ∧ w'.cell? ⟨ad173.block, ad173.off + 5, none⟩ = some (.int .i64 ((rd_T27 l0 0).f5)) ∧ w'.cell? (ad173.add ((x7_1).toNat * 6)) = some (.string ((rd_T27 l0 x7_1).f0)) ∧ w'.cell? ⟨(ad173.add ((x7_1).toNat * 6)).block, (ad173.add ((x7_1).toNat * 6)).off + 1, none⟩ = some (.int .i64 ((rd_T27 l0 x7_1).f1)) ∧ w'.cell? ⟨(ad173.add ((x7_1).toNat * 6)).block, (ad173.add ((x7_1).toNat * 6)).off + 2, none⟩ = some (.slice A173_2 ((rd_T27 l0 x7_1).f2).length c173_2) ∧ w'.cell? ⟨(ad173.add ((x7_1).toNat * 6)).block, (ad173.add ((x7_1).toNat * 6)).off + 3, none⟩ = some (.int .i64 ((rd_T27 l0 x7_1).f3)) ∧ w'.cell? ⟨(ad173.add ((x7_1).toNat * 6)).block, (ad173.add ((x7_1).toNat * 6)).off + 4, none⟩ = some (.int .i64 ((rd_T27 l0 x7_1).f4)) ∧ w'.cell? ⟨(ad173.add ((x7_1).toNat * 6)).block, (ad173.add ((x7_1).toNat * 6)).off + 5, none⟩ = some (.int .i64 ((rd_T27 l0 x7_1).f5)) ∧ w'.cell? ad173 = some (.string ((rd_T27 l0 0).f0)) ∧ w'.cell? ⟨ad173.block, ad173.off + 1, none⟩ = some (.int .i64 ((rd_T27 l0 0).f1)) ∧ w'.cell? ⟨ad173.block, ad173.off + 2, none⟩ = some (.slice A174_2 ((rd_T27 l0 0).f2).length c174_2) ∧ w'.cell? ⟨ad173.block, ad173.off + 3, none⟩ = some (.int .i64 ((rd_T27 l0 0).f3)) ∧ w'.cell? ⟨ad173.block, ad173.off + 4, none⟩ = some (.int .i64 ((rd_T27 l0 0).f4)) ∧ w'.cell? ⟨ad173.block, ad173.off + 5, none⟩ = some (.int .i64 ((rd_T27 l0 0).f5))) (ds := []) #[false, false, false, false, false, false, false, false, false, false, false, false, false, false, false, false, false, false, false] (by kernel_rfl) rfl rfl ⟨((HB.out.cell (World.block_lt_of_cell? w _ hw173_0)).trans hw173_0), ((HB.out.cell (World.block_lt_of_cell? w _ hw173_1)).trans hw173_1), ((HB.out.cell (World.block_lt_of_cell? w _ hw173_2)).trans hw173_2), ((HB.out.cell (World.block_lt_of_cell? w _ hw173_3)).trans hw173_3), ((HB.out.cell (World.block_lt_of_cell? w _ hw173_4)).trans hw173_4), ((HB.out.cell (World.block_lt_of_cell? w _ hw173_5)).trans hw173_5), ((HB.out.cell (World.block_lt_of_cell? w _ hw174_0)).trans hw174_0), ((HB.out.cell (World.block_lt_of_cell? w _ hw174_1)).trans hw174_1), ((HB.out.cell (World.block_lt_of_cell? w _ hw174_2)).trans hw174_2), ((HB.out.cell (World.block_lt_of_cell? w _ hw174_3)).trans hw174_3), ((HB.out.cell (World.block_lt_of_cell? w _ hw174_4)).trans hw174_4), ((HB.out.cell (World.block_lt_of_cell? w _ hw174_5)).trans hw174_5), ((HB.out.cell (World.block_lt_of_cell? w _ hw176_0)).trans hw176_0), ((HB.out.cell (World.block_lt_of_cell? w _ hw176_1)).trans hw176_1), ((HB.out.cell (World.block_lt_of_cell? w _ hw176_2)).trans hw176_2), ((HB.out.cell (World.block_lt_of_cell? w _ hw176_3)).trans hw176_3), ((HB.out.cell (World.block_lt_of_cell? w _ hw176_4)).trans hw176_4), ((HB.out.cell (World.block_lt_of_cell? w _ hw176_5)).trans hw176_5), ((HB.out.cell (World.block_lt_of_cell? w _ hw177_0)).trans hw177_0), ((HB.out.cell (World.block_lt_of_cell? w _ hw177_1)).trans hw177_1), ((HB.out.cell (World.block_lt_of_cell? w _ hw177_2)).trans hw177_2), ((HB.out.cell (World.block_lt_of_cell? w _ hw177_3)).trans hw177_3), ((HB.out.cell (World.block_lt_of_cell? w _ hw177_4)).trans hw177_4), ((HB.out.cell (World.block_lt_of_cell? w _ hw177_5)).trans hw177_5)⟩ (fun hHeld => ?_); refine with_tabW triremelaw21_ExpandChooses.tab6 triremelaw21_ExpandChooses.bits6 (fun HT_ HW_ => ?_)
                generalize wr.drew = w13 at HB HR173_2 HR174_2 HR176_2 HR177_2 hx173_0 hx173_1 hx173_2 hx173_3 hx173_4 hx173_5 hx174_0 hx174_1 hx174_2 hx174_3 hx174_4 hx174_5 hx176_0 hx176_1 hx176_2 hx176_3 hx176_4 hx176_5 hx177_0 hx177_1 hx177_2 hx177_3 hx177_4 hx177_5 hHeld ⊢
                refine pure_ (i := 0) (N := some 18) (v := ?_) (a' := ?_) #[true, false, false, false, false, false, false, false, false, false, false, false, false, false, false, false, false, false, false] rfl rfl (any_of HT_.out (by kernel_rfl)) (fun _ _ _ h => h) (Or.inl ⟨by rfl, ?_⟩) ?_ ?_
                rotate_left
                · intro w'
                  go_simp
                  with_reducible rfl
                rotate_left
                · simp only [Act.put, List.setIfInBounds_toArray, List.set_cons_zero, List.set_cons_succ, i64_w, i32_w]
                  rfl
                refine pure_ (i := 1) (N := some 19) (v := ?_) (a' := ?_) #[true, true, false, false, false, false, false, false, false, false, false, false, false, false, false, false, false, false, false] rfl rfl (any_of HT_.out (by kernel_rfl)) (fun _ _ _ h => h) (Or.inl ⟨by rfl, ?_⟩) ?_ ?_
                rotate_left
                · intro w'
                  go_simp
                  with_reducible rfl
                rotate_left
                · simp only [Act.put, List.setIfInBounds_toArray, List.set_cons_zero, List.set_cons_succ, i64_w, i32_w]
                  rfl
                refine pure_ (i := 2) (N := some 20) (v := ?_) (a' := ?_) #[true, true, true, false, false, false, false, false, false, false, false, false, false, false, false, false, false, false, false] rfl rfl (any_of HT_.out (by kernel_rfl)) (fun _ _ _ h => h) (Or.inl ⟨by rfl, ?_⟩) ?_ ?_
                rotate_left
                · intro w'
                  go_simp
                  with_reducible rfl
                rotate_left
                · simp only [Act.put, List.setIfInBounds_toArray, List.set_cons_zero, List.set_cons_succ, i64_w, i32_w]
                  rfl
                refine pure_ (i := 4) (N := some 22) (v := ?_) (a' := ?_) #[true, true, true, false, true, false, false, false, false, false, false, false, false, false, false, false, false, false, false] rfl rfl (any_of HT_.out (by kernel_rfl)) (fun _ _ _ h => h) (Or.inl ⟨by rfl, ?_⟩) ?_ ?_
                rotate_left
                · intro w'
                  go_simp
                  with_reducible rfl
                rotate_left
                · simp only [Act.put, List.setIfInBounds_toArray, List.set_cons_zero, List.set_cons_succ, i64_w, i32_w]
                  rfl
                refine pure_ (i := 5) (N := some 23) (v := ?_) (a' := ?_) #[true, true, true, false, true, true, false, false, false, false, false, false, false, false, false, false, false, false, false] rfl rfl (any_of HT_.out (by kernel_rfl)) (fun _ _ _ h => h) (Or.inl ⟨by rfl, ?_⟩) ?_ ?_
                rotate_left
                · intro w'
                  go_simp
                  with_reducible rfl
                rotate_left
                · simp only [Act.put, List.setIfInBounds_toArray, List.set_cons_zero, List.set_cons_succ, i64_w, i32_w]
                  rfl
                refine pure_ (i := 7) (N := some 25) (v := ?_) (a' := ?_) #[true, true, true, false, true, true, false, true, false, false, false, false, false, false, false, false, false, false, false] rfl rfl (any_of HT_.out (by kernel_rfl)) (fun _ _ _ h => h) (Or.inl ⟨by rfl, ?_⟩) ?_ ?_
                rotate_left
                · intro w'
                  go_simp
                  with_reducible rfl
                rotate_left
                · simp only [Act.put, List.setIfInBounds_toArray, List.set_cons_zero, List.set_cons_succ, i64_w, i32_w]
                  rfl
                refine pure_ (i := 9) (N := some 27) (v := ?_) (a' := ?_) #[true, true, true, false, true, true, false, true, false, true, false, false, false, false, false, false, false, false, false] rfl rfl (any_of HT_.out (by kernel_rfl)) (fun _ _ _ h => h) (Or.inl ⟨by rfl, ?_⟩) ?_ ?_
                rotate_left
                · intro w'
                  go_simp
                  with_reducible rfl
                rotate_left
                · simp only [Act.put, List.setIfInBounds_toArray, List.set_cons_zero, List.set_cons_succ, i64_w, i32_w]
                  rfl
                refine pure_ (i := 10) (N := some 28) (v := ?_) (a' := ?_) #[true, true, true, false, true, true, false, true, false, true, true, false, false, false, false, false, false, false, false] rfl rfl (any_of HT_.out (by kernel_rfl)) (fun _ _ _ h => h) (Or.inl ⟨by rfl, ?_⟩) ?_ ?_
                rotate_left
                · intro w'
                  go_simp
                  with_reducible rfl
                rotate_left
                · simp only [Act.put, List.setIfInBounds_toArray, List.set_cons_zero, List.set_cons_succ, i64_w, i32_w]
                  rfl
                refine pure_ (i := 11) (N := some 29) (v := ?_) (a' := ?_) #[true, true, true, false, true, true, false, true, false, true, true, true, false, false, false, false, false, false, false] rfl rfl (any_of HT_.out (by kernel_rfl)) (fun _ _ _ h => h) (Or.inl ⟨by rfl, ?_⟩) ?_ ?_
                rotate_left
                · intro w'
                  go_simp
                  with_reducible rfl
                rotate_left
                · simp only [Act.put, List.setIfInBounds_toArray, List.set_cons_zero, List.set_cons_succ, i64_w, i32_w]
                  rfl
                refine pure_ (i := 13) (N := some 31) (v := ?_) (a' := ?_) #[true, true, true, false, true, true, false, true, false, true, true, true, false, true, false, false, false, false, false] rfl rfl (any_of HT_.out (by kernel_rfl)) (fun _ _ _ h => h) (Or.inl ⟨by rfl, ?_⟩) ?_ ?_
                rotate_left
                · intro w'
                  go_simp
                  with_reducible rfl
                rotate_left
                · simp only [Act.put, List.setIfInBounds_toArray, List.set_cons_zero, List.set_cons_succ, i64_w, i32_w]
                  rfl
                refine pure_ (i := 14) (N := some 32) (v := ?_) (a' := ?_) #[true, true, true, false, true, true, false, true, false, true, true, true, false, true, true, false, false, false, false] rfl rfl (any_of HT_.out (by kernel_rfl)) (fun _ _ _ h => h) (Or.inl ⟨by rfl, ?_⟩) ?_ ?_
                rotate_left
                · intro w'
                  go_simp
                  with_reducible rfl
                rotate_left
                · simp only [Act.put, List.setIfInBounds_toArray, List.set_cons_zero, List.set_cons_succ, i64_w, i32_w]
                  rfl
                refine pure_ (i := 16) (N := some 34) (v := ?_) (a' := ?_) #[true, true, true, false, true, true, false, true, false, true, true, true, false, true, true, false, true, false, false] rfl rfl (any_of HT_.out (by kernel_rfl)) (fun _ _ _ h => h) (Or.inl ⟨by rfl, ?_⟩) ?_ ?_
                rotate_left
                · intro w'
                  go_simp
                  with_reducible rfl
                rotate_left
                · simp only [Act.put, List.setIfInBounds_toArray, List.set_cons_zero, List.set_cons_succ, i64_w, i32_w]
                  rfl
                refine take_ (i := 3) (N := some 21) (v := ?_) (a' := ?_) #[true, true, true, true, true, true, false, true, false, true, true, true, false, true, true, false, true, false, false] rfl rfl (take_ofW HT_.out HW_.out (by kernel_rfl)) (fun _ _ _ h => h) (Or.inl ⟨by rfl, ?_⟩) hHeld ?_ ?_
                rotate_left
                · rintro w' ⟨s0, s1, s2, s3, s4, s5, s6, s7, s8, s9, s10, s11, s12, s13, s14, s15, s16, s17, s18, s19, s20, s21, s22, s23⟩
                  go_simp
                  with_reducible rfl
                rotate_left
                · simp only [Act.put, List.setIfInBounds_toArray, List.set_cons_zero, List.set_cons_succ, i64_w, i32_w]
                  rfl
                refine take_ (i := 6) (N := some 24) (v := ?_) (a' := ?_) #[true, true, true, true, true, true, true, true, false, true, true, true, false, true, true, false, true, false, false] rfl rfl (take_ofW HT_.out HW_.out (by kernel_rfl)) (fun _ _ _ h => h) (Or.inl ⟨by rfl, ?_⟩) hHeld ?_ ?_
                rotate_left
                · rintro w' ⟨s0, s1, s2, s3, s4, s5, s6, s7, s8, s9, s10, s11, s12, s13, s14, s15, s16, s17, s18, s19, s20, s21, s22, s23⟩
                  go_simp
                  with_reducible rfl
                rotate_left
                · simp only [Act.put, List.setIfInBounds_toArray, List.set_cons_zero, List.set_cons_succ, i64_w, i32_w]
                  rfl
                refine take_ (i := 12) (N := some 30) (v := ?_) (a' := ?_) #[true, true, true, true, true, true, true, true, false, true, true, true, true, true, true, false, true, false, false] rfl rfl (take_ofW HT_.out HW_.out (by kernel_rfl)) (fun _ _ _ h => h) (Or.inl ⟨by rfl, ?_⟩) hHeld ?_ ?_
                rotate_left
                · rintro w' ⟨s0, s1, s2, s3, s4, s5, s6, s7, s8, s9, s10, s11, s12, s13, s14, s15, s16, s17, s18, s19, s20, s21, s22, s23⟩
                  go_simp
                  with_reducible rfl
                rotate_left
                · simp only [Act.put, List.setIfInBounds_toArray, List.set_cons_zero, List.set_cons_succ, i64_w, i32_w]
                  rfl
                refine take_ (i := 15) (N := some 33) (v := ?_) (a' := ?_) #[true, true, true, true, true, true, true, true, false, true, true, true, true, true, true, true, true, false, false] rfl rfl (take_ofW HT_.out HW_.out (by kernel_rfl)) (fun _ _ _ h => h) (Or.inl ⟨by rfl, ?_⟩) hHeld ?_ ?_
                rotate_left
                · rintro w' ⟨s0, s1, s2, s3, s4, s5, s6, s7, s8, s9, s10, s11, s12, s13, s14, s15, s16, s17, s18, s19, s20, s21, s22, s23⟩
                  go_simp
                  with_reducible rfl
                rotate_left
                · simp only [Act.put, List.setIfInBounds_toArray, List.set_cons_zero, List.set_cons_succ, i64_w, i32_w]
                  rfl
                refine one_ (i := 8) (N := some 26) #[true, true, true, true, true, true, true, true, true, true, true, true, true, true, true, true, true, false, false] rfl rfl (one_of HT_.out (by kernel_rfl)) (by decide) (fun K hK => ?_)
                refine goes_ Try.func16 (by kernel_rfl) rfl #[.agg #[.string ((rd_T27 l0 x7_1).f0), .int .i64 ((rd_T27 l0 x7_1).f1), .slice A173_2 ((rd_T27 l0 x7_1).f2).length c173_2, .int .i64 ((rd_T27 l0 x7_1).f3), .int .i64 ((rd_T27 l0 x7_1).f4), .int .i64 ((rd_T27 l0 x7_1).f5)], .agg #[.string ((rd_T27 l0 0).f0), .int .i64 ((rd_T27 l0 0).f1), .slice A174_2 ((rd_T27 l0 0).f2).length c174_2, .int .i64 ((rd_T27 l0 0).f3), .int .i64 ((rd_T27 l0 0).f4), .int .i64 ((rd_T27 l0 0).f5)], .int .i64 a1] (by rfl) rfl rfl (by (try simp only [List.map_toArray, List.map_cons, List.map_nil]); first | done | rfl | (simp only [List.length_drop, List.length_take]; rfl)) ?_
                with_reducible refine (expand_Better.calls k1 ((rd_T27 l0 x7_1).f0) ((rd_T27 l0 x7_1).f1) _ _ ((rd_T27 l0 x7_1).f2) ((rd_T27 l0 x7_1).f3) ((rd_T27 l0 x7_1).f4) ((rd_T27 l0 x7_1).f5) ((rd_T27 l0 0).f0) ((rd_T27 l0 0).f1) _ _ ((rd_T27 l0 0).f2) ((rd_T27 l0 0).f3) ((rd_T27 l0 0).f4) ((rd_T27 l0 0).f5) a1 t175 _ ?side1 ?side2 ?side3 ?side4 A10.out).mono ?_
                (case side1 => repeat (first | exact (Kd.C_below HR173_2.out HB.out) | (with_reducible refine Kd.C_alloc ?_ _) | (with_reducible refine Kd.C_drewN ?_ _) | (with_reducible refine Kd.C_drew ?_)))
                (case side2 => exact HC173_2.out)
                (case side3 => repeat (first | exact (Kd.C_below HR174_2.out HB.out) | (with_reducible refine Kd.C_alloc ?_ _) | (with_reducible refine Kd.C_drewN ?_ _) | (with_reducible refine Kd.C_drew ?_)))
                (case side4 => exact HC174_2.out)
                rintro e w14 ⟨rfl, hb⟩
                refine ⟨_, rfl, ?_⟩
                have n0_ := Aside0.mk (below_step (by repeat (first | (with_reducible first | exact HB.out | apply below_alloc | apply pw_below_drewN | apply below_drew1) | exact HB.out)) hb)
                clear HB
                have HB := n0_
                clear n0_
                (try clear hb)
                (try clear hb2)
                (try clear hk)
                (try clear hi)
                refine hK.out _ _ ⟨((HB.out.cell (World.block_lt_of_cell? w _ hw173_0)).trans hw173_0), ((HB.out.cell (World.block_lt_of_cell? w _ hw173_1)).trans hw173_1), ((HB.out.cell (World.block_lt_of_cell? w _ hw173_2)).trans hw173_2), ((HB.out.cell (World.block_lt_of_cell? w _ hw173_3)).trans hw173_3), ((HB.out.cell (World.block_lt_of_cell? w _ hw173_4)).trans hw173_4), ((HB.out.cell (World.block_lt_of_cell? w _ hw173_5)).trans hw173_5), ((HB.out.cell (World.block_lt_of_cell? w _ hw174_0)).trans hw174_0), ((HB.out.cell (World.block_lt_of_cell? w _ hw174_1)).trans hw174_1), ((HB.out.cell (World.block_lt_of_cell? w _ hw174_2)).trans hw174_2), ((HB.out.cell (World.block_lt_of_cell? w _ hw174_3)).trans hw174_3), ((HB.out.cell (World.block_lt_of_cell? w _ hw174_4)).trans hw174_4), ((HB.out.cell (World.block_lt_of_cell? w _ hw174_5)).trans hw174_5), ((HB.out.cell (World.block_lt_of_cell? w _ hw176_0)).trans hw176_0), ((HB.out.cell (World.block_lt_of_cell? w _ hw176_1)).trans hw176_1), ((HB.out.cell (World.block_lt_of_cell? w _ hw176_2)).trans hw176_2), ((HB.out.cell (World.block_lt_of_cell? w _ hw176_3)).trans hw176_3), ((HB.out.cell (World.block_lt_of_cell? w _ hw176_4)).trans hw176_4), ((HB.out.cell (World.block_lt_of_cell? w _ hw176_5)).trans hw176_5), ((HB.out.cell (World.block_lt_of_cell? w _ hw177_0)).trans hw177_0), ((HB.out.cell (World.block_lt_of_cell? w _ hw177_1)).trans hw177_1), ((HB.out.cell (World.block_lt_of_cell? w _ hw177_2)).trans hw177_2), ((HB.out.cell (World.block_lt_of_cell? w _ hw177_3)).trans hw177_3), ((HB.out.cell (World.block_lt_of_cell? w _ hw177_4)).trans hw177_4), ((HB.out.cell (World.block_lt_of_cell? w _ hw177_5)).trans hw177_5)⟩ (fun hHeld => ?_)
                clear hK K
                refine norm_ (a' := ?_) ?_ ?_
                rotate_left
                · show Act.put _ (some 26) _ = _
                  simp only [Act.put, List.setIfInBounds_toArray, List.set_cons_zero, List.set_cons_succ, i64_w, i32_w]
                  rfl
                refine one_ (i := 17) (N := some 35) #[true, true, true, true, true, true, true, true, true, true, true, true, true, true, true, true, true, true, false] rfl rfl (one_of HT_.out (by kernel_rfl)) (by decide) (fun K hK => ?_)
                refine goes_ Try.func17 (by kernel_rfl) rfl #[.agg #[.string ((rd_T27 l0 x7_1).f0), .int .i64 ((rd_T27 l0 x7_1).f1), .slice A173_2 ((rd_T27 l0 x7_1).f2).length c173_2, .int .i64 ((rd_T27 l0 x7_1).f3), .int .i64 ((rd_T27 l0 x7_1).f4), .int .i64 ((rd_T27 l0 x7_1).f5)], .agg #[.string ((rd_T27 l0 0).f0), .int .i64 ((rd_T27 l0 0).f1), .slice A174_2 ((rd_T27 l0 0).f2).length c174_2, .int .i64 ((rd_T27 l0 0).f3), .int .i64 ((rd_T27 l0 0).f4), .int .i64 ((rd_T27 l0 0).f5)], .int .i64 a1] (by rfl) rfl rfl (by (try simp only [List.map_toArray, List.map_cons, List.map_nil]); first | done | rfl | (simp only [List.length_drop, List.length_take]; rfl)) ?_
                with_reducible refine (triremeref21_Better.calls ((rd_T27 l0 x7_1).f0) ((rd_T27 l0 x7_1).f1) _ _ ((rd_T27 l0 x7_1).f2) ((rd_T27 l0 x7_1).f3) ((rd_T27 l0 x7_1).f4) ((rd_T27 l0 x7_1).f5) ((rd_T27 l0 0).f0) ((rd_T27 l0 0).f1) _ _ ((rd_T27 l0 0).f2) ((rd_T27 l0 0).f3) ((rd_T27 l0 0).f4) ((rd_T27 l0 0).f5) a1 t178 _ ?side1 ?side2 ?side3 ?side4 A11.out).mono ?_
                (case side1 => repeat (first | exact (Kd.C_below HR176_2.out HB.out) | (with_reducible refine Kd.C_alloc ?_ _) | (with_reducible refine Kd.C_drewN ?_ _) | (with_reducible refine Kd.C_drew ?_)))
                (case side2 => exact HC176_2.out)
                (case side3 => repeat (first | exact (Kd.C_below HR177_2.out HB.out) | (with_reducible refine Kd.C_alloc ?_ _) | (with_reducible refine Kd.C_drewN ?_ _) | (with_reducible refine Kd.C_drew ?_)))
                (case side4 => exact HC177_2.out)
                rintro e w15 ⟨rfl, hb⟩
                refine ⟨_, rfl, ?_⟩
                have n0_ := Aside0.mk (below_step (by repeat (first | (with_reducible first | exact HB.out | apply below_alloc | apply pw_below_drewN | apply below_drew1) | exact HB.out)) hb)
                clear HB
                have HB := n0_
                clear n0_
                (try clear hb)
                (try clear hb2)
                (try clear hk)
                (try clear hi)
                refine hK.out _ _ ⟨((HB.out.cell (World.block_lt_of_cell? w _ hw173_0)).trans hw173_0), ((HB.out.cell (World.block_lt_of_cell? w _ hw173_1)).trans hw173_1), ((HB.out.cell (World.block_lt_of_cell? w _ hw173_2)).trans hw173_2), ((HB.out.cell (World.block_lt_of_cell? w _ hw173_3)).trans hw173_3), ((HB.out.cell (World.block_lt_of_cell? w _ hw173_4)).trans hw173_4), ((HB.out.cell (World.block_lt_of_cell? w _ hw173_5)).trans hw173_5), ((HB.out.cell (World.block_lt_of_cell? w _ hw174_0)).trans hw174_0), ((HB.out.cell (World.block_lt_of_cell? w _ hw174_1)).trans hw174_1), ((HB.out.cell (World.block_lt_of_cell? w _ hw174_2)).trans hw174_2), ((HB.out.cell (World.block_lt_of_cell? w _ hw174_3)).trans hw174_3), ((HB.out.cell (World.block_lt_of_cell? w _ hw174_4)).trans hw174_4), ((HB.out.cell (World.block_lt_of_cell? w _ hw174_5)).trans hw174_5), ((HB.out.cell (World.block_lt_of_cell? w _ hw176_0)).trans hw176_0), ((HB.out.cell (World.block_lt_of_cell? w _ hw176_1)).trans hw176_1), ((HB.out.cell (World.block_lt_of_cell? w _ hw176_2)).trans hw176_2), ((HB.out.cell (World.block_lt_of_cell? w _ hw176_3)).trans hw176_3), ((HB.out.cell (World.block_lt_of_cell? w _ hw176_4)).trans hw176_4), ((HB.out.cell (World.block_lt_of_cell? w _ hw176_5)).trans hw176_5), ((HB.out.cell (World.block_lt_of_cell? w _ hw177_0)).trans hw177_0), ((HB.out.cell (World.block_lt_of_cell? w _ hw177_1)).trans hw177_1), ((HB.out.cell (World.block_lt_of_cell? w _ hw177_2)).trans hw177_2), ((HB.out.cell (World.block_lt_of_cell? w _ hw177_3)).trans hw177_3), ((HB.out.cell (World.block_lt_of_cell? w _ hw177_4)).trans hw177_4), ((HB.out.cell (World.block_lt_of_cell? w _ hw177_5)).trans hw177_5)⟩ (fun hHeld => ?_)
                clear hK K
                refine norm_ (a' := ?_) ?_ ?_
                rotate_left
                · show Act.put _ (some 35) _ = _
                  simp only [Act.put, List.setIfInBounds_toArray, List.set_cons_zero, List.set_cons_succ, i64_w, i32_w]
                  rfl
                refine pure_ (i := 18) (N := some 36) (v := ?_) (a' := ?_) #[true, true, true, true, true, true, true, true, true, true, true, true, true, true, true, true, true, true, true] rfl rfl (any_of HT_.out (by kernel_rfl)) (fun _ _ _ h => h) (Or.inl ⟨by rfl, ?_⟩) ?_ ?_
                rotate_left
                · intro w'
                  go_simp
                  with_reducible rfl
                rotate_left
                · simp only [Act.put, List.setIfInBounds_toArray, List.set_cons_zero, List.set_cons_succ, i64_w, i32_w]
                  rfl
                refine done_ (done_of HT_.out (by kernel_rfl)) ?_
                try go_wp2
                go_ret
                exact ⟨by first | rfl | (simp [errW_none, errW_some] <;> rfl) | (simp [*, errW_none, errW_some] <;> rfl), by repeat (first | (with_reducible first | exact HB.out | apply below_alloc | apply pw_below_drewN | apply below_drew1) | exact HB.out)⟩
              · rw [if_neg c12] at H
                have c12b0 : (t175 != t178) = false := by simpa using c12
                (try (have c12b1 : decide (t175 = t178) = true := by simpa using c12))
                (try (have c12b2 : (t175 == t178) = true := by simpa using c12))
                clear c12
                have H' := Aside0.mk H
                clear H
                try go_wp2
                have n0_ := Aside0.mk (below_drew1 HB.out)
                clear HB
                have HB := n0_
                clear n0_
                have p173 : 0 ≤ (x7_1 : Int) := of_decide_eq_true (by first | (with_reducible assumption) | assumption)
                have q173 : x7_1 < (l0.length : Int) := of_decide_eq_true (by first | (with_reducible assumption) | assumption)
                obtain ⟨ad173, A173_2, c173_2, e173, hx173_0, hx173_1, hx173_2, hx173_3, hx173_4, hx173_5, hl173_2, hi173_2⟩ := at_T27 HR0.out x7_1 p173 q173
                have hw173_5 := hx173_5
                have hw173_4 := hx173_4
                have hw173_3 := hx173_3
                have hw173_2 := hx173_2
                have hw173_1 := hx173_1
                have hw173_0 := hx173_0
                cases e173
                replace hx173_0 := (HB.out.cell (World.block_lt_of_cell? w _ hx173_0)).trans hx173_0
                replace hx173_1 := (HB.out.cell (World.block_lt_of_cell? w _ hx173_1)).trans hx173_1
                replace hx173_2 := (HB.out.cell (World.block_lt_of_cell? w _ hx173_2)).trans hx173_2
                replace hx173_3 := (HB.out.cell (World.block_lt_of_cell? w _ hx173_3)).trans hx173_3
                replace hx173_4 := (HB.out.cell (World.block_lt_of_cell? w _ hx173_4)).trans hx173_4
                replace hx173_5 := (HB.out.cell (World.block_lt_of_cell? w _ hx173_5)).trans hx173_5
                have HR173_2 := Aside0.mk hi173_2
                have HC173_2 := Aside0.mk hl173_2
                clear hi173_2 hl173_2
                replace p173 := eq_true p173
                replace q173 := eq_true q173
                have p174 : 0 ≤ (0 : Int) := (by omega)
                have q174 : 0 < (l0.length : Int) := of_decide_eq_true (by first | (with_reducible assumption) | assumption)
                obtain ⟨ad174, A174_2, c174_2, e174, hx174_0, hx174_1, hx174_2, hx174_3, hx174_4, hx174_5, hl174_2, hi174_2⟩ := at_T27 HR0.out 0 p174 q174
                have hw174_5 := hx174_5
                (try rw [show ((0 : Int)).toNat = 0 from rfl] at hw174_5)
                (try rw [show 0 * 6 = 0 from rfl] at hw174_5)
                (try rw [Addr.add_zero'] at hw174_5)
                have hw174_4 := hx174_4
                (try rw [show ((0 : Int)).toNat = 0 from rfl] at hw174_4)
                (try rw [show 0 * 6 = 0 from rfl] at hw174_4)
                (try rw [Addr.add_zero'] at hw174_4)
                have hw174_3 := hx174_3
                (try rw [show ((0 : Int)).toNat = 0 from rfl] at hw174_3)
                (try rw [show 0 * 6 = 0 from rfl] at hw174_3)
                (try rw [Addr.add_zero'] at hw174_3)
                have hw174_2 := hx174_2
                (try rw [show ((0 : Int)).toNat = 0 from rfl] at hw174_2)
                (try rw [show 0 * 6 = 0 from rfl] at hw174_2)
                (try rw [Addr.add_zero'] at hw174_2)
                have hw174_1 := hx174_1
                (try rw [show ((0 : Int)).toNat = 0 from rfl] at hw174_1)
                (try rw [show 0 * 6 = 0 from rfl] at hw174_1)
                (try rw [Addr.add_zero'] at hw174_1)
                have hw174_0 := hx174_0
                (try rw [show ((0 : Int)).toNat = 0 from rfl] at hw174_0)
                (try rw [show 0 * 6 = 0 from rfl] at hw174_0)
                (try rw [Addr.add_zero'] at hw174_0)
                obtain rfl : ad173 = ad174 := (by injection e174)
                have qi174 : (0 < l0.length) = True := eq_true (by omega)
                (try rw [show ((0 : Int)).toNat = 0 from rfl] at hx174_0)
                (try rw [show 0 * 6 = 0 from rfl] at hx174_0)
                (try rw [Addr.add_zero'] at hx174_0)
                (try rw [show ((0 : Int)).toNat = 0 from rfl] at hx174_1)
                (try rw [show 0 * 6 = 0 from rfl] at hx174_1)
                (try rw [Addr.add_zero'] at hx174_1)
                (try rw [show ((0 : Int)).toNat = 0 from rfl] at hx174_2)
                (try rw [show 0 * 6 = 0 from rfl] at hx174_2)
                (try rw [Addr.add_zero'] at hx174_2)
                (try rw [show ((0 : Int)).toNat = 0 from rfl] at hx174_3)
                (try rw [show 0 * 6 = 0 from rfl] at hx174_3)
                (try rw [Addr.add_zero'] at hx174_3)
                (try rw [show ((0 : Int)).toNat = 0 from rfl] at hx174_4)
                (try rw [show 0 * 6 = 0 from rfl] at hx174_4)
                (try rw [Addr.add_zero'] at hx174_4)
                (try rw [show ((0 : Int)).toNat = 0 from rfl] at hx174_5)
                (try rw [show 0 * 6 = 0 from rfl] at hx174_5)
                (try rw [Addr.add_zero'] at hx174_5)
                replace hx174_0 := (HB.out.cell (World.block_lt_of_cell? w _ hx174_0)).trans hx174_0
                replace hx174_1 := (HB.out.cell (World.block_lt_of_cell? w _ hx174_1)).trans hx174_1
                replace hx174_2 := (HB.out.cell (World.block_lt_of_cell? w _ hx174_2)).trans hx174_2
                replace hx174_3 := (HB.out.cell (World.block_lt_of_cell? w _ hx174_3)).trans hx174_3
                replace hx174_4 := (HB.out.cell (World.block_lt_of_cell? w _ hx174_4)).trans hx174_4
                replace hx174_5 := (HB.out.cell (World.block_lt_of_cell? w _ hx174_5)).trans hx174_5
                have HR174_2 := Aside0.mk hi174_2
                have HC174_2 := Aside0.mk hl174_2
                clear hi174_2 hl174_2
                replace p174 := eq_true p174
                replace q174 := eq_true q174
                have p176 : 0 ≤ (x7_1 : Int) := of_decide_eq_true (by first | (with_reducible assumption) | assumption)
                have q176 : x7_1 < (l0.length : Int) := of_decide_eq_true (by first | (with_reducible assumption) | assumption)
                obtain ⟨ad176, A176_2, c176_2, e176, hx176_0, hx176_1, hx176_2, hx176_3, hx176_4, hx176_5, hl176_2, hi176_2⟩ := at_T27 HR0.out x7_1 p176 q176
                have hw176_5 := hx176_5
                have hw176_4 := hx176_4
                have hw176_3 := hx176_3
                have hw176_2 := hx176_2
                have hw176_1 := hx176_1
                have hw176_0 := hx176_0
                obtain rfl : ad173 = ad176 := (by injection e176)
                replace hx176_0 := (HB.out.cell (World.block_lt_of_cell? w _ hx176_0)).trans hx176_0
                replace hx176_1 := (HB.out.cell (World.block_lt_of_cell? w _ hx176_1)).trans hx176_1
                replace hx176_2 := (HB.out.cell (World.block_lt_of_cell? w _ hx176_2)).trans hx176_2
                replace hx176_3 := (HB.out.cell (World.block_lt_of_cell? w _ hx176_3)).trans hx176_3
                replace hx176_4 := (HB.out.cell (World.block_lt_of_cell? w _ hx176_4)).trans hx176_4
                replace hx176_5 := (HB.out.cell (World.block_lt_of_cell? w _ hx176_5)).trans hx176_5
                have HR176_2 := Aside0.mk hi176_2
                have HC176_2 := Aside0.mk hl176_2
                clear hi176_2 hl176_2
                replace p176 := eq_true p176
                replace q176 := eq_true q176
                have ea_ := Option.some.inj (hx173_2.symm.trans hx176_2)
                injection ea_ with ea_ en_ ec_
                subst ea_
                subst ec_
                clear en_
                have p177 : 0 ≤ (0 : Int) := (by omega)
                have q177 : 0 < (l0.length : Int) := of_decide_eq_true (by first | (with_reducible assumption) | assumption)
                obtain ⟨ad177, A177_2, c177_2, e177, hx177_0, hx177_1, hx177_2, hx177_3, hx177_4, hx177_5, hl177_2, hi177_2⟩ := at_T27 HR0.out 0 p177 q177
                have hw177_5 := hx177_5
                (try rw [show ((0 : Int)).toNat = 0 from rfl] at hw177_5)
                (try rw [show 0 * 6 = 0 from rfl] at hw177_5)
                (try rw [Addr.add_zero'] at hw177_5)
                have hw177_4 := hx177_4
                (try rw [show ((0 : Int)).toNat = 0 from rfl] at hw177_4)
                (try rw [show 0 * 6 = 0 from rfl] at hw177_4)
                (try rw [Addr.add_zero'] at hw177_4)
                have hw177_3 := hx177_3
                (try rw [show ((0 : Int)).toNat = 0 from rfl] at hw177_3)
                (try rw [show 0 * 6 = 0 from rfl] at hw177_3)
                (try rw [Addr.add_zero'] at hw177_3)
                have hw177_2 := hx177_2
                (try rw [show ((0 : Int)).toNat = 0 from rfl] at hw177_2)
                (try rw [show 0 * 6 = 0 from rfl] at hw177_2)
                (try rw [Addr.add_zero'] at hw177_2)
                have hw177_1 := hx177_1
                (try rw [show ((0 : Int)).toNat = 0 from rfl] at hw177_1)
                (try rw [show 0 * 6 = 0 from rfl] at hw177_1)
                (try rw [Addr.add_zero'] at hw177_1)
                have hw177_0 := hx177_0
                (try rw [show ((0 : Int)).toNat = 0 from rfl] at hw177_0)
                (try rw [show 0 * 6 = 0 from rfl] at hw177_0)
                (try rw [Addr.add_zero'] at hw177_0)
                obtain rfl : ad173 = ad177 := (by injection e177)
                have qi177 : (0 < l0.length) = True := eq_true (by omega)
                (try rw [show ((0 : Int)).toNat = 0 from rfl] at hx177_0)
                (try rw [show 0 * 6 = 0 from rfl] at hx177_0)
                (try rw [Addr.add_zero'] at hx177_0)
                (try rw [show ((0 : Int)).toNat = 0 from rfl] at hx177_1)
                (try rw [show 0 * 6 = 0 from rfl] at hx177_1)
                (try rw [Addr.add_zero'] at hx177_1)
                (try rw [show ((0 : Int)).toNat = 0 from rfl] at hx177_2)
                (try rw [show 0 * 6 = 0 from rfl] at hx177_2)
                (try rw [Addr.add_zero'] at hx177_2)
                (try rw [show ((0 : Int)).toNat = 0 from rfl] at hx177_3)
                (try rw [show 0 * 6 = 0 from rfl] at hx177_3)
                (try rw [Addr.add_zero'] at hx177_3)
                (try rw [show ((0 : Int)).toNat = 0 from rfl] at hx177_4)
                (try rw [show 0 * 6 = 0 from rfl] at hx177_4)
                (try rw [Addr.add_zero'] at hx177_4)
                (try rw [show ((0 : Int)).toNat = 0 from rfl] at hx177_5)
                (try rw [show 0 * 6 = 0 from rfl] at hx177_5)
                (try rw [Addr.add_zero'] at hx177_5)
                replace hx177_0 := (HB.out.cell (World.block_lt_of_cell? w _ hx177_0)).trans hx177_0
                replace hx177_1 := (HB.out.cell (World.block_lt_of_cell? w _ hx177_1)).trans hx177_1
                replace hx177_2 := (HB.out.cell (World.block_lt_of_cell? w _ hx177_2)).trans hx177_2
                replace hx177_3 := (HB.out.cell (World.block_lt_of_cell? w _ hx177_3)).trans hx177_3
                replace hx177_4 := (HB.out.cell (World.block_lt_of_cell? w _ hx177_4)).trans hx177_4
                replace hx177_5 := (HB.out.cell (World.block_lt_of_cell? w _ hx177_5)).trans hx177_5
                have HR177_2 := Aside0.mk hi177_2
                have HC177_2 := Aside0.mk hl177_2
                clear hi177_2 hl177_2
                replace p177 := eq_true p177
                replace q177 := eq_true q177
                have ea_ := Option.some.inj (hx174_2.symm.trans hx177_2)
                injection ea_ with ea_ en_ ec_
                subst ea_
                subst ec_
                clear en_
                refine start_ (n := 19) (S := fun w' => w'.cell? (ad173.add ((x7_1).toNat * 6)) = some (.string ((rd_T27 l0 x7_1).f0)) ∧ w'.cell? ⟨(ad173.add ((x7_1).toNat * 6)).block, (ad173.add ((x7_1).toNat * 6)).off + 1, none⟩ = some (.int .i64 ((rd_T27 l0 x7_1).f1)) ∧ w'.cell? ⟨(ad173.add ((x7_1).toNat * 6)).block, (ad173.add ((x7_1).toNat * 6)).off + 2, none⟩ = some (.slice A173_2 ((rd_T27 l0 x7_1).f2).length c173_2) ∧ w'.cell? ⟨(ad173.add ((x7_1).toNat * 6)).block, (ad173.add ((x7_1).toNat * 6)).off + 3, none⟩ = some (.int .i64 ((rd_T27 l0 x7_1).f3)) ∧ w'.cell? ⟨(ad173.add ((x7_1).toNat * 6)).block, (ad173.add ((x7_1).toNat * 6)).off + 4, none⟩ = some (.int .i64 ((rd_T27 l0 x7_1).f4)) ∧ w'.cell? ⟨(ad173.add ((x7_1).toNat * 6)).block, (ad173.add ((x7_1).toNat * 6)).off + 5, none⟩ = some (.int .i64 ((rd_T27 l0 x7_1).f5)) ∧ w'.cell? ad173 = some (.string ((rd_T27 l0 0).f0)) ∧ w'.cell? ⟨ad173.block, ad173.off + 1, none⟩ = some (.int .i64 ((rd_T27 l0 0).f1)) ∧ w'.cell? ⟨ad173.block, ad173.off + 2, none⟩ = some (.slice A174_2 ((rd_T27 l0 0).f2).length c174_2) ∧ w'.cell? ⟨ad173.block, ad173.off + 3, none⟩ = some (.int .i64 ((rd_T27 l0 0).f3)) ∧ w'.cell? ⟨ad173.block, ad173.off + 4, none⟩ = some (.int .i64 ((rd_T27 l0 0).f4)) ∧ w'.cell? ⟨ad173.block, ad173.off + 5, none⟩ = some (.int .i64 ((rd_T27 l0 0).f5)) ∧ w'.cell? (ad173.add ((x7_1).toNat * 6)) = some (.string ((rd_T27 l0 x7_1).f0)) ∧ w'.cell? ⟨(ad173.add ((x7_1).toNat * 6)).block, (ad173.add ((x7_1).toNat * 6)).off + 1, none⟩ = some (.int .i64 ((rd_T27 l0 x7_1).f1)) ∧ w'.cell? ⟨(ad173.add ((x7_1).toNat * 6)).block, (ad173.add ((x7_1).toNat * 6)).off + 2, none⟩ = some (.slice A173_2 ((rd_T27 l0 x7_1).f2).length c173_2) ∧ w'.cell? ⟨(ad173.add ((x7_1).toNat * 6)).block, (ad173.add ((x7_1).toNat * 6)).off + 3, none⟩ = some (.int .i64 ((rd_T27 l0 x7_1).f3)) ∧ w'.cell? ⟨(ad173.add ((x7_1).toNat * 6)).block, (ad173.add ((x7_1).toNat * 6)).off + 4, none⟩ = some (.int .i64 ((rd_T27 l0 x7_1).f4)) ∧ w'.cell? ⟨(ad173.add ((x7_1).toNat * 6)).block, (ad173.add ((x7_1).toNat * 6)).off + 5, none⟩ = some (.int .i64 ((rd_T27 l0 x7_1).f5)) ∧ w'.cell? ad173 = some (.string ((rd_T27 l0 0).f0)) ∧ w'.cell? ⟨ad173.block, ad173.off + 1, none⟩ = some (.int .i64 ((rd_T27 l0 0).f1)) ∧ w'.cell? ⟨ad173.block, ad173.off + 2, none⟩ = some (.slice A174_2 ((rd_T27 l0 0).f2).length c174_2) ∧ w'.cell? ⟨ad173.block, ad173.off + 3, none⟩ = some (.int .i64 ((rd_T27 l0 0).f3)) ∧ w'.cell? ⟨ad173.block, ad173.off + 4, none⟩ = some (.int .i64 ((rd_T27 l0 0).f4)) ∧ w'.cell? ⟨ad173.block, ad173.off + 5, none⟩ = some (.int .i64 ((rd_T27 l0 0).f5))) (ds := []) #[false, false, false, false, false, false, false, false, false, false, false, false, false, false, false, false, false, false, false] (by kernel_rfl) rfl rfl ⟨((HB.out.cell (World.block_lt_of_cell? w _ hw173_0)).trans hw173_0), ((HB.out.cell (World.block_lt_of_cell? w _ hw173_1)).trans hw173_1), ((HB.out.cell (World.block_lt_of_cell? w _ hw173_2)).trans hw173_2), ((HB.out.cell (World.block_lt_of_cell? w _ hw173_3)).trans hw173_3), ((HB.out.cell (World.block_lt_of_cell? w _ hw173_4)).trans hw173_4), ((HB.out.cell (World.block_lt_of_cell? w _ hw173_5)).trans hw173_5), ((HB.out.cell (World.block_lt_of_cell? w _ hw174_0)).trans hw174_0), ((HB.out.cell (World.block_lt_of_cell? w _ hw174_1)).trans hw174_1), ((HB.out.cell (World.block_lt_of_cell? w _ hw174_2)).trans hw174_2), ((HB.out.cell (World.block_lt_of_cell? w _ hw174_3)).trans hw174_3), ((HB.out.cell (World.block_lt_of_cell? w _ hw174_4)).trans hw174_4), ((HB.out.cell (World.block_lt_of_cell? w _ hw174_5)).trans hw174_5), ((HB.out.cell (World.block_lt_of_cell? w _ hw176_0)).trans hw176_0), ((HB.out.cell (World.block_lt_of_cell? w _ hw176_1)).trans hw176_1), ((HB.out.cell (World.block_lt_of_cell? w _ hw176_2)).trans hw176_2), ((HB.out.cell (World.block_lt_of_cell? w _ hw176_3)).trans hw176_3), ((HB.out.cell (World.block_lt_of_cell? w _ hw176_4)).trans hw176_4), ((HB.out.cell (World.block_lt_of_cell? w _ hw176_5)).trans hw176_5), ((HB.out.cell (World.block_lt_of_cell? w _ hw177_0)).trans hw177_0), ((HB.out.cell (World.block_lt_of_cell? w _ hw177_1)).trans hw177_1), ((HB.out.cell (World.block_lt_of_cell? w _ hw177_2)).trans hw177_2), ((HB.out.cell (World.block_lt_of_cell? w _ hw177_3)).trans hw177_3), ((HB.out.cell (World.block_lt_of_cell? w _ hw177_4)).trans hw177_4), ((HB.out.cell (World.block_lt_of_cell? w _ hw177_5)).trans hw177_5)⟩ (fun hHeld => ?_); refine with_tabW triremelaw21_ExpandChooses.tab6 triremelaw21_ExpandChooses.bits6 (fun HT_ HW_ => ?_)
                generalize wr.drew = w16 at HB HR173_2 HR174_2 HR176_2 HR177_2 hx173_0 hx173_1 hx173_2 hx173_3 hx173_4 hx173_5 hx174_0 hx174_1 hx174_2 hx174_3 hx174_4 hx174_5 hx176_0 hx176_1 hx176_2 hx176_3 hx176_4 hx176_5 hx177_0 hx177_1 hx177_2 hx177_3 hx177_4 hx177_5 hHeld ⊢
                refine pure_ (i := 0) (N := some 18) (v := ?_) (a' := ?_) #[true, false, false, false, false, false, false, false, false, false, false, false, false, false, false, false, false, false, false] rfl rfl (any_of HT_.out (by kernel_rfl)) (fun _ _ _ h => h) (Or.inl ⟨by rfl, ?_⟩) ?_ ?_
                rotate_left
                · intro w'
                  go_simp
                  with_reducible rfl
                rotate_left
                · simp only [Act.put, List.setIfInBounds_toArray, List.set_cons_zero, List.set_cons_succ, i64_w, i32_w]
                  rfl
                refine pure_ (i := 1) (N := some 19) (v := ?_) (a' := ?_) #[true, true, false, false, false, false, false, false, false, false, false, false, false, false, false, false, false, false, false] rfl rfl (any_of HT_.out (by kernel_rfl)) (fun _ _ _ h => h) (Or.inl ⟨by rfl, ?_⟩) ?_ ?_
                rotate_left
                · intro w'
                  go_simp
                  with_reducible rfl
                rotate_left
                · simp only [Act.put, List.setIfInBounds_toArray, List.set_cons_zero, List.set_cons_succ, i64_w, i32_w]
                  rfl
                refine pure_ (i := 2) (N := some 20) (v := ?_) (a' := ?_) #[true, true, true, false, false, false, false, false, false, false, false, false, false, false, false, false, false, false, false] rfl rfl (any_of HT_.out (by kernel_rfl)) (fun _ _ _ h => h) (Or.inl ⟨by rfl, ?_⟩) ?_ ?_
                rotate_left
                · intro w'
                  go_simp
                  with_reducible rfl
                rotate_left
                · simp only [Act.put, List.setIfInBounds_toArray, List.set_cons_zero, List.set_cons_succ, i64_w, i32_w]
                  rfl
                refine pure_ (i := 4) (N := some 22) (v := ?_) (a' := ?_) #[true, true, true, false, true, false, false, false, false, false, false, false, false, false, false, false, false, false, false] rfl rfl (any_of HT_.out (by kernel_rfl)) (fun _ _ _ h => h) (Or.inl ⟨by rfl, ?_⟩) ?_ ?_
                rotate_left
                · intro w'
                  go_simp
                  with_reducible rfl
                rotate_left
                · simp only [Act.put, List.setIfInBounds_toArray, List.set_cons_zero, List.set_cons_succ, i64_w, i32_w]
                  rfl
                refine pure_ (i := 5) (N := some 23) (v := ?_) (a' := ?_) #[true, true, true, false, true, true, false, false, false, false, false, false, false, false, false, false, false, false, false] rfl rfl (any_of HT_.out (by kernel_rfl)) (fun _ _ _ h => h) (Or.inl ⟨by rfl, ?_⟩) ?_ ?_
                rotate_left
                · intro w'
                  go_simp
                  with_reducible rfl
                rotate_left
                · simp only [Act.put, List.setIfInBounds_toArray, List.set_cons_zero, List.set_cons_succ, i64_w, i32_w]
                  rfl
                refine pure_ (i := 7) (N := some 25) (v := ?_) (a' := ?_) #[true, true, true, false, true, true, false, true, false, false, false, false, false, false, false, false, false, false, false] rfl rfl (any_of HT_.out (by kernel_rfl)) (fun _ _ _ h => h) (Or.inl ⟨by rfl, ?_⟩) ?_ ?_
                rotate_left
                · intro w'
                  go_simp
                  with_reducible rfl
                rotate_left
                · simp only [Act.put, List.setIfInBounds_toArray, List.set_cons_zero, List.set_cons_succ, i64_w, i32_w]
                  rfl
                refine pure_ (i := 9) (N := some 27) (v := ?_) (a' := ?_) #[true, true, true, false, true, true, false, true, false, true, false, false, false, false, false, false, false, false, false] rfl rfl (any_of HT_.out (by kernel_rfl)) (fun _ _ _ h => h) (Or.inl ⟨by rfl, ?_⟩) ?_ ?_
                rotate_left
                · intro w'
                  go_simp
                  with_reducible rfl
                rotate_left
                · simp only [Act.put, List.setIfInBounds_toArray, List.set_cons_zero, List.set_cons_succ, i64_w, i32_w]
                  rfl
                refine pure_ (i := 10) (N := some 28) (v := ?_) (a' := ?_) #[true, true, true, false, true, true, false, true, false, true, true, false, false, false, false, false, false, false, false] rfl rfl (any_of HT_.out (by kernel_rfl)) (fun _ _ _ h => h) (Or.inl ⟨by rfl, ?_⟩) ?_ ?_
                rotate_left
                · intro w'
                  go_simp
                  with_reducible rfl
                rotate_left
                · simp only [Act.put, List.setIfInBounds_toArray, List.set_cons_zero, List.set_cons_succ, i64_w, i32_w]
                  rfl
                refine pure_ (i := 11) (N := some 29) (v := ?_) (a' := ?_) #[true, true, true, false, true, true, false, true, false, true, true, true, false, false, false, false, false, false, false] rfl rfl (any_of HT_.out (by kernel_rfl)) (fun _ _ _ h => h) (Or.inl ⟨by rfl, ?_⟩) ?_ ?_
                rotate_left
                · intro w'
                  go_simp
                  with_reducible rfl
                rotate_left
                · simp only [Act.put, List.setIfInBounds_toArray, List.set_cons_zero, List.set_cons_succ, i64_w, i32_w]
                  rfl
                refine pure_ (i := 13) (N := some 31) (v := ?_) (a' := ?_) #[true, true, true, false, true, true, false, true, false, true, true, true, false, true, false, false, false, false, false] rfl rfl (any_of HT_.out (by kernel_rfl)) (fun _ _ _ h => h) (Or.inl ⟨by rfl, ?_⟩) ?_ ?_
                rotate_left
                · intro w'
                  go_simp
                  with_reducible rfl
                rotate_left
                · simp only [Act.put, List.setIfInBounds_toArray, List.set_cons_zero, List.set_cons_succ, i64_w, i32_w]
                  rfl
                refine pure_ (i := 14) (N := some 32) (v := ?_) (a' := ?_) #[true, true, true, false, true, true, false, true, false, true, true, true, false, true, true, false, false, false, false] rfl rfl (any_of HT_.out (by kernel_rfl)) (fun _ _ _ h => h) (Or.inl ⟨by rfl, ?_⟩) ?_ ?_
                rotate_left
                · intro w'
                  go_simp
                  with_reducible rfl
                rotate_left
                · simp only [Act.put, List.setIfInBounds_toArray, List.set_cons_zero, List.set_cons_succ, i64_w, i32_w]
                  rfl
                refine pure_ (i := 16) (N := some 34) (v := ?_) (a' := ?_) #[true, true, true, false, true, true, false, true, false, true, true, true, false, true, true, false, true, false, false] rfl rfl (any_of HT_.out (by kernel_rfl)) (fun _ _ _ h => h) (Or.inl ⟨by rfl, ?_⟩) ?_ ?_
                rotate_left
                · intro w'
                  go_simp
                  with_reducible rfl
                rotate_left
                · simp only [Act.put, List.setIfInBounds_toArray, List.set_cons_zero, List.set_cons_succ, i64_w, i32_w]
                  rfl
                refine take_ (i := 3) (N := some 21) (v := ?_) (a' := ?_) #[true, true, true, true, true, true, false, true, false, true, true, true, false, true, true, false, true, false, false] rfl rfl (take_ofW HT_.out HW_.out (by kernel_rfl)) (fun _ _ _ h => h) (Or.inl ⟨by rfl, ?_⟩) hHeld ?_ ?_
                rotate_left
                · rintro w' ⟨s0, s1, s2, s3, s4, s5, s6, s7, s8, s9, s10, s11, s12, s13, s14, s15, s16, s17, s18, s19, s20, s21, s22, s23⟩
                  go_simp
                  with_reducible rfl
                rotate_left
                · simp only [Act.put, List.setIfInBounds_toArray, List.set_cons_zero, List.set_cons_succ, i64_w, i32_w]
                  rfl
                refine take_ (i := 6) (N := some 24) (v := ?_) (a' := ?_) #[true, true, true, true, true, true, true, true, false, true, true, true, false, true, true, false, true, false, false] rfl rfl (take_ofW HT_.out HW_.out (by kernel_rfl)) (fun _ _ _ h => h) (Or.inl ⟨by rfl, ?_⟩) hHeld ?_ ?_
                rotate_left
                · rintro w' ⟨s0, s1, s2, s3, s4, s5, s6, s7, s8, s9, s10, s11, s12, s13, s14, s15, s16, s17, s18, s19, s20, s21, s22, s23⟩
                  go_simp
                  with_reducible rfl
                rotate_left
                · simp only [Act.put, List.setIfInBounds_toArray, List.set_cons_zero, List.set_cons_succ, i64_w, i32_w]
                  rfl
                refine take_ (i := 12) (N := some 30) (v := ?_) (a' := ?_) #[true, true, true, true, true, true, true, true, false, true, true, true, true, true, true, false, true, false, false] rfl rfl (take_ofW HT_.out HW_.out (by kernel_rfl)) (fun _ _ _ h => h) (Or.inl ⟨by rfl, ?_⟩) hHeld ?_ ?_
                rotate_left
                · rintro w' ⟨s0, s1, s2, s3, s4, s5, s6, s7, s8, s9, s10, s11, s12, s13, s14, s15, s16, s17, s18, s19, s20, s21, s22, s23⟩
                  go_simp
                  with_reducible rfl
                rotate_left
                · simp only [Act.put, List.setIfInBounds_toArray, List.set_cons_zero, List.set_cons_succ, i64_w, i32_w]
                  rfl
                refine take_ (i := 15) (N := some 33) (v := ?_) (a' := ?_) #[true, true, true, true, true, true, true, true, false, true, true, true, true, true, true, true, true, false, false] rfl rfl (take_ofW HT_.out HW_.out (by kernel_rfl)) (fun _ _ _ h => h) (Or.inl ⟨by rfl, ?_⟩) hHeld ?_ ?_
                rotate_left
                · rintro w' ⟨s0, s1, s2, s3, s4, s5, s6, s7, s8, s9, s10, s11, s12, s13, s14, s15, s16, s17, s18, s19, s20, s21, s22, s23⟩
                  go_simp
                  with_reducible rfl
                rotate_left
                · simp only [Act.put, List.setIfInBounds_toArray, List.set_cons_zero, List.set_cons_succ, i64_w, i32_w]
                  rfl
                refine one_ (i := 8) (N := some 26) #[true, true, true, true, true, true, true, true, true, true, true, true, true, true, true, true, true, false, false] rfl rfl (one_of HT_.out (by kernel_rfl)) (by decide) (fun K hK => ?_)
                refine goes_ Try.func16 (by kernel_rfl) rfl #[.agg #[.string ((rd_T27 l0 x7_1).f0), .int .i64 ((rd_T27 l0 x7_1).f1), .slice A173_2 ((rd_T27 l0 x7_1).f2).length c173_2, .int .i64 ((rd_T27 l0 x7_1).f3), .int .i64 ((rd_T27 l0 x7_1).f4), .int .i64 ((rd_T27 l0 x7_1).f5)], .agg #[.string ((rd_T27 l0 0).f0), .int .i64 ((rd_T27 l0 0).f1), .slice A174_2 ((rd_T27 l0 0).f2).length c174_2, .int .i64 ((rd_T27 l0 0).f3), .int .i64 ((rd_T27 l0 0).f4), .int .i64 ((rd_T27 l0 0).f5)], .int .i64 a1] (by rfl) rfl rfl (by (try simp only [List.map_toArray, List.map_cons, List.map_nil]); first | done | rfl | (simp only [List.length_drop, List.length_take]; rfl)) ?_
                with_reducible refine (expand_Better.calls k1 ((rd_T27 l0 x7_1).f0) ((rd_T27 l0 x7_1).f1) _ _ ((rd_T27 l0 x7_1).f2) ((rd_T27 l0 x7_1).f3) ((rd_T27 l0 x7_1).f4) ((rd_T27 l0 x7_1).f5) ((rd_T27 l0 0).f0) ((rd_T27 l0 0).f1) _ _ ((rd_T27 l0 0).f2) ((rd_T27 l0 0).f3) ((rd_T27 l0 0).f4) ((rd_T27 l0 0).f5) a1 t175 _ ?side1 ?side2 ?side3 ?side4 A10.out).mono ?_
                (case side1 => repeat (first | exact (Kd.C_below HR173_2.out HB.out) | (with_reducible refine Kd.C_alloc ?_ _) | (with_reducible refine Kd.C_drewN ?_ _) | (with_reducible refine Kd.C_drew ?_)))
                (case side2 => exact HC173_2.out)
                (case side3 => repeat (first | exact (Kd.C_below HR174_2.out HB.out) | (with_reducible refine Kd.C_alloc ?_ _) | (with_reducible refine Kd.C_drewN ?_ _) | (with_reducible refine Kd.C_drew ?_)))
                (case side4 => exact HC174_2.out)
                rintro e w17 ⟨rfl, hb⟩
                refine ⟨_, rfl, ?_⟩
                have n0_ := Aside0.mk (below_step (by repeat (first | (with_reducible first | exact HB.out | apply below_alloc | apply pw_below_drewN | apply below_drew1) | exact HB.out)) hb)
                clear HB
                have HB := n0_
                clear n0_
                (try clear hb)
                (try clear hb2)
                (try clear hk)
                (try clear hi)
                refine hK.out _ _ ⟨((HB.out.cell (World.block_lt_of_cell? w _ hw173_0)).trans hw173_0), ((HB.out.cell (World.block_lt_of_cell? w _ hw173_1)).trans hw173_1), ((HB.out.cell (World.block_lt_of_cell? w _ hw173_2)).trans hw173_2), ((HB.out.cell (World.block_lt_of_cell? w _ hw173_3)).trans hw173_3), ((HB.out.cell (World.block_lt_of_cell? w _ hw173_4)).trans hw173_4), ((HB.out.cell (World.block_lt_of_cell? w _ hw173_5)).trans hw173_5), ((HB.out.cell (World.block_lt_of_cell? w _ hw174_0)).trans hw174_0), ((HB.out.cell (World.block_lt_of_cell? w _ hw174_1)).trans hw174_1), ((HB.out.cell (World.block_lt_of_cell? w _ hw174_2)).trans hw174_2), ((HB.out.cell (World.block_lt_of_cell? w _ hw174_3)).trans hw174_3), ((HB.out.cell (World.block_lt_of_cell? w _ hw174_4)).trans hw174_4), ((HB.out.cell (World.block_lt_of_cell? w _ hw174_5)).trans hw174_5), ((HB.out.cell (World.block_lt_of_cell? w _ hw176_0)).trans hw176_0), ((HB.out.cell (World.block_lt_of_cell? w _ hw176_1)).trans hw176_1), ((HB.out.cell (World.block_lt_of_cell? w _ hw176_2)).trans hw176_2), ((HB.out.cell (World.block_lt_of_cell? w _ hw176_3)).trans hw176_3), ((HB.out.cell (World.block_lt_of_cell? w _ hw176_4)).trans hw176_4), ((HB.out.cell (World.block_lt_of_cell? w _ hw176_5)).trans hw176_5), ((HB.out.cell (World.block_lt_of_cell? w _ hw177_0)).trans hw177_0), ((HB.out.cell (World.block_lt_of_cell? w _ hw177_1)).trans hw177_1), ((HB.out.cell (World.block_lt_of_cell? w _ hw177_2)).trans hw177_2), ((HB.out.cell (World.block_lt_of_cell? w _ hw177_3)).trans hw177_3), ((HB.out.cell (World.block_lt_of_cell? w _ hw177_4)).trans hw177_4), ((HB.out.cell (World.block_lt_of_cell? w _ hw177_5)).trans hw177_5)⟩ (fun hHeld => ?_)
                clear hK K
                refine norm_ (a' := ?_) ?_ ?_
                rotate_left
                · show Act.put _ (some 26) _ = _
                  simp only [Act.put, List.setIfInBounds_toArray, List.set_cons_zero, List.set_cons_succ, i64_w, i32_w]
                  rfl
                refine one_ (i := 17) (N := some 35) #[true, true, true, true, true, true, true, true, true, true, true, true, true, true, true, true, true, true, false] rfl rfl (one_of HT_.out (by kernel_rfl)) (by decide) (fun K hK => ?_)
                refine goes_ Try.func17 (by kernel_rfl) rfl #[.agg #[.string ((rd_T27 l0 x7_1).f0), .int .i64 ((rd_T27 l0 x7_1).f1), .slice A173_2 ((rd_T27 l0 x7_1).f2).length c173_2, .int .i64 ((rd_T27 l0 x7_1).f3), .int .i64 ((rd_T27 l0 x7_1).f4), .int .i64 ((rd_T27 l0 x7_1).f5)], .agg #[.string ((rd_T27 l0 0).f0), .int .i64 ((rd_T27 l0 0).f1), .slice A174_2 ((rd_T27 l0 0).f2).length c174_2, .int .i64 ((rd_T27 l0 0).f3), .int .i64 ((rd_T27 l0 0).f4), .int .i64 ((rd_T27 l0 0).f5)], .int .i64 a1] (by rfl) rfl rfl (by (try simp only [List.map_toArray, List.map_cons, List.map_nil]); first | done | rfl | (simp only [List.length_drop, List.length_take]; rfl)) ?_
                with_reducible refine (triremeref21_Better.calls ((rd_T27 l0 x7_1).f0) ((rd_T27 l0 x7_1).f1) _ _ ((rd_T27 l0 x7_1).f2) ((rd_T27 l0 x7_1).f3) ((rd_T27 l0 x7_1).f4) ((rd_T27 l0 x7_1).f5) ((rd_T27 l0 0).f0) ((rd_T27 l0 0).f1) _ _ ((rd_T27 l0 0).f2) ((rd_T27 l0 0).f3) ((rd_T27 l0 0).f4) ((rd_T27 l0 0).f5) a1 t178 _ ?side1 ?side2 ?side3 ?side4 A11.out).mono ?_
                (case side1 => repeat (first | exact (Kd.C_below HR176_2.out HB.out) | (with_reducible refine Kd.C_alloc ?_ _) | (with_reducible refine Kd.C_drewN ?_ _) | (with_reducible refine Kd.C_drew ?_)))
                (case side2 => exact HC176_2.out)
                (case side3 => repeat (first | exact (Kd.C_below HR177_2.out HB.out) | (with_reducible refine Kd.C_alloc ?_ _) | (with_reducible refine Kd.C_drewN ?_ _) | (with_reducible refine Kd.C_drew ?_)))
                (case side4 => exact HC177_2.out)
                rintro e w18 ⟨rfl, hb⟩
                refine ⟨_, rfl, ?_⟩
                have n0_ := Aside0.mk (below_step (by repeat (first | (with_reducible first | exact HB.out | apply below_alloc | apply pw_below_drewN | apply below_drew1) | exact HB.out)) hb)
                clear HB
                have HB := n0_
                clear n0_
                (try clear hb)
                (try clear hb2)
                (try clear hk)
                (try clear hi)
                refine hK.out _ _ ⟨((HB.out.cell (World.block_lt_of_cell? w _ hw173_0)).trans hw173_0), ((HB.out.cell (World.block_lt_of_cell? w _ hw173_1)).trans hw173_1), ((HB.out.cell (World.block_lt_of_cell? w _ hw173_2)).trans hw173_2), ((HB.out.cell (World.block_lt_of_cell? w _ hw173_3)).trans hw173_3), ((HB.out.cell (World.block_lt_of_cell? w _ hw173_4)).trans hw173_4), ((HB.out.cell (World.block_lt_of_cell? w _ hw173_5)).trans hw173_5), ((HB.out.cell (World.block_lt_of_cell? w _ hw174_0)).trans hw174_0), ((HB.out.cell (World.block_lt_of_cell? w _ hw174_1)).trans hw174_1), ((HB.out.cell (World.block_lt_of_cell? w _ hw174_2)).trans hw174_2), ((HB.out.cell (World.block_lt_of_cell? w _ hw174_3)).trans hw174_3), ((HB.out.cell (World.block_lt_of_cell? w _ hw174_4)).trans hw174_4), ((HB.out.cell (World.block_lt_of_cell? w _ hw174_5)).trans hw174_5), ((HB.out.cell (World.block_lt_of_cell? w _ hw176_0)).trans hw176_0), ((HB.out.cell (World.block_lt_of_cell? w _ hw176_1)).trans hw176_1), ((HB.out.cell (World.block_lt_of_cell? w _ hw176_2)).trans hw176_2), ((HB.out.cell (World.block_lt_of_cell? w _ hw176_3)).trans hw176_3), ((HB.out.cell (World.block_lt_of_cell? w _ hw176_4)).trans hw176_4), ((HB.out.cell (World.block_lt_of_cell? w _ hw176_5)).trans hw176_5), ((HB.out.cell (World.block_lt_of_cell? w _ hw177_0)).trans hw177_0), ((HB.out.cell (World.block_lt_of_cell? w _ hw177_1)).trans hw177_1), ((HB.out.cell (World.block_lt_of_cell? w _ hw177_2)).trans hw177_2), ((HB.out.cell (World.block_lt_of_cell? w _ hw177_3)).trans hw177_3), ((HB.out.cell (World.block_lt_of_cell? w _ hw177_4)).trans hw177_4), ((HB.out.cell (World.block_lt_of_cell? w _ hw177_5)).trans hw177_5)⟩ (fun hHeld => ?_)
                clear hK K
                refine norm_ (a' := ?_) ?_ ?_
                rotate_left
                · show Act.put _ (some 35) _ = _
                  simp only [Act.put, List.setIfInBounds_toArray, List.set_cons_zero, List.set_cons_succ, i64_w, i32_w]
                  rfl
                refine pure_ (i := 18) (N := some 36) (v := ?_) (a' := ?_) #[true, true, true, true, true, true, true, true, true, true, true, true, true, true, true, true, true, true, true] rfl rfl (any_of HT_.out (by kernel_rfl)) (fun _ _ _ h => h) (Or.inl ⟨by rfl, ?_⟩) ?_ ?_
                rotate_left
                · intro w'
                  go_simp
                  with_reducible rfl
                rotate_left
                · simp only [Act.put, List.setIfInBounds_toArray, List.set_cons_zero, List.set_cons_succ, i64_w, i32_w]
                  rfl
                refine done_ (done_of HT_.out (by kernel_rfl)) ?_
                try go_wp2
                go_roundg k1
                case measure => have := HK1.out; omega
                case rel => exact ⟨(wrap64 (x7_1 + 1)), (by first | rfl | (simp; done) | (simp [*]; done)), H', ⟨by have := HK1.out; omega⟩, ⟨by repeat (first | (with_reducible first | exact HB.out | apply below_alloc | apply pw_below_drewN | apply below_drew1) | exact HB.out)⟩⟩
            · rw [if_neg c9] at H
              exact absurd H (by simp)
          · rw [if_neg c8] at H
            exact absurd H (by simp)
        · rw [if_neg c7] at H
          have c7b0 : decide (x7_1 < (l0.length : Int)) = false := decide_eq_false c7
          clear c7
          replace H := Option.bind_eq_some_iff.mp H
          obtain ⟨t179, A190, H⟩ := H
          replace H : ((triremeref21_Choose.f k1 l0 a1 a2).bind fun t180 => (if t179 = t180 then ((expand_Next.f a2).bind fun t181 => ((triremeref21_Next.f a2).bind fun t182 => (if t181 = t182 then ((triremelaw21_known.f k1).bind fun t183 => (some t183)) else (some false)))) else (some false))) = some r := H
          have A19 := Aside0.mk A190
          clear A190
          replace H := Option.bind_eq_some_iff.mp H
          obtain ⟨t180, A200, H⟩ := H
          replace H : (if t179 = t180 then ((expand_Next.f a2).bind fun t181 => ((triremeref21_Next.f a2).bind fun t182 => (if t181 = t182 then ((triremelaw21_known.f k1).bind fun t183 => (some t183)) else (some false)))) else (some false)) = some r := H
          have A20 := Aside0.mk A200
          clear A200
          by_cases c21 : t179 = t180
          · rw [if_pos c21] at H
            have c21b0 : (t179 == t180) = true := beq_iff_eq.mpr c21
            have c21b1 : (t179 != t180) = false := bne_eq_false_iff_eq.mpr c21
            clear c21
            replace H := Option.bind_eq_some_iff.mp H
            obtain ⟨t181, A220, H⟩ := H
            replace H : ((triremeref21_Next.f a2).bind fun t182 => (if t181 = t182 then ((triremelaw21_known.f k1).bind fun t183 => (some t183)) else (some false))) = some r := H
            have A22 := Aside0.mk A220
            clear A220
            replace H := Option.bind_eq_some_iff.mp H
            obtain ⟨t182, A230, H⟩ := H
            replace H : (if t181 = t182 then ((triremelaw21_known.f k1).bind fun t183 => (some t183)) else (some false)) = some r := H
            have A23 := Aside0.mk A230
            clear A230
            by_cases c24 : t181 = t182
            · rw [if_pos c24] at H
              have c24b0 : (t181 == t182) = true := beq_iff_eq.mpr c24
              have c24b1 : (t181 != t182) = false := bne_eq_false_iff_eq.mpr c24
              clear c24
              replace H := Option.bind_eq_some_iff.mp H
              obtain ⟨t183, A250, H⟩ := H
              replace H : (some t183) = some r := H
              have A25 := Aside0.mk A250
              clear A250
              obtain rfl := Option.some.inj H
              go_wp2_with (first | ((with_reducible refine gate_callee (f := 18) rfl ?_); refine goesL_ (some 40) rfl rfl Try.func18 (by kernel_rfl) rfl #[.slice A0 l0.length c0, .int .i64 a1, .int .i64 a2] rfl (by (try simp only [List.map_toArray, List.map_cons, List.map_nil]); first | done | rfl | (simp only [List.length_drop, List.length_take]; rfl)) ?_; (with_reducible refine (expand_Choose.calls k1 _ _ l0 a1 a2 t179 _ ?side1 ?side2 A19.out).mono ?_); (case side1 => repeat (first | exact (Kd.C_below HR0.out HB.out) | (with_reducible refine Kd.C_alloc ?_ _) | (with_reducible refine Kd.C_drewN ?_ _) | (with_reducible refine Kd.C_drew ?_))); (case side2 => exact HC0.out); rintro e w26 ⟨rfl, hb⟩; refine ⟨_, rfl, ?_⟩; have n0_ := Aside0.mk (below_step (by repeat (first | (with_reducible first | exact HB.out | apply below_alloc | apply pw_below_drewN | apply below_drew1) | exact HB.out)) hb); clear HB; have HB := n0_; clear n0_; (try clear hb); (try clear hb2); (try clear hk); (try clear hi)) | ((with_reducible refine gate_callee (f := 19) rfl ?_); refine goesL_ (some 44) rfl rfl Try.func19 (by kernel_rfl) rfl #[.slice A0 l0.length c0, .int .i64 a1, .int .i64 a2] rfl (by (try simp only [List.map_toArray, List.map_cons, List.map_nil]); first | done | rfl | (simp only [List.length_drop, List.length_take]; rfl)) ?_; (with_reducible refine (triremeref21_Choose.calls k1 _ _ l0 a1 a2 t180 _ ?side1 ?side2 A20.out).mono ?_); (case side1 => repeat (first | exact (Kd.C_below HR0.out HB.out) | (with_reducible refine Kd.C_alloc ?_ _) | (with_reducible refine Kd.C_drewN ?_ _) | (with_reducible refine Kd.C_drew ?_))); (case side2 => exact HC0.out); rintro e w27 ⟨rfl, hb⟩; refine ⟨_, rfl, ?_⟩; have n0_ := Aside0.mk (below_step (by repeat (first | (with_reducible first | exact HB.out | apply below_alloc | apply pw_below_drewN | apply below_drew1) | exact HB.out)) hb); clear HB; have HB := n0_; clear n0_; (try clear hb); (try clear hb2); (try clear hk); (try clear hi)) | (go_at_call 20; (with_reducible refine (expand_Next.calls a2 t181 _ A22.out).mono ?_); rintro e w' ⟨rfl, ⟨nd, rfl⟩⟩) | (go_at_call 21; (with_reducible refine (triremeref21_Next.calls a2 t182 _ A23.out).mono ?_); rintro e w' ⟨rfl, ⟨nd, rfl⟩⟩) | (go_at_call 15; (with_reducible refine (triremelaw21_known.calls k1  t183 _ A25.out).mono ?_); rintro e w28 ⟨rfl, hb⟩; have n0_ := Aside0.mk (below_step (by repeat (first | (with_reducible first | exact HB.out | apply below_alloc | apply pw_below_drewN | apply below_drew1) | exact HB.out)) hb); clear HB; have HB := n0_; clear n0_; (try clear hb); (try clear hb2); (try clear hk); (try clear hi)))
              go_ret
              exact ⟨by first | rfl | (simp [errW_none, errW_some] <;> rfl) | (simp [*, errW_none, errW_some] <;> rfl), by repeat (first | (with_reducible first | exact HB.out | apply below_alloc | apply pw_below_drewN | apply below_drew1) | exact HB.out)⟩
            · rw [if_neg c24] at H
              have c24b0 : (t181 == t182) = false := beq_eq_false_iff_ne.mpr c24
              have c24b1 : (t181 != t182) = true := bne_iff_ne.mpr c24
              obtain rfl := Option.some.inj H
              go_wp2_with (first | ((with_reducible refine gate_callee (f := 18) rfl ?_); refine goesL_ (some 40) rfl rfl Try.func18 (by kernel_rfl) rfl #[.slice A0 l0.length c0, .int .i64 a1, .int .i64 a2] rfl (by (try simp only [List.map_toArray, List.map_cons, List.map_nil]); first | done | rfl | (simp only [List.length_drop, List.length_take]; rfl)) ?_; (with_reducible refine (expand_Choose.calls k1 _ _ l0 a1 a2 t179 _ ?side1 ?side2 A19.out).mono ?_); (case side1 => repeat (first | exact (Kd.C_below HR0.out HB.out) | (with_reducible refine Kd.C_alloc ?_ _) | (with_reducible refine Kd.C_drewN ?_ _) | (with_reducible refine Kd.C_drew ?_))); (case side2 => exact HC0.out); rintro e w29 ⟨rfl, hb⟩; refine ⟨_, rfl, ?_⟩; have n0_ := Aside0.mk (below_step (by repeat (first | (with_reducible first | exact HB.out | apply below_alloc | apply pw_below_drewN | apply below_drew1) | exact HB.out)) hb); clear HB; have HB := n0_; clear n0_; (try clear hb); (try clear hb2); (try clear hk); (try clear hi)) | ((with_reducible refine gate_callee (f := 19) rfl ?_); refine goesL_ (some 44) rfl rfl Try.func19 (by kernel_rfl) rfl #[.slice A0 l0.length c0, .int .i64 a1, .int .i64 a2] rfl (by (try simp only [List.map_toArray, List.map_cons, List.map_nil]); first | done | rfl | (simp only [List.length_drop, List.length_take]; rfl)) ?_; (with_reducible refine (triremeref21_Choose.calls k1 _ _ l0 a1 a2 t180 _ ?side1 ?side2 A20.out).mono ?_); (case side1 => repeat (first | exact (Kd.C_below HR0.out HB.out) | (with_reducible refine Kd.C_alloc ?_ _) | (with_reducible refine Kd.C_drewN ?_ _) | (with_reducible refine Kd.C_drew ?_))); (case side2 => exact HC0.out); rintro e w30 ⟨rfl, hb⟩; refine ⟨_, rfl, ?_⟩; have n0_ := Aside0.mk (below_step (by repeat (first | (with_reducible first | exact HB.out | apply below_alloc | apply pw_below_drewN | apply below_drew1) | exact HB.out)) hb); clear HB; have HB := n0_; clear n0_; (try clear hb); (try clear hb2); (try clear hk); (try clear hi)) | (go_at_call 20; (with_reducible refine (expand_Next.calls a2 t181 _ A22.out).mono ?_); rintro e w' ⟨rfl, ⟨nd, rfl⟩⟩) | (go_at_call 21; (with_reducible refine (triremeref21_Next.calls a2 t182 _ A23.out).mono ?_); rintro e w' ⟨rfl, ⟨nd, rfl⟩⟩))
              go_ret
              exact ⟨by first | rfl | (simp [errW_none, errW_some] <;> rfl) | (simp [*, errW_none, errW_some] <;> rfl), by repeat (first | (with_reducible first | exact HB.out | apply below_alloc | apply pw_below_drewN | apply below_drew1) | exact HB.out)⟩
          · rw [if_neg c21] at H
            have c21b0 : (t179 == t180) = false := beq_eq_false_iff_ne.mpr c21
            have c21b1 : (t179 != t180) = true := bne_iff_ne.mpr c21
            obtain rfl := Option.some.inj H
            go_wp2_with (first | ((with_reducible refine gate_callee (f := 18) rfl ?_); refine goesL_ (some 40) rfl rfl Try.func18 (by kernel_rfl) rfl #[.slice A0 l0.length c0, .int .i64 a1, .int .i64 a2] rfl (by (try simp only [List.map_toArray, List.map_cons, List.map_nil]); first | done | rfl | (simp only [List.length_drop, List.length_take]; rfl)) ?_; (with_reducible refine (expand_Choose.calls k1 _ _ l0 a1 a2 t179 _ ?side1 ?side2 A19.out).mono ?_); (case side1 => repeat (first | exact (Kd.C_below HR0.out HB.out) | (with_reducible refine Kd.C_alloc ?_ _) | (with_reducible refine Kd.C_drewN ?_ _) | (with_reducible refine Kd.C_drew ?_))); (case side2 => exact HC0.out); rintro e w31 ⟨rfl, hb⟩; refine ⟨_, rfl, ?_⟩; have n0_ := Aside0.mk (below_step (by repeat (first | (with_reducible first | exact HB.out | apply below_alloc | apply pw_below_drewN | apply below_drew1) | exact HB.out)) hb); clear HB; have HB := n0_; clear n0_; (try clear hb); (try clear hb2); (try clear hk); (try clear hi)) | ((with_reducible refine gate_callee (f := 19) rfl ?_); refine goesL_ (some 44) rfl rfl Try.func19 (by kernel_rfl) rfl #[.slice A0 l0.length c0, .int .i64 a1, .int .i64 a2] rfl (by (try simp only [List.map_toArray, List.map_cons, List.map_nil]); first | done | rfl | (simp only [List.length_drop, List.length_take]; rfl)) ?_; (with_reducible refine (triremeref21_Choose.calls k1 _ _ l0 a1 a2 t180 _ ?side1 ?side2 A20.out).mono ?_); (case side1 => repeat (first | exact (Kd.C_below HR0.out HB.out) | (with_reducible refine Kd.C_alloc ?_ _) | (with_reducible refine Kd.C_drewN ?_ _) | (with_reducible refine Kd.C_drew ?_))); (case side2 => exact HC0.out); rintro e w32 ⟨rfl, hb⟩; refine ⟨_, rfl, ?_⟩; have n0_ := Aside0.mk (below_step (by repeat (first | (with_reducible first | exact HB.out | apply below_alloc | apply pw_below_drewN | apply below_drew1) | exact HB.out)) hb); clear HB; have HB := n0_; clear n0_; (try clear hb); (try clear hb2); (try clear hk); (try clear hi)))
            go_ret
            exact ⟨by first | rfl | (simp [errW_none, errW_some] <;> rfl) | (simp [*, errW_none, errW_some] <;> rfl), by repeat (first | (with_reducible first | exact HB.out | apply below_alloc | apply pw_below_drewN | apply below_drew1) | exact HB.out)⟩

/-- THE ONE PURE STATEMENT of triremelaw21_ExpandChooses: yours. -/
def triremelaw21_ExpandChooses.Pure : Prop := ∀ (x0 : List (S27)) (x1 : Int) (x2 : Int), (x0.length * 72 ≤ 140737488351232 ∧ ∀ yx0 ∈ x0, B27 yx0) → (Lit.int .i64 x1).wf = true → (Lit.int .i64 x2).wf = true → ∃ k, triremelaw21_ExpandChooses.f k x0 x1 x2 = some true
theorem triremelaw21_ExpandChooses.walk (P : triremelaw21_ExpandChooses.Pure) (x0 : List (S27)) (A0 : Option Addr) (c0 : Nat) (x1 : Int) (x2 : Int) (w : World) (hr0 : Kd.C k27 w A0 x0.length x0) (hc0 : x0.length ≤ c0) (hb0 : (x0.length * 72 ≤ 140737488351232 ∧ ∀ yx0 ∈ x0, B27 yx0)) (hb1 : (Lit.int .i64 x1).wf = true) (hb2 : (Lit.int .i64 x2).wf = true) :
    Calls Try.prog 3 #[.slice A0 x0.length c0, .int .i64 x1, .int .i64 x2] w fun e w' => e = .returned (.bool true) ∧ Below w.heap.size w w' := by
  obtain ⟨k, h⟩ := P x0 x1 x2 hb0 hb1 hb2
  refine (triremelaw21_ExpandChooses.calls k _ _ x0 x1 x2 true w hr0 hc0 h).mono ?_
  rintro e w' ⟨rfl, hd⟩
  exact ⟨rfl, hd⟩

end Go.Proofs.Ytplgkdfmpbkfpaa.HEx
