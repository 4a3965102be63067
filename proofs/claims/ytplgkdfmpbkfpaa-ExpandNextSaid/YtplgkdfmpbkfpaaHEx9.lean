-- PRINTED by print.py (a twelfth state) out of the translation. Not trusted: Lean checks it.
import Derived.Test.YtplgkdfmpbkfpaaHEx0
import Derived.Test.YtplgkdfmpbkfpaaHEx3
import Derived.Test.YtplgkdfmpbkfpaaHEx4
namespace Go.Proofs.Ytplgkdfmpbkfpaa.HEx
open Go.RowKit Go.Proofs.YtplgkdfmpbkfpaaW.PrintWords Go.Proofs.YtplgkdfmpbkfpaaW.PrintLast Go.Proofs.YtplgkdfmpbkfpaaW.PrintMore
attribute [local go_sem] max2_int min2_int max_two min_two max_three min_three max_four min_four   -- for this text's walks alone
attribute [local go_sem] run_store_fnW fnW_nil fnW_75 fnW_76 fnW_77 fnW_78 fnW_79
set_option linter.unusedVariables false
set_option linter.unusedSimpArgs false

/-! ### triremelaw21_ExpandNext: function 6 -/
def triremelaw21_ExpandNext.j0 : Nat → Int → Int → Bool → Option (Bool)
  | 0, _, _, _ => none
  | k + 1, x0, x3, x17 => if x17 = true then (some false) else (if x0 < 0 then ((triremelaw21_known.f k).bind fun t213 => (some t213)) else (if x0 ≥ 2147483647 then ((triremelaw21_known.f k).bind fun t214 => (some t214)) else ((expand_Next.f (wrap64 (x0 + 1))).bind fun t215 => (if t215 = x3 then (some false) else ((triremelaw21_known.f k).bind fun t216 => (some t216))))))
def triremelaw21_ExpandNext.f (k : Nat) (a0 : Int) : Option (Bool) := (expand_Next.f a0).bind fun t211 => (if t211 < 0 then (triremelaw21_ExpandNext.j0 k a0 t211 true) else (if t211 ≥ 2147483648 then (triremelaw21_ExpandNext.j0 k a0 t211 true) else ((expand_Next.f a0).bind fun t212 => (triremelaw21_ExpandNext.j0 k a0 t211 (t212 != t211)))))
theorem triremelaw21_ExpandNext.mono_l : ∀ k, (∀ y0 y1 y2, LeO (triremelaw21_ExpandNext.j0 k y0 y1 y2) (triremelaw21_ExpandNext.j0 (k + 1) y0 y1 y2))
  | 0 => fun _ _ _ r h => by simp [triremelaw21_ExpandNext.j0] at h
  | k + 1 => by
    have ih0 := triremelaw21_ExpandNext.mono_l k
    · intro y0 y1 y2
      unfold triremelaw21_ExpandNext.j0
      repeat' first
      | (with_reducible exact ih0 _ _ _)
      | (with_reducible exact triremelaw21_known.mono _)
      | (with_reducible exact LeO.refl _)
      | (with_reducible exact LeO.none _)
      | (with_reducible refine LeO.ite ?_ ?_)
      | (with_reducible refine LeO.bind ?_ (fun _ => ?_))
      | exact ih0 _ _ _
      | exact triremelaw21_known.mono _
      | exact LeO.none _
      | refine LeO.ite ?_ ?_
      | refine LeO.bind ?_ (fun _ => ?_)
theorem triremelaw21_ExpandNext.mono : ∀ a0 k, LeO (triremelaw21_ExpandNext.f k a0) (triremelaw21_ExpandNext.f (k + 1) a0) := by
  intro a0 k
  have ih0 := triremelaw21_ExpandNext.mono_l k
  unfold triremelaw21_ExpandNext.f
  repeat' first
      | (with_reducible exact ih0 _ _ _)
      | (with_reducible exact triremelaw21_known.mono _)
      | (with_reducible exact LeO.refl _)
      | (with_reducible exact LeO.none _)
      | (with_reducible refine LeO.ite ?_ ?_)
      | (with_reducible refine LeO.bind ?_ (fun _ => ?_))
      | exact ih0 _ _ _
      | exact triremelaw21_known.mono _
      | exact LeO.none _
      | refine LeO.ite ?_ ?_
      | refine LeO.bind ?_ (fun _ => ?_)
set_option maxHeartbeats 8000000 in
set_option maxRecDepth 100000 in
theorem triremelaw21_ExpandNext.calls (k : Nat) (a0 : Int) (r : Bool) (w : World) (h : triremelaw21_ExpandNext.f k a0 = some r) :
    Calls Try.prog 6 #[.int .i64 a0] w fun e w' => e = .returned (.bool r) ∧ Below w.heap.size w w' := by
  have HB := Aside0.mk (Below.refl w.heap.size w)
  have H : ((expand_Next.f a0).bind fun t211 => (if t211 < 0 then (triremelaw21_ExpandNext.j0 k a0 t211 true) else (if t211 ≥ 2147483648 then (triremelaw21_ExpandNext.j0 k a0 t211 true) else ((expand_Next.f a0).bind fun t212 => (triremelaw21_ExpandNext.j0 k a0 t211 (t212 != t211)))))) = some r := h
  clear h
  replace H := Option.bind_eq_some_iff.mp H
  obtain ⟨t211, A20, H⟩ := H
  replace H : (if t211 < 0 then (triremelaw21_ExpandNext.j0 k a0 t211 true) else (if t211 ≥ 2147483648 then (triremelaw21_ExpandNext.j0 k a0 t211 true) else ((expand_Next.f a0).bind fun t212 => (triremelaw21_ExpandNext.j0 k a0 t211 (t212 != t211))))) = some r := H
  have A2 := Aside0.mk A20
  clear A20
  have HC3 := Aside0.mk H
  clear H
  go_enter Try.func6, Try.ntmps6
  go_upto_region 2 with (first | ((with_reducible refine gate_callee (f := 20) rfl ?_); refine goesL_ (some 5) rfl rfl Try.func20 (by kernel_rfl) rfl #[.int .i64 a0] rfl (by (try simp only [List.map_toArray, List.map_cons, List.map_nil]); first | done | rfl | (simp only [List.length_drop, List.length_take]; rfl)) ?_; (with_reducible refine (expand_Next.calls a0 t211 _ A2.out).mono ?_); rintro e w' ⟨rfl, ⟨nd, rfl⟩⟩; refine ⟨_, rfl, ?_⟩))
  (try simp only [Act.put, List.setIfInBounds_toArray, List.set_cons_zero, List.set_cons_succ])
  go_cut [17] (fun v17 wc => ∃ (kq : Nat) (x17_2 : Bool), v17 = .bool x17_2 ∧ Aside0 (triremelaw21_ExpandNext.j0 kq a0 t211 x17_2 = some r) ∧ Aside0 (kq ≤ k) ∧ Aside0 (Below w.heap.size w wc))
  case first =>
    have H := HC3.out
    clear HC3
    by_cases c4 : t211 < 0
    · rw [if_pos c4] at H
      have c4b0 : decide (t211 < 0) = true := decide_eq_true c4
      clear c4
      (first | rw [c4b0] | (simp only [i64_w, i32_w]; rw [c4b0]) | skip)
      have H' := Aside0.mk H
      clear H
      go_wp2
      go_meet
      case rel => exact ⟨_, (true), (by first | rfl | (simp; done) | (simp [*]; done)), H', ⟨by first | omega | exact Nat.le_refl _⟩, ⟨by repeat (first | (with_reducible first | exact HB.out | apply below_alloc | apply pw_below_drewN | apply below_drew1) | exact HB.out)⟩⟩
    · rw [if_neg c4] at H
      have c4b0 : decide (t211 < 0) = false := decide_eq_false c4
      clear c4
      (first | rw [c4b0] | (simp only [i64_w, i32_w]; rw [c4b0]) | skip)
      by_cases c5 : t211 ≥ 2147483648
      · rw [if_pos c5] at H
        have c5b0 : decide (2147483648 ≤ t211) = true := decide_eq_true c5
        clear c5
        have H' := Aside0.mk H
        clear H
        go_wp2
        go_meet
        case rel => exact ⟨_, (true), (by first | rfl | (simp; done) | (simp [*]; done)), H', ⟨by first | omega | exact Nat.le_refl _⟩, ⟨by repeat (first | (with_reducible first | exact HB.out | apply below_alloc | apply pw_below_drewN | apply below_drew1) | exact HB.out)⟩⟩
      · rw [if_neg c5] at H
        have c5b0 : decide (2147483648 ≤ t211) = false := decide_eq_false c5
        clear c5
        replace H := Option.bind_eq_some_iff.mp H
        obtain ⟨t212, A60, H⟩ := H
        replace H : (triremelaw21_ExpandNext.j0 k a0 t211 (t212 != t211)) = some r := H
        have A6 := Aside0.mk A60
        clear A60
        have H' := Aside0.mk H
        clear H
        go_wp2_with (first | (go_at_call 20; (with_reducible refine (expand_Next.calls a0 t212 _ A6.out).mono ?_); rintro e w' ⟨rfl, ⟨nd, rfl⟩⟩))
        go_meet
        case rel => exact ⟨_, ((t212 != t211)), (by first | rfl | (simp; done) | (simp [*]; done)), H', ⟨by first | omega | exact Nat.le_refl _⟩, ⟨by repeat (first | (with_reducible first | exact HB.out | apply below_alloc | apply pw_below_drewN | apply below_drew1) | exact HB.out)⟩⟩
  case rest =>
    clear HC3
    try clear c2
    try clear p2
    try clear c4
    try clear c4b0
    try clear c5
    try clear c5b0
    try clear c6
    obtain ⟨kq, x17_2, rfl, HA, HJ2, HB⟩ := hcut
    cases kq with
    | zero => exact absurd HA.out (by simp [triremelaw21_ExpandNext.j0])
    | succ kj2 =>
      have H := HA.out
      clear HA
      simp only [triremelaw21_ExpandNext.j0] at H
      by_cases c7 : x17_2 = true
      · subst c7
        have H1 : (some false) = some r := by rw [if_pos rfl] at H; exact H
        clear H
        have H := H1
        clear H1
        obtain rfl := Option.some.inj H
        go_wp2
        go_ret
        exact ⟨by first | rfl | (simp [errW_none, errW_some] <;> rfl) | (simp [*, errW_none, errW_some] <;> rfl), by repeat (first | (with_reducible first | exact HB.out | apply below_alloc | apply pw_below_drewN | apply below_drew1) | exact HB.out)⟩
      · replace c7 := Bool.eq_false_iff.mpr c7
        subst c7
        have H1 : (if a0 < 0 then ((triremelaw21_known.f kj2).bind fun t213 => (some t213)) else (if a0 ≥ 2147483647 then ((triremelaw21_known.f kj2).bind fun t214 => (some t214)) else ((expand_Next.f (wrap64 (a0 + 1))).bind fun t215 => (if t215 = t211 then (some false) else ((triremelaw21_known.f kj2).bind fun t216 => (some t216)))))) = some r := by rw [if_neg (show ¬ (false = true) by decide)] at H; exact H
        clear H
        have H := H1
        clear H1
        by_cases c8 : a0 < 0
        · rw [if_pos c8] at H
          have c8b0 : decide (a0 < 0) = true := decide_eq_true c8
          clear c8
          replace H := Option.bind_eq_some_iff.mp H
          obtain ⟨t213, A90, H⟩ := H
          replace H : (some t213) = some r := H
          have A9 := Aside0.mk A90
          clear A90
          obtain rfl := Option.some.inj H
          go_wp2_with (first | (go_at_call 15; (with_reducible refine (triremelaw21_known.calls kj2  t213 _ A9.out).mono ?_); rintro e w10 ⟨rfl, hb⟩; have n0_ := Aside0.mk (below_step (by repeat (first | (with_reducible first | exact HB.out | apply below_alloc | apply pw_below_drewN | apply below_drew1) | exact HB.out)) hb); clear HB; have HB := n0_; clear n0_; (try clear hb); (try clear hb2); (try clear hk); (try clear hi)))
          go_ret
          exact ⟨by first | rfl | (simp [errW_none, errW_some] <;> rfl) | (simp [*, errW_none, errW_some] <;> rfl), by repeat (first | (with_reducible first | exact HB.out | apply below_alloc | apply pw_below_drewN | apply below_drew1) | exact HB.out)⟩
        · rw [if_neg c8] at H
          have c8b0 : decide (a0 < 0) = false := decide_eq_false c8
          clear c8
          by_cases c11 : a0 ≥ 2147483647
          · rw [if_pos c11] at H
            have c11b0 : decide (2147483647 ≤ a0) = true := decide_eq_true c11
            clear c11
            replace H := Option.bind_eq_some_iff.mp H
            obtain ⟨t214, A120, H⟩ := H
            replace H : (some t214) = some r := H
            have A12 := Aside0.mk A120
            clear A120
            obtain rfl := Option.some.inj H
            go_wp2_with (first | (go_at_call 15; (with_reducible refine (triremelaw21_known.calls kj2  t214 _ A12.out).mono ?_); rintro e w13 ⟨rfl, hb⟩; have n0_ := Aside0.mk (below_step (by repeat (first | (with_reducible first | exact HB.out | apply below_alloc | apply pw_below_drewN | apply below_drew1) | exact HB.out)) hb); clear HB; have HB := n0_; clear n0_; (try clear hb); (try clear hb2); (try clear hk); (try clear hi)))
            go_ret
            exact ⟨by first | rfl | (simp [errW_none, errW_some] <;> rfl) | (simp [*, errW_none, errW_some] <;> rfl), by repeat (first | (with_reducible first | exact HB.out | apply below_alloc | apply pw_below_drewN | apply below_drew1) | exact HB.out)⟩
          · rw [if_neg c11] at H
            have c11b0 : decide (2147483647 ≤ a0) = false := decide_eq_false c11
            clear c11
            replace H := Option.bind_eq_some_iff.mp H
            obtain ⟨t215, A140, H⟩ := H
            replace H : (if t215 = t211 then (some false) else ((triremelaw21_known.f kj2).bind fun t216 => (some t216))) = some r := H
            have A14 := Aside0.mk A140
            clear A140
            by_cases c15 : t215 = t211
            · rw [if_pos c15] at H
              have c15b0 : (t215 == t211) = true := beq_iff_eq.mpr c15
              have c15b1 : (t215 != t211) = false := bne_eq_false_iff_eq.mpr c15
              clear c15
              obtain rfl := Option.some.inj H
              go_wp2_with (first | (go_at_call 20; (with_reducible refine (expand_Next.calls (wrap64 (a0 + 1)) t215 _ A14.out).mono ?_); rintro e w' ⟨rfl, ⟨nd, rfl⟩⟩))
              go_ret
              exact ⟨by first | rfl | (simp [errW_none, errW_some] <;> rfl) | (simp [*, errW_none, errW_some] <;> rfl), by repeat (first | (with_reducible first | exact HB.out | apply below_alloc | apply pw_below_drewN | apply below_drew1) | exact HB.out)⟩
            · rw [if_neg c15] at H
              have c15b0 : (t215 == t211) = false := beq_eq_false_iff_ne.mpr c15
              have c15b1 : (t215 != t211) = true := bne_iff_ne.mpr c15
              replace H := Option.bind_eq_some_iff.mp H
              obtain ⟨t216, A160, H⟩ := H
              replace H : (some t216) = some r := H
              have A16 := Aside0.mk A160
              clear A160
              obtain rfl := Option.some.inj H
              go_wp2_with (first | (go_at_call 20; (with_reducible refine (expand_Next.calls (wrap64 (a0 + 1)) t215 _ A14.out).mono ?_); rintro e w' ⟨rfl, ⟨nd, rfl⟩⟩) | (go_at_call 15; (with_reducible refine (triremelaw21_known.calls kj2  t216 _ A16.out).mono ?_); rintro e w17 ⟨rfl, hb⟩; have n0_ := Aside0.mk (below_step (by repeat (first | (with_reducible first | exact HB.out | apply below_alloc | apply pw_below_drewN | apply below_drew1) | exact HB.out)) hb); clear HB; have HB := n0_; clear n0_; (try clear hb); (try clear hb2); (try clear hk); (try clear hi)))
              go_ret
              exact ⟨by first | rfl | (simp [errW_none, errW_some] <;> rfl) | (simp [*, errW_none, errW_some] <;> rfl), by repeat (first | (with_reducible first | exact HB.out | apply below_alloc | apply pw_below_drewN | apply below_drew1) | exact HB.out)⟩

/-- THE ONE PURE STATEMENT of triremelaw21_ExpandNext: yours. -/
def triremelaw21_ExpandNext.Pure : Prop := ∀ (x0 : Int), (Lit.int .i64 x0).wf = true → ∃ k, triremelaw21_ExpandNext.f k x0 = some true
theorem triremelaw21_ExpandNext.walk (P : triremelaw21_ExpandNext.Pure) (x0 : Int) (w : World) (hb0 : (Lit.int .i64 x0).wf = true) :
    Calls Try.prog 6 #[.int .i64 x0] w fun e w' => e = .returned (.bool true) ∧ Below w.heap.size w w' := by
  obtain ⟨k, h⟩ := P x0 hb0
  refine (triremelaw21_ExpandNext.calls k x0 true w  h).mono ?_
  rintro e w' ⟨rfl, hd⟩
  exact ⟨rfl, hd⟩

end Go.Proofs.Ytplgkdfmpbkfpaa.HEx
