/- Health: shares, and when the statements' guards let in. -/
import Derived.Test.YtfifgcaielmbiaaHeaHt
namespace Go.Proofs.Ytfifgcaielmbiaa.Ht
open Go Go.VI
set_option linter.unusedVariables false
set_option linter.unusedSimpArgs false
set_option maxRecDepth 100000

def shareM (ms : List Mach) : Int := (1000 * (ms.countP pBad : Int)) / max (ms.countP pAll : Int) 1
theorem bad_le (l : List Mach) : l.countP pBad ≤ l.countP pAll := List.countP_mono_left fun x _ h => by
  unfold pBad at h
  unfold pAll
  rw [Bool.and_eq_true] at h
  exact h.1

theorem health_Share_is (N : Nat) (hN : Big N) (l : List Mach) (hl : l.length ≤ 140737488355328) : G_health_Share N (l, ()) = some (shareM l, ()) := by
  unfold Big at hN
  have loop : ∀ m (i : Nat) (x : (List Mach × Int × Int × Int × Int × Unit) × Unit), i ≤ l.length → x = ((l, (((l.take i).countP pAll : Nat) : Int), (((l.take i).countP pBad : Nat) : Int), (l.length : Int), (i : Int), ()), ()) → l.length - i < m →
      Tot (g_health_Share_3 N m x) fun o => o = .inl (((l.countP pAll : Int), (l.countP pBad : Int), ()), ()) := by
    refine Tot.range l.length fun m i x hx hi rec => ?_
    subst hx
    rw [g_health_Share_3_succ]
    unfold s_health_Share_3
    have c1 := count_le (p := pAll) (l := l) (i := i)
    have c2 := count_le (p := pBad) (l := l) (i := i)
    have e : IntKind.i64.wrap ((i : Int) + 1) = ((i + 1 : Nat) : Int) := by rw [w64 (by omega) (by omega)]; omega
    have e1 : IntKind.i64.wrap ((((l.take i).countP pAll : Nat) : Int) + 1) = (((l.take i).countP pAll + 1 : Nat) : Int) := by rw [w64 (by omega) (by omega)]; omega
    have e2 : IntKind.i64.wrap ((((l.take i).countP pBad : Nat) : Int) + 1) = (((l.take i).countP pBad + 1 : Nat) : Int) := by rw [w64 (by omega) (by omega)]; omega
    dsimp only
    rw [e, e1, e2]
    refine Tot.brD (fun hc => ?_) fun hc => ?_
    · have hlt : i < l.length := by omega
      have hv : l[i]? = some l[i] := List.getElem?_eq_getElem hlt
      have f1 := count_succ (p := pAll) hv
      have f2 := count_succ (p := pBad) hv
      have h0 : decide ((0 : Int) ≤ (i : Int)) = true := decide_eq_true (by omega)
      simp only [h0, br_true, Int.toNat_natCast, hv, Option.bind_some]
      refine Tot.brD (fun h1 => ?_) fun h1 => Tot.br (fun h2 => ?_) fun h2 => ?_
      · have h1 : l[i].2.1 = nameless := h1
        have a1 : pAll l[i] = false := by unfold pAll; simp only [h1, decide_true, Bool.not_true]
        have a2 : pBad l[i] = false := by unfold pBad; simp only [h1, decide_true, Bool.not_true, Bool.false_and]
        refine rec (i + 1) _ (by omega) (by omega) ?_
        rw [f1, f2, a1, a2]
        rfl
      · have h1 : ¬ l[i].2.1 = nameless := h1
        have a1 : pAll l[i] = true := by unfold pAll; simp only [h1, decide_false, Bool.not_false]
        have a2 : pBad l[i] = true := by unfold pBad; simp only [h1, decide_false, Bool.not_false, Bool.true_and, h2]
        refine rec (i + 1) _ (by omega) (by omega) ?_
        rw [f1, f2, a1, a2]
        rfl
      · have h1 : ¬ l[i].2.1 = nameless := h1
        have a1 : pAll l[i] = true := by unfold pAll; simp only [h1, decide_false, Bool.not_false]
        have a2 : pBad l[i] = false := by unfold pBad; simp only [h1, decide_false, Bool.not_false, Bool.true_and, h2]
        refine rec (i + 1) _ (by omega) (by omega) ?_
        rw [f1, f2, a1, a2]
        rfl
    · have : i = l.length := by omega
      subst this
      exact Tot.some (by rw [List.take_length])
  unfold G_health_Share S_health_Share
  obtain ⟨o, eo, rfl⟩ := loop N 0 _ (by omega) rfl (by omega)
  have eo : g_health_Share_3 N N ((l, 0, 0, (l.length : Int), 0, ()), ()) = _ := eo
  dsimp only
  rw [eo]
  have c1 : l.countP pAll ≤ l.length := List.countP_le_length
  have c2 := bad_le l
  have h1 : ((1000 * (l.countP pBad : Int)).tdiv (max (l.countP pAll : Int) 1)).natAbs ≤ (1000 * (l.countP pBad : Int)).natAbs := by rw [Int.natAbs_tdiv]; exact Nat.div_le_self _ _
  have h2 : ¬ max (l.countP pAll : Int) 1 = 0 := by omega
  have h2' : ¬ List.foldl Max.max (l.countP pAll : Int) [(1 : Int)] = 0 := h2
  simp only [Option.bind_some, Sum.elim_inl]
  rw [br_dec, if_neg h2']
  simp only [List.foldl_cons, List.foldl_nil]
  rw [w64 (x := 1000 * (l.countP pBad : Int)) (by omega) (by omega), w64 (by omega) (by omega), Int.tdiv_eq_ediv_of_nonneg (by omega)]
  rfl

theorem ref29_Share_is (N : Nat) (hN : Big N) (l : List Mach) (hl : l.length ≤ 140737488355328) : G_ref29_Share N (l, ()) = some (shareM l, ()) := by
  unfold Big at hN
  have loop : ∀ m (i : Nat) (x : (List Mach × Int × Int × Int × Unit) × Unit), i ≤ l.length → x = ((l, (((l.take i).countP pAll : Nat) : Int), (((l.take i).countP pBad : Nat) : Int), (i : Int), ()), ()) → l.length - i < m →
      Tot (g_ref29_Share_4 N m x) fun o => o = .inl (((l.countP pAll : Int), (l.countP pBad : Int), ()), ()) := by
    refine Tot.range l.length fun m i x hx hi rec => ?_
    subst hx
    rw [g_ref29_Share_4_succ]
    unfold s_ref29_Share_4
    have c1 := count_le (p := pAll) (l := l) (i := i)
    have c2 := count_le (p := pBad) (l := l) (i := i)
    have e : IntKind.i64.wrap ((i : Int) + 1) = ((i + 1 : Nat) : Int) := by rw [w64 (by omega) (by omega)]; omega
    have e1 : IntKind.i64.wrap ((((l.take i).countP pAll : Nat) : Int) + 1) = (((l.take i).countP pAll + 1 : Nat) : Int) := by rw [w64 (by omega) (by omega)]; omega
    have e2 : IntKind.i64.wrap ((((l.take i).countP pBad : Nat) : Int) + 1) = (((l.take i).countP pBad + 1 : Nat) : Int) := by rw [w64 (by omega) (by omega)]; omega
    dsimp only
    rw [e, e1, e2]
    refine Tot.brD (fun hc => ?_) fun hc => ?_
    · have hlt : i < l.length := by omega
      have hv : l[i]? = some l[i] := List.getElem?_eq_getElem hlt
      have f1 := count_succ (p := pAll) hv
      have f2 := count_succ (p := pBad) hv
      have h0 : decide ((0 : Int) ≤ (i : Int)) = true := decide_eq_true (by omega)
      simp only [h0, br_true, Int.toNat_natCast, hv, Option.bind_some]
      by_cases h1 : l[i].2.1 = nameless
      · have a1 : pAll l[i] = false := by unfold pAll; simp only [h1, decide_true, Bool.not_true]
        have a2 : pBad l[i] = false := by unfold pBad; simp only [h1, decide_true, Bool.not_true, Bool.false_and]
        have h1 : decide (l[i].2.1 = ByteArray.mk (List.toArray [])) = true := decide_eq_true h1
        rw [h1]
        simp only [Bool.not_true, br_false]
        refine rec (i + 1) _ (by omega) (by omega) ?_
        rw [f1, f2, a1, a2]
        rfl
      · have a1 : pAll l[i] = true := by unfold pAll; simp only [h1, decide_false, Bool.not_false]
        have a2 : pBad l[i] = !l[i].2.2.2.2.2 := by unfold pBad; simp only [h1, decide_false, Bool.not_false, Bool.true_and]
        have h1 : decide (l[i].2.1 = ByteArray.mk (List.toArray [])) = false := decide_eq_false h1
        rw [h1]
        simp only [Bool.not_false, br_true]
        refine Tot.br (fun h2 => ?_) fun h2 => ?_
        · refine rec (i + 1) _ (by omega) (by omega) ?_
          rw [f1, f2, a1, a2.trans h2]
          rfl
        · refine rec (i + 1) _ (by omega) (by omega) ?_
          rw [f1, f2, a1, a2.trans h2]
          rfl
    · have : i = l.length := by omega
      subst this
      exact Tot.some (by rw [List.take_length])
  unfold G_ref29_Share S_ref29_Share
  obtain ⟨o, eo, rfl⟩ := loop N 0 _ (by omega) rfl (by omega)
  have eo : g_ref29_Share_4 N N ((l, 0, 0, 0, ()), ()) = _ := eo
  dsimp only
  rw [eo]
  have c1 : l.countP pAll ≤ l.length := List.countP_le_length
  have c2 := bad_le l
  have h1 : ((1000 * (l.countP pBad : Int)).tdiv (l.countP pAll : Int)).natAbs ≤ (1000 * (l.countP pBad : Int)).natAbs := by rw [Int.natAbs_tdiv]; exact Nat.div_le_self _ _
  simp only [Option.bind_some, Sum.elim_inl]
  unfold shareM
  by_cases h : (l.countP pAll : Int) = 0
  · have hb : (l.countP pBad : Int) = 0 := by omega
    rw [h, hb]
    rfl
  · simp only [decide_eq_false h, br_false]
    rw [w64 (x := 1000 * (l.countP pBad : Int)) (by omega) (by omega), w64 (by omega) (by omega), Int.tdiv_eq_ediv_of_nonneg (by omega), show max (l.countP pAll : Int) 1 = (l.countP pAll : Int) from by omega]

theorem light29_tot (N : Nat) (hN : Big N) (l : List Inst) : Tot (G_law29_light N (l, ())) fun v => v.1 = true → l.length ≤ 60 := by
  unfold Big at hN
  unfold G_law29_light S_law29_light
  refine Tot.brD (fun _ => Tot.some fun h => by cases h) fun hl => ?_
  dsimp only at hl ⊢
  have loop : ∀ m (i : Nat) (x : (List Inst × Int × Unit) × Unit), i ≤ l.length → x = ((l, (i : Int), ()), ()) → l.length - i < m → Tot (g_law29_light_4 N m x) fun _ => True := by
    refine Tot.range l.length fun m i x ha hi rec => ?_
    subst ha
    rw [g_law29_light_4_succ]
    unfold s_law29_light_4
    have e : IntKind.i64.wrap ((i : Int) + 1) = ((i + 1 : Nat) : Int) := by rw [w64 (by omega) (by omega)]; omega
    simp only [e]
    repeat' first
      | exact Tot.some trivial
      | exact rec (i + 1) _ (by omega) (by omega) rfl
      | (refine Tot.idx (by omega) fun v hv => ?_)
      | (refine Tot.brD (fun hc => ?_) (fun hc => ?_))
      | (exfalso; omega)
  refine Tot.bind (loop N 0 _ (by omega) rfl (by omega)) fun v _ => ?_
  exact Tot.elim (fun a _ => Tot.some fun _ => by omega) fun b _ => Tot.some fun _ => by omega

theorem Light09_tot (N : Nat) (hN : Big N) (ms : List Mach) (hm : ∀ m ∈ ms, okM m) : Tot (G_ref09_Light N (ms, [], ())) fun v => v.1 = true → ms.length ≤ 20 := by
  have hN' := hN
  unfold Big at hN'
  unfold G_ref09_Light S_ref09_Light
  refine Tot.brD (fun _ => Tot.some fun h => by cases h) fun hl => ?_
  refine Tot.brD (fun _ => Tot.some fun h => by cases h) fun _ => ?_
  dsimp only at hl ⊢
  have loop4 : ∀ m (i : Nat) (x : (List Mach × List _ × Int × Unit) × Unit), i ≤ ms.length → x = ((ms, [], (i : Int), ()), ()) → ms.length - i < m → Tot (g_ref09_Light_4 N m x) fun o => ∀ y, o = .inl y → y = (([], ()), ()) := by
    refine Tot.range ms.length fun m i x ha hi rec => ?_
    subst ha
    rw [g_ref09_Light_4_succ]
    unfold s_ref09_Light_4
    have e : IntKind.i64.wrap ((i : Int) + 1) = ((i + 1 : Nat) : Int) := by rw [w64 (by omega) (by omega)]; omega
    simp only [e]
    repeat' first
      | exact Tot.some fun y hy => by first | (cases hy; done) | (cases hy; rfl)
      | exact rec (i + 1) _ (by omega) (by omega) rfl
      | (refine Tot.idx (by omega) fun v hv => ?_)
      | (refine Tot.bind (LightMachine_tot N hN _ (hm _ (List.mem_of_getElem? (by assumption)))) fun v _ => ?_)
      | (refine Tot.brD (fun hc => ?_) (fun hc => ?_))
      | (refine Tot.br (fun hc => ?_) (fun hc => ?_))
      | (exfalso; omega)
  refine Tot.bind (loop4 N 0 _ (by omega) rfl (by omega)) fun v hv => ?_
  refine Tot.elim (fun a ha => ?_) fun b _ => Tot.some fun _ => by omega
  rw [hv a ha]
  obtain ⟨k, rfl⟩ : ∃ k, N = k + 1 := ⟨N - 1, by omega⟩
  rw [g_ref09_Light_9_succ]
  unfold s_ref09_Light_9
  dsimp only [List.length_nil]
  simp only [Int.ofNat_eq_natCast, Int.natCast_zero, Int.lt_irrefl, decide_false, br_false, Option.bind_some, Sum.elim_inl]
  exact Tot.some fun _ => by omega

theorem known_is (m : Nat) : G_law29_known (m + 300) () = some (true, ()) := by kernel_rfl
end Go.Proofs.Ytfifgcaielmbiaa.Ht
