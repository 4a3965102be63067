/- HealthParts: what the law computes is true. -/
import Derived.Test.YtfifgcaielmbiaaHeaBHt
namespace Go.Proofs.Ytfifgcaielmbiaa.Ht
open Go Go.VI
set_option linter.unusedVariables false
set_option linter.unusedSimpArgs false
set_option maxRecDepth 100000

def pCount (x : Inst) : Bool := decide (x.2.2.1 = 1) || (decide (x.2.2.1 = 2) || decide (x.2.2.1 = 4))
theorem parts (d : Int) : ∀ l : List Inst, (l.filter (pLate d)).length + (l.filter (pComing d)).length = l.countP pCount
  | [] => rfl
  | x :: l => by
    have ih := parts d l
    have h := coming_not d x
    rw [List.filter_cons, List.filter_cons, List.countP_cons, ← ih]
    unfold pCount
    by_cases h1 : x.2.2.1 = 1
    · by_cases h2 : pLate d x = true
      · rw [h, h2, h1]; simp; omega
      · have h2 : pLate d x = false := by simpa using h2
        rw [h, h2, h1]; simp; omega
    · by_cases h3 : x.2.2.1 = 2
      · by_cases h2 : pLate d x = true
        · rw [h, h2, h3]; simp; omega
        · have h2 : pLate d x = false := by simpa using h2
          rw [h, h2, h3]; simp; omega
      · by_cases h4 : x.2.2.1 = 4
        · have h2 : pLate d x = true := by unfold pLate; simp [h4]
          rw [h, h2, h4]; simp; omega
        · have h2 : pLate d x = false := by unfold pLate; simp [h1, h3, h4]
          rw [h, h2]; simp [h1, h3, h4]
theorem late_less {d e : Int} (h : d ≤ e) (l : List Inst) : (l.filter (pLate d)).length ≤ (l.filter (pLate e)).length := by
  rw [← List.countP_eq_length_filter, ← List.countP_eq_length_filter]
  refine List.countP_mono_left fun x _ hx => ?_
  unfold pLate at *
  simp only [Bool.or_eq_true, Bool.and_eq_true, decide_eq_true_eq] at *
  omega

theorem pureHealthParts (x : List Mach × List Inst × Int × Unit) (hw : Ty.wf (.slice tyMach) x.1 ∧ Ty.wf (.slice (.agg (.pair .str (.pair .str (.pair (.int .i64) (.pair (.int .i64) (.int .i64))))))) x.2.1 ∧ Ty.wf (.int .u16) x.2.2.1 ∧ True) : ∃ N, G_law29_HealthParts N x = some (true, ()) := by
  obtain ⟨ms, l, now, ⟨⟩⟩ := x
  obtain ⟨⟨_, hms⟩, _, hn, _⟩ := hw
  have hn : 0 ≤ now ∧ now ≤ 65535 := by
    have hn : (Lit.int .u16 now).wf = true := hn
    simp [Lit.wf, IntKind.min, IntKind.max, IntKind.signed, IntKind.bits] at hn
    omega
  have hms := fun m hm => okM_of (hms m hm)
  refine ⟨281474976710656 + 300, ?_⟩
  have hk := known_is 281474976710656
  have hN := big
  generalize 281474976710656 + 300 = N at *
  obtain ⟨⟨b1, ⟨⟩⟩, e1, k1⟩ := Light09_tot N hN ms hms
  obtain ⟨⟨b2, ⟨⟩⟩, e2, k2⟩ := light29_tot N hN l
  unfold G_law29_HealthParts S_law29_HealthParts
  simp only [e1, e2, Option.bind_some, hk]
  cases b1
  · rfl
  · cases b2
    · rfl
    · have hm := k1 rfl
      have hl := k2 rfl
      have hN' := hN
      unfold Big at hN'
      have w1 : IntKind.i64.wrap now = now := w64 (by omega) (by omega)
      have w2 : IntKind.i64.wrap ((ms.length : Int) + 5) = (ms.length : Int) + 5 := w64 (by omega) (by omega)
      have w3 : IntKind.i64.wrap (now - (ms.length : Int)) = now - (ms.length : Int) := w64 (by omega) (by omega)
      have w4 : IntKind.i64.wrap (now - ((ms.length : Int) + 5)) = now - ((ms.length : Int) + 5) := w64 (by omega) (by omega)
      simp only [w1, w2, w3, w4, health_Late_is N hN l hl, health_Coming_is N hN l hl, Option.bind_some, Bool.not_true, br_false]
      generalize hA : l.filter (pLate (now - (ms.length : Int))) = A
      generalize hB : l.filter (pComing (now - (ms.length : Int))) = B
      generalize hC : l.filter (pLate (now - ((ms.length : Int) + 5))) = C
      have loop9 : ∀ m (i : Nat) (x : (List Mach × List Inst × List Inst × List Inst × List Inst × Int × Int × Unit) × Unit), i ≤ l.length → x = ((ms, l, A, B, C, (((l.take i).countP pCount : Nat) : Int), (i : Int), ()), ()) → l.length - i < m →
          Tot (g_law29_HealthParts_9 N m x) fun o => o = .inl ((ms, A, B, C, ((l.countP pCount : Nat) : Int), ()), ()) := by
        refine Tot.range l.length fun m i x hx hi rec => ?_
        subst hx
        rw [g_law29_HealthParts_9_succ]
        unfold s_law29_HealthParts_9
        have hcl := count_le (p := pCount) (l := l) (i := i)
        have e : IntKind.i64.wrap ((i : Int) + 1) = ((i + 1 : Nat) : Int) := by rw [w64 (by omega) (by omega)]; omega
        have e2 : IntKind.i64.wrap ((((l.take i).countP pCount : Nat) : Int) + 1) = (((l.take i).countP pCount + 1 : Nat) : Int) := by rw [w64 (by omega) (by omega)]; omega
        dsimp only
        rw [e, e2]
        refine Tot.brD (fun hc => ?_) fun hc => ?_
        · have hlt : i < l.length := by omega
          have hv : l[i]? = some l[i] := List.getElem?_eq_getElem hlt
          have hf := count_succ (p := pCount) hv
          have h0 : decide ((0 : Int) ≤ (i : Int)) = true := decide_eq_true (by omega)
          simp only [h0, br_true, Int.toNat_natCast, hv, Option.bind_some]
          have yes : pCount l[i] = true → Tot (g_law29_HealthParts_9 N m ((ms, l, A, B, C, (((l.take i).countP pCount + 1 : Nat) : Int), ((i + 1 : Nat) : Int), ()), ())) fun o => o = .inl ((ms, A, B, C, ((l.countP pCount : Nat) : Int), ()), ()) := fun h => rec (i + 1) _ (by omega) (by omega) (by rw [hf, if_pos h])
          have no : ¬ pCount l[i] = true → Tot (g_law29_HealthParts_9 N m ((ms, l, A, B, C, (((l.take i).countP pCount : Nat) : Int), ((i + 1 : Nat) : Int), ()), ())) fun o => o = .inl ((ms, A, B, C, ((l.countP pCount : Nat) : Int), ()), ()) := fun h => rec (i + 1) _ (by omega) (by omega) (by rw [hf, if_neg h]; rfl)
          refine Tot.brD (fun h1 => yes (by unfold pCount; simp [h1])) fun h1 => Tot.brD (fun h2 => yes (by unfold pCount; simp [h2])) fun h2 => Tot.brD (fun h3 => yes (by unfold pCount; simp [h3])) fun h3 => no (by unfold pCount; simp [h1, h2, h3])
        · have : i = l.length := by omega
          subst this
          exact Tot.some (by rw [List.take_length])
      have loop15 : ∀ (K : Int) m (i : Nat) (x : (List Mach × List Inst × List Inst × List Inst × Int × Int × Int × Unit) × Unit), i ≤ ms.length → x = ((ms, A, B, C, K, (((ms.take i).countP pBad : Nat) : Int), (i : Int), ()), ()) → ms.length - i < m →
          Tot (g_law29_HealthParts_15 N m x) fun o => o = .inl ((ms, A, B, C, K, ((ms.countP pBad : Nat) : Int), ()), ()) := by
        intro K
        refine Tot.range ms.length fun m i x hx hi rec => ?_
        subst hx
        rw [g_law29_HealthParts_15_succ]
        unfold s_law29_HealthParts_15
        have hcl := count_le (p := pBad) (l := ms) (i := i)
        have e : IntKind.i64.wrap ((i : Int) + 1) = ((i + 1 : Nat) : Int) := by rw [w64 (by omega) (by omega)]; omega
        have e2 : IntKind.i64.wrap ((((ms.take i).countP pBad : Nat) : Int) + 1) = (((ms.take i).countP pBad + 1 : Nat) : Int) := by rw [w64 (by omega) (by omega)]; omega
        dsimp only
        rw [e, e2]
        refine Tot.brD (fun hc => ?_) fun hc => ?_
        · have hlt : i < ms.length := by omega
          have hv : ms[i]? = some ms[i] := List.getElem?_eq_getElem hlt
          have hf := count_succ (p := pBad) hv
          have h0 : decide ((0 : Int) ≤ (i : Int)) = true := decide_eq_true (by omega)
          simp only [h0, br_true, Int.toNat_natCast, hv, Option.bind_some]
          refine Tot.br (fun h1 => Tot.br (fun h2 => ?_) fun h2 => ?_) fun h1 => ?_
          · have h1 : (!decide (ms[i].2.1 = nameless)) = true := h1
            refine rec (i + 1) _ (by omega) (by omega) ?_
            rw [hf, if_pos (show pBad ms[i] = true by unfold pBad; rw [h1, h2]; rfl)]
          · have h1 : (!decide (ms[i].2.1 = nameless)) = true := h1
            refine rec (i + 1) _ (by omega) (by omega) ?_
            rw [hf, if_neg (show ¬ pBad ms[i] = true by unfold pBad; rw [h1, h2]; decide)]
            rfl
          · have h1 : (!decide (ms[i].2.1 = nameless)) = false := h1
            refine rec (i + 1) _ (by omega) (by omega) ?_
            rw [hf, if_neg (show ¬ pBad ms[i] = true by unfold pBad; rw [h1, Bool.false_and]; decide)]
            rfl
        · have : i = ms.length := by omega
          subst this
          exact Tot.some (by rw [List.take_length])
      obtain ⟨o, eo, rfl⟩ := loop9 N 0 _ (by omega) rfl (by omega)
      have eo : g_law29_HealthParts_9 N N ((ms, l, A, B, C, 0, 0, ()), ()) = _ := eo
      obtain ⟨o, eo2, rfl⟩ := loop15 ((l.countP pCount : Nat) : Int) N 0 _ (by omega) rfl (by omega)
      have eo2 : g_law29_HealthParts_15 N N ((ms, A, B, C, ((l.countP pCount : Nat) : Int), 0, 0, ()), ()) = _ := eo2
      have s1 := health_Share_is N hN ms (by omega)
      have hp := parts (now - (ms.length : Int)) l
      have hq := late_less (d := now - ((ms.length : Int) + 5)) (e := now - (ms.length : Int)) (by omega) l
      rw [hA, hB] at hp
      rw [hA, hC] at hq
      have hc : l.countP pCount ≤ l.length := List.countP_le_length
      have w5 : IntKind.i64.wrap ((A.length : Int) + (B.length : Int)) = ((l.countP pCount : Nat) : Int) := by rw [w64 (by omega) (by omega)]; omega
      have b1 := bad_le ms
      have b2 : ms.countP pAll ≤ ms.length := List.countP_le_length
      have sh : 0 ≤ shareM ms ∧ shareM ms ≤ 1000 ∧ (0 < shareM ms ↔ 0 < ((ms.countP pBad : Nat) : Int)) := by
        unfold shareM
        have b3 : ((ms.countP pBad : Nat) : Int) ≤ ((ms.countP pAll : Nat) : Int) := by omega
        have b4 : 0 ≤ ((ms.countP pBad : Nat) : Int) := by omega
        generalize ((ms.countP pBad : Nat) : Int) = x at *
        have hM : 0 < max (ms.countP pAll : Int) 1 := by omega
        have hx : 0 ≤ x ∧ x ≤ max (ms.countP pAll : Int) 1 ∧ max (ms.countP pAll : Int) 1 ≤ 1000 := by omega
        generalize max (ms.countP pAll : Int) 1 = M at *
        refine ⟨Int.ediv_nonneg (by omega) (by omega), ?_, ?_⟩
        · exact Int.ediv_le_of_le_mul hM (by omega)
        · constructor
          · intro h
            by_cases h' : 0 < x
            · exact h'
            · have : x = 0 := by omega
              subst this
              simp at h
          · intro h
            exact (Int.le_ediv_iff_mul_le hM).2 (by omega)
      have h5 : decide (0 < shareM ms) = decide (0 < ((ms.countP pBad : Nat) : Int)) := by simp only [sh.2.2]
      simp only [eo, eo2, Option.bind_some, Sum.elim_inl, s1, w5, decide_true, br_true, br_dec, if_pos sh.1, if_pos sh.2.1, h5, bEq_beq, beq_self_eq_true, hk]
      repeat rw [if_pos (by omega)]
end Go.Proofs.Ytfifgcaielmbiaa.Ht
