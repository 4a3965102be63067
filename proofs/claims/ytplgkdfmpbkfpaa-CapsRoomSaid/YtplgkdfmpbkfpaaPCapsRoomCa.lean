/- CapsRoom: what the law computes is true. -/
import Derived.Test.YtplgkdfmpbkfpaaCapsLawCa
namespace Go.Proofs.Ytplgkdfmpbkfpaa.Ca
open Go Go.VI
set_option linter.unusedVariables false
set_option maxRecDepth 100000

theorem big : Big (281474976710656 + 300) := by unfold Big; omega
theorem pureCapsRoom (x : Cap × List Mach × Mach × Unit) (hw : Ty.wf (.agg (.pair (.int .i64) (.pair (.int .i64) (.int .i64)))) x.1 ∧ Ty.wf (.slice tyMach) x.2.1 ∧ Ty.wf tyMach x.2.2.1 ∧ True) : ∃ N, G_law23_CapsRoom N x = some (true, ()) := by
  obtain ⟨c, ms, like, ⟨⟩⟩ := x
  obtain ⟨_, ⟨_, hms⟩, hl, _⟩ := hw
  have hms := fun m hm => okM_of (hms m hm)
  have hl := okM_of hl
  refine ⟨281474976710656 + 300, ?_⟩
  have hk := known_is 281474976710656
  have hN := big
  generalize 281474976710656 + 300 = N at *
  have hN' := hN
  unfold Big at hN'
  obtain ⟨⟨b, ⟨⟩⟩, hr, hb⟩ := right_tot N hN c ms like hms hl
  unfold G_law23_CapsRoom S_law23_CapsRoom
  simp only [hr, Option.bind_some]
  cases b
  · simp only [Bool.not_false, br_true, hk, Option.bind_some]
  · obtain ⟨h1, h2, h3, h4⟩ := hb rfl
    obtain ⟨⟨n, ⟨⟩⟩, e, q1, q2, q3⟩ := caps_Room_is N hN c h2 ms h3 (by omega) like h4
    dsimp only at q1 q2 q3
    obtain ⟨n, rfl⟩ := Int.eq_ofNat_of_zero_le q1
    have loop : ∀ m (i : Nat) (x : (List Mach × Int × Int × Unit) × (Cap × Unit) × (Mach × Unit) × List Mach × Unit), i ≤ n → x = ((ms, (n : Int), (i : Int), ()), (c, ()), (like, ()), ms ++ List.replicate i like, ()) → n - i < m →
        Tot (g_law23_CapsRoom_8 N m x) fun o => o = .inl ((ms, ()), (c, ()), (like, ()), ms ++ List.replicate n like, ()) := by
      refine Tot.range n fun m i x ha hi rec => ?_
      subst ha
      rw [g_law23_CapsRoom_8_succ]
      unfold s_law23_CapsRoom_8
      have e : IntKind.i64.wrap ((i : Int) + 1) = ((i + 1 : Nat) : Int) := by rw [w64 (by omega) (by omega)]; omega
      have el' : (ms ++ List.replicate i like) ++ [(like.1, like.2.1, like.2.2.1, like.2.2.2.1, like.2.2.2.2.1, like.2.2.2.2.2)] = ms ++ List.replicate (i + 1) like := by
        show (ms ++ List.replicate i like) ++ [like] = _
        rw [List.append_assoc, ← List.replicate_succ']
      dsimp only
      rw [e, el', List.length_append, List.length_replicate]
      refine Tot.brD (fun h => ?_) fun h => ?_
      · exact Tot.brN (fun _ => rec (i + 1) _ (by omega) (by omega) rfl) fun h => absurd (by unfold maxElems; omega) h
      · have : i = n := by omega
        subst this
        exact Tot.some rfl
    obtain ⟨o, eo, rfl⟩ := loop N 0 _ (by omega) rfl (by omega)
    rw [List.replicate_zero, List.append_nil] at eo
    have eo : g_law23_CapsRoom_8 N N ((ms, (n : Int), 0, ()), (c, ()), (like, ()), [] ++ ms, ()) = _ := eo
    have hb : Nat.ble (0 + ms.length) maxElems = true := Nat.ble_eq_true_of_le (by unfold maxElems; omega)
    have n1 : ¬ ((n : Int) < 0) := by omega
    have n2 : ¬ ((200 : Int) < n) := by omega
    have ll : (ms ++ List.replicate n like).length = ms.length + n := by rw [List.length_append, List.length_replicate]
    have n3 : ¬ ((200 : Int) < ((ms.length + n : Nat) : Int)) := by omega
    have hb2 : Nat.ble (ms.length + n + 1) maxElems = true := Nat.ble_eq_true_of_le (by unfold maxElems; omega)
    have el : (ms ++ List.replicate n like) ++ [like] = ms ++ List.replicate (n + 1) like := by rw [List.append_assoc, ← List.replicate_succ']
    have el' : (ms ++ List.replicate n like) ++ [(like.1, like.2.1, like.2.2.1, like.2.2.2.1, like.2.2.2.2.1, like.2.2.2.2.2)] = ms ++ List.replicate (n + 1) like := el
    have ll' : (ms ++ List.replicate (n + 1) like).length = ms.length + (n + 1) := by rw [List.length_append, List.length_replicate]
    have w1 := caps_Within_is N hN c h2 ms h3 (by omega)
    have w2 := caps_Within_is N hN c h2 _ (okMs_more h3 h4 n) (by rw [ll]; omega)
    have w3 := caps_Within_is N hN c h2 _ (okMs_more h3 h4 (n + 1)) (by rw [ll']; omega)
    rw [ll, cpuS_more, memS_more] at w2
    rw [ll', cpuS_more, memS_more] at w3
    have q := q3 n
    have q' := q3 (n + 1) (by omega)
    unfold More at q q'
    simp only [Bool.not_true, br_false, e, br_dec, if_neg n1, if_neg n2, hb, br_true, Option.bind_some, eo, Sum.elim_inl, w1, w2, ll, if_neg n3, hb2, el', w3, hk, ll']
    have hq' : ¬ (ms.length + (n + 1) ≤ 200 ∧ W c ((ms.length : Int) + ((n + 1 : Nat) : Int)) (cpuS ms + ((n + 1 : Nat) : Int) * like.2.2.1.1) (memS ms + ((n + 1 : Nat) : Int) * like.2.2.1.2.1)) := fun h => by
      have := q'.1 h
      omega
    have hw1 : W c (ms.length : Int) (cpuS ms) (memS ms) → W c ((ms.length + n : Nat) : Int) (cpuS ms + (n : Int) * like.2.2.1.1) (memS ms + (n : Int) * like.2.2.1.2.1) := fun h => by
      rcases Nat.eq_zero_or_pos n with h0 | h0
      · subst h0; simpa using h
      · have := ((q h0).2 (by omega)).2
        simpa using this
    by_cases a0 : W c (ms.length : Int) (cpuS ms) (memS ms)
    · have a1 := hw1 a0
      by_cases a2 : (200 : Int) < ((ms.length + (n + 1) : Nat) : Int)
      · simp only [if_pos a0, decide_eq_true a1, if_pos a2, br_true, br_false, Bool.not_true]
      · have a3 : ¬ W c ((ms.length + (n + 1) : Nat) : Int) (cpuS ms + ((n + 1 : Nat) : Int) * like.2.2.1.1) (memS ms + ((n + 1 : Nat) : Int) * like.2.2.1.2.1) := fun h => hq' ⟨by omega, by simpa using h⟩
        simp only [if_pos a0, decide_eq_true a1, decide_eq_false a3, if_neg a2]
        rfl
    · by_cases a2 : (200 : Int) < ((ms.length + (n + 1) : Nat) : Int)
      · simp only [if_neg a0, if_pos a2, br_true, br_false, Bool.not_true]
      · have a3 : ¬ W c ((ms.length + (n + 1) : Nat) : Int) (cpuS ms + ((n + 1 : Nat) : Int) * like.2.2.1.1) (memS ms + ((n + 1 : Nat) : Int) * like.2.2.1.2.1) := fun h => hq' ⟨by omega, by simpa using h⟩
        simp only [if_neg a0, decide_eq_false a3, if_neg a2]
        rfl
end Go.Proofs.Ytplgkdfmpbkfpaa.Ca
