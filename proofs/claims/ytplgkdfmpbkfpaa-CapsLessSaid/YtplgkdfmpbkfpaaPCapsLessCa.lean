/- CapsLess: what the law computes is true. -/
import Derived.Test.YtplgkdfmpbkfpaaCapsLawCa
namespace Go.Proofs.Ytplgkdfmpbkfpaa.Ca
open Go Go.VI
set_option linter.unusedVariables false
set_option maxRecDepth 100000

theorem big : Big (281474976710656 + 300) := by unfold Big; omega
theorem room (N : Nat) (hN : Big N) (c : Cap) (hc : okC c) (ms : List Mach) (h : okMs ms) (hl : ms.length ≤ 200) (like : Mach) (hk : okR like.2.2.1) :
    ∃ n : Nat, G_caps_Room N (c, ms, like, ()) = some ((n : Int), ()) ∧ (n : Int) ≤ 200 - (ms.length : Int) ∧ ∀ k : Nat, 1 ≤ k → (More c ms like k ↔ k ≤ n) := by
  obtain ⟨⟨n, ⟨⟩⟩, e, q1, q2, q3⟩ := caps_Room_is N hN c hc ms h hl like hk
  dsimp only at q1 q2 q3
  obtain ⟨n, rfl⟩ := Int.eq_ofNat_of_zero_le q1
  exact ⟨n, e, q2, fun k hk => (q3 k hk).trans (by omega)⟩
theorem room_le {c d : Cap} {ms : List Mach} {like : Mach} {n m : Nat} (h : ∀ k, More c ms like k → More d ms like k) (hn : ∀ k : Nat, 1 ≤ k → (More c ms like k ↔ k ≤ n)) (hm : ∀ k : Nat, 1 ≤ k → (More d ms like k ↔ k ≤ m)) : n ≤ m := by
  rcases Nat.eq_zero_or_pos n with h0 | h0
  · omega
  · exact (hm n h0).1 (h n ((hn n h0).2 (Nat.le_refl _)))

theorem pureCapsLess (x : Cap × List Mach × Mach × Unit) (hw : Ty.wf (.agg (.pair (.int .i64) (.pair (.int .i64) (.int .i64)))) x.1 ∧ Ty.wf (.slice tyMach) x.2.1 ∧ Ty.wf tyMach x.2.2.1 ∧ True) : ∃ N, G_law23_CapsLess N x = some (true, ()) := by
  obtain ⟨c, ms, like, ⟨⟩⟩ := x
  obtain ⟨_, ⟨_, hms⟩, hl, _⟩ := hw
  have hms := fun m hm => okM_of (hms m hm)
  have hl := okM_of hl
  refine ⟨281474976710656 + 300, ?_⟩
  have hk := known_is 281474976710656
  have hN := big
  generalize 281474976710656 + 300 = N at *
  obtain ⟨⟨b, ⟨⟩⟩, hr, hb⟩ := right_tot N hN c ms like hms hl
  unfold G_law23_CapsLess S_law23_CapsLess
  simp only [hr, Option.bind_some]
  cases b
  · simp only [Bool.not_false, br_true, hk, Option.bind_some]
  · obtain ⟨h1, h2, h3, h4⟩ := hb rfl
    have h2' := h2
    obtain ⟨⟨c1, c2⟩, c3, c4⟩ := h2'
    obtain ⟨n1, e1, q1, r1⟩ := room N hN c h2 ms h3 (by omega) like h4
    obtain ⟨n2, e2, q2, r2⟩ := room N hN (c.1, 0, c.2.2) ⟨⟨c1, c2⟩, ⟨Int.le_refl 0, (by decide : (0 : Int) ≤ 288230376151711744)⟩, c4⟩ ms h3 (by omega) like h4
    obtain ⟨n3, e3, q3, r3⟩ := room N hN (0, 0, 0) (by decide) ms h3 (by omega) like h4
    have hd : (c.1.tdiv 2) = c.1 / 2 := Int.tdiv_eq_ediv_of_nonneg c1
    obtain ⟨n4, e4, q4, r4⟩ := room N hN (c.1 / 2, c.2) ⟨⟨by dsimp only; omega, by dsimp only; omega⟩, c3, c4⟩ ms h3 (by omega) like h4
    have l12 : n1 ≤ n2 := room_le (c := c) (d := (c.1, 0, c.2.2)) (fun k hk => ⟨hk.1, hk.2.1, .inl rfl, hk.2.2.2⟩) r1 r2
    have l3 : (n3 : Int) = 200 - (ms.length : Int) := by
      have := (r3 (200 - ms.length) (by omega)).1 ⟨by omega, .inl rfl, .inl rfl, .inl rfl⟩
      omega
    have l41 : ¬ c.1 < 2 → n4 ≤ n1 := fun h => room_le (c := (c.1 / 2, c.2)) (d := c) (fun k hk => ⟨hk.1, .inr (by
      have := hk.2.1
      dsimp only at this
      rcases this with h0 | h0 <;> omega), hk.2.2⟩) r4 r1
    have w1 : IntKind.i64.wrap (200 - (ms.length : Int)) = 200 - (ms.length : Int) := w64 (by omega) (by omega)
    have w2 : IntKind.i64.wrap (c.1.tdiv 2) = c.1 / 2 := by rw [hd]; exact w64 (by omega) (by omega)
    simp only [Bool.not_true, br_false, e1, Option.bind_some, br_dec, w1, w2, e2, e3, e4, hk, l3, if_true]
    split
    · rw [if_pos (by omega)]
    · rename_i h
      have := l41 h
      rw [if_pos (by omega), if_pos (by omega)]
end Go.Proofs.Ytplgkdfmpbkfpaa.Ca
