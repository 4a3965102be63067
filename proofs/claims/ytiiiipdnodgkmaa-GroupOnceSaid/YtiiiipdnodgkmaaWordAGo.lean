/- A word with plain letters behind it is a word. -/
import Derived.Test.YtiiiipdnodgkmaaWrdGo
import Derived.Test.YtiiiipdnodgkmaaNumPGo
namespace Go.Proofs.Ytiiiipdnodgkmaa.Go
open Go Go.VI
set_option linter.unusedVariables false
set_option linter.unusedSimpArgs false
set_option maxRecDepth 100000

theorem decodeN_more {n n' b0 b1 b2 b3 c1 c2 c3 : Nat} (hn : n ≤ n') (h1 : 1 < n → c1 = b1) (h2 : 2 < n → c2 = b2) (h3 : 3 < n → c3 = b3) (hv : Go.Lib.decodeN n b0 b1 b2 b3 ≠ (65533, 1)) :
    Go.Lib.decodeN n' b0 c1 c2 c3 = Go.Lib.decodeN n b0 b1 b2 b3 := by
  unfold Go.Lib.decodeN at hv ⊢
  by_cases a : b0 < 128
  · rw [if_pos a, if_pos a]
  rw [if_neg a] at hv ⊢
  rw [if_neg a]
  by_cases k1 : b0 / 32 = 6 ∧ (1 < n ∧ b1 / 64 = 2)
  · obtain ⟨q1, q2, q3⟩ := k1
    have e := h1 q2
    subst e
    rw [if_pos (show b0 / 32 = 6 ∧ (1 < n ∧ c1 / 64 = 2) from by omega), if_pos (show b0 / 32 = 6 ∧ (1 < n' ∧ c1 / 64 = 2) from by omega)]
  rw [if_neg k1] at hv ⊢
  by_cases k2 : b0 / 16 = 14 ∧ (1 < n ∧ b1 / 64 = 2) ∧ (2 < n ∧ b2 / 64 = 2)
  · obtain ⟨q1, ⟨q2, q3⟩, q4, q5⟩ := k2
    have e := h1 q2
    have e' := h2 q4
    subst e e'
    rw [if_pos (show b0 / 16 = 14 ∧ (1 < n ∧ c1 / 64 = 2) ∧ (2 < n ∧ c2 / 64 = 2) from by omega), if_neg (show ¬ (b0 / 32 = 6 ∧ (1 < n' ∧ c1 / 64 = 2)) from by omega), if_pos (show b0 / 16 = 14 ∧ (1 < n' ∧ c1 / 64 = 2) ∧ (2 < n' ∧ c2 / 64 = 2) from by omega)]
  rw [if_neg k2] at hv ⊢
  by_cases k3 : b0 / 8 = 30 ∧ (1 < n ∧ b1 / 64 = 2) ∧ (2 < n ∧ b2 / 64 = 2) ∧ (3 < n ∧ b3 / 64 = 2)
  · obtain ⟨q1, ⟨q2, q3⟩, ⟨q4, q5⟩, q6, q7⟩ := k3
    have e := h1 q2
    have e' := h2 q4
    have e'' := h3 q6
    subst e e' e''
    rw [if_pos (show b0 / 8 = 30 ∧ (1 < n ∧ c1 / 64 = 2) ∧ (2 < n ∧ c2 / 64 = 2) ∧ (3 < n ∧ c3 / 64 = 2) from by omega), if_neg (show ¬ (b0 / 32 = 6 ∧ (1 < n' ∧ c1 / 64 = 2)) from by omega), if_neg (show ¬ (b0 / 16 = 14 ∧ (1 < n' ∧ c1 / 64 = 2) ∧ (2 < n' ∧ c2 / 64 = 2)) from by omega), if_pos (show b0 / 8 = 30 ∧ (1 < n' ∧ c1 / 64 = 2) ∧ (2 < n' ∧ c2 / 64 = 2) ∧ (3 < n' ∧ c3 / 64 = 2) from by omega)]
  rw [if_neg k3] at hv
  exact absurd rfl hv
theorem get_app {s t : ByteArray} {j : Nat} (h : j < s.size) : (s ++ t).get! j = s.get! j := by
  have h1 := at_get (s ++ t) j (by rw [ByteArray.size_append]; omega)
  have h2 := at_get s j h
  rw [ba_append, List.getElem?_append_left (by rw [ba_size]; exact h), h2] at h1
  exact (Option.some.inj h1).symm
theorem get_app2 {s t : ByteArray} {j : Nat} (h : j < t.size) : (s ++ t).get! (s.size + j) = t.get! j := by
  have h1 := at_get (s ++ t) (s.size + j) (by rw [ByteArray.size_append]; omega)
  have h2 := at_get t j h
  rw [ba_append, List.getElem?_append_right (by rw [ba_size]; omega), ba_size, Nat.add_sub_cancel_left, h2] at h1
  exact (Option.some.inj h1).symm
theorem FFFD_two {s : ByteArray} {p : Nat} (h : isFFFD s p) : (Go.Utf8.decode s p).2 = 3 := by
  obtain ⟨h1, h2, h3, h4⟩ := h
  rw [Go.Lib.decode_at, h2, h3, h4]
  unfold Go.Lib.decodeN
  rw [if_neg (by omega), if_neg (by omega), if_pos (by omega), if_pos (by omega)]
/-- A rune that is there stays when more comes behind it. -/
theorem Rune_app (N : Nat) {s t : ByteArray} {i : Nat} (hi : i < s.size) (hs : (s ++ t).size ≤ 4611686018427387904) {c w : Int} (h : G_ref01_Rune N (s, (i : Int), ()) = some (c, w, ())) (hw : w ≠ 0) :
    G_ref01_Rune N (s ++ t, (i : Int), ()) = some (c, w, ()) := by
  have hsz : (s ++ t).size = s.size + t.size := ByteArray.size_append
  obtain ⟨⟨c1, w1, ⟨⟩⟩, e1, q1⟩ := Rune_is N s i hi (by omega)
  rw [h] at e1; cases e1
  obtain ⟨⟨c2, w2, ⟨⟩⟩, e2, q2⟩ := Rune_is N (s ++ t) i (by omega) hs
  dsimp only at q1 q2
  rcases q1 with ⟨a1, _⟩ | ⟨a1, a2, a3, a4, a5⟩
  · exact absurd a1 hw
  have hv : Go.Utf8.decode s i ≠ (65533, 1) := fun e => by
    have := FFFD_two (a5 (by rw [e]))
    rw [e] at this; cases this
  have hd : Go.Utf8.decode (s ++ t) i = Go.Utf8.decode s i := by
    rw [Go.Lib.decode_at] at hv
    rw [Go.Lib.decode_at, Go.Lib.decode_at s, get_app hi]
    exact decodeN_more (by omega) (fun h => by rw [get_app (by omega)]) (fun h => by rw [get_app (by omega)]) (fun h => by rw [get_app (by omega)]) hv
  rw [e2]
  rcases q2 with ⟨b1, b2, b3, b4⟩ | ⟨b1, b2, b3, b4, b5⟩
  · rw [hd] at b2 b3
    exact absurd (Prod.ext b2 b3) hv
  · rw [hd] at b2 b3
    rw [a2, a3, b2, b3]
theorem Rune_ascii (N : Nat) {s : ByteArray} {i : Nat} (hi : i < s.size) (hb : (s.get! i).toNat < 128) : G_ref01_Rune N (s, (i : Int), ()) = some (((s.get! i).toNat : Int), 1, ()) := by
  have a0 := at_get s i hi
  have d0 : decide ((0 : Int) ≤ (i : Int)) = true := decide_eq_true (by omega)
  unfold G_ref01_Rune S_ref01_Rune
  simp only [d0, br_true, Int.toNat_natCast, a0, Option.bind_some, wByte]
  rw [decide_eq_true (show (((s.get! i).toNat : Nat) : Int) < 128 by omega)]
  rfl
/-- Plain letters behind. -/
theorem tail_loop (N : Nat) {s t : ByteArray} (hs : (s ++ t).size ≤ 4611686018427387904) (ht : ∀ j, j < t.size → (t.get! j).toNat < 128 ∧ plainB (((t.get! j).toNat : Nat) : Int) = true) :
    ∀ (m j n : Nat), j ≤ t.size → n ≤ s.size + j → t.size - j < m → g_ref01_Word_3 N m ((s ++ t, (n : Int), ((s.size + j : Nat) : Int), ()), ()) = some (.inl ((((n + (t.size - j) : Nat) : Int), ()), ()))
  | 0, j, n, _, _, h => by omega
  | m + 1, j, n, hj, hn, h => by
    have hsz : (s ++ t).size = s.size + t.size := ByteArray.size_append
    rw [g_ref01_Word_3_succ]
    unfold s_ref01_Word_3
    dsimp only
    by_cases hlt : j < t.size
    · have d1 : decide (((s.size + j : Nat) : Int) < (((s ++ t).size : Nat) : Int)) = true := decide_eq_true (by omega)
      have hg : (s ++ t).get! (s.size + j) = t.get! j := get_app2 hlt
      have hr := Rune_ascii N (s := s ++ t) (i := s.size + j) (by omega) (by rw [hg]; exact (ht j hlt).1)
      rw [hg] at hr
      have w1 : IntKind.i64.wrap ((n : Int) + 1) = ((n + 1 : Nat) : Int) := by rw [w64 (by omega) (by omega)]; omega
      have w2 : IntKind.i64.wrap (((s.size + j : Nat) : Int) + 1) = ((s.size + (j + 1) : Nat) : Int) := by rw [w64 (by omega) (by omega)]; omega
      simp only [d1, br_true, hr, Option.bind_some, ref_plain_is, (ht j hlt).2, Bool.not_true, br_false, w1, w2]
      rw [show decide ((1 : Int) = 0) = false from rfl, br_false, tail_loop N hs ht m (j + 1) (n + 1) (by omega) (by omega) (by omega)]
      congr 5; omega
    · have d1 : decide (((s.size + j : Nat) : Int) < (((s ++ t).size : Nat) : Int)) = false := decide_eq_false (by omega)
      simp only [d1, br_false]
      congr 5; omega
theorem loop_app (N : Nat) {s t : ByteArray} (hs : (s ++ t).size ≤ 4611686018427387904) (ht : ∀ j, j < t.size → (t.get! j).toNat < 128 ∧ plainB (((t.get! j).toNat : Nat) : Int) = true) :
    ∀ (m i n n' M : Nat), i ≤ s.size → n ≤ i → g_ref01_Word_3 N m ((s, (n : Int), (i : Int), ()), ()) = some (.inl (((n' : Int), ()), ())) → n' ≤ s.size → m + t.size < M →
      g_ref01_Word_3 N M ((s ++ t, (n : Int), (i : Int), ()), ()) = some (.inl ((((n' + t.size : Nat) : Int), ()), ()))
  | 0, i, n, n', M, _, _, h, _, _ => by cases h
  | m + 1, i, n, n', 0, _, _, _, _, h => by omega
  | m + 1, i, n, n', M + 1, hi, hn, h, hn', hM => by
    have hsz : (s ++ t).size = s.size + t.size := ByteArray.size_append
    by_cases hlt : i < s.size
    · rw [g_ref01_Word_3_succ] at h ⊢
      unfold s_ref01_Word_3 at h ⊢
      dsimp only at h ⊢
      have d1 : decide ((i : Int) < ((s.size : Nat) : Int)) = true := decide_eq_true (by omega)
      have d1' : decide ((i : Int) < (((s ++ t).size : Nat) : Int)) = true := decide_eq_true (by omega)
      obtain ⟨⟨c, w, ⟨⟩⟩, e1, q⟩ := Rune_is N s i hlt (by omega)
      dsimp only at q
      rw [d1, br_true, e1, Option.bind_some] at h
      dsimp only at h
      by_cases hw : w = 0
      · rw [decide_eq_true hw, br_true] at h; cases h
      rw [decide_eq_false hw, br_false, ref_plain_is, Option.bind_some] at h
      rw [d1', br_true, Rune_app N hlt hs e1 hw, Option.bind_some]
      dsimp only
      rw [decide_eq_false hw, br_false, ref_plain_is, Option.bind_some]
      dsimp only at h ⊢
      cases hp : plainB c
      · rw [hp] at h; cases h
      rw [hp, Bool.not_true, br_false] at h
      rw [Bool.not_true, br_false]
      rcases q with ⟨a1, _⟩ | ⟨a1, a2, a3, a4, a5⟩
      · exact absurd a1 hw
      have w1 : IntKind.i64.wrap ((n : Int) + 1) = ((n + 1 : Nat) : Int) := by rw [w64 (by omega) (by omega)]; omega
      have w2 : IntKind.i64.wrap ((i : Int) + w) = ((i + (Go.Utf8.decode s i).2 : Nat) : Int) := by rw [w64 (by omega) (by omega)]; omega
      rw [w1, w2] at h ⊢
      exact loop_app N hs ht m _ _ _ M (by omega) (by omega) h hn' (by omega)
    · have hi' : i = s.size := by omega
      subst hi'
      rw [g_ref01_Word_3_succ] at h
      unfold s_ref01_Word_3 at h
      dsimp only at h
      rw [decide_eq_false (show ¬ ((s.size : Nat) : Int) < ((s.size : Nat) : Int) by omega), br_false] at h
      have hn2 : n = n' := by
        injection h with h; injection h with h; injection h with h; injection h with h; omega
      subst hn2
      have := tail_loop N hs ht (M + 1) 0 n (by omega) (by omega) (by omega)
      rw [Nat.sub_zero] at this
      exact this
/-- A short word with some plain letters behind it is a word. -/
theorem word_app (N : Nat) (hN : Big N) {s t : ByteArray} (hw : wordB N s = true) (hs : s.size ≤ 50) (htl : t.size ≤ 12) (ht : ∀ j, j < t.size → (t.get! j).toNat < 128 ∧ plainB (((t.get! j).toNat : Nat) : Int) = true) : wordB N (s ++ t) = true := by
  have hN' := hN
  unfold Big at hN'
  have hsz : (s ++ t).size = s.size + t.size := ByteArray.size_append
  have h1 := ref01_Word_is hN (s := s) (by unfold okS; omega)
  have h2 := ref01_Word_is hN (s := s ++ t) (by unfold okS; omega)
  rw [hw] at h1
  obtain ⟨k, hk⟩ : ∃ k, N = k + t.size + 1 := ⟨N - t.size - 1, by omega⟩
  rcases joint N s (by omega) (s.size + 1) 0 0 0 k N N (by omega) (by omega) (by omega) (by omega) (by omega) (by omega) (by omega) with ⟨cnt, r0, r0', r1, _⟩ | ⟨r1, i0, ok0, y0, v2, v3⟩
  · rw [Nat.zero_add] at r1
    have := loop_app N (t := t) (by omega) ht k 0 0 cnt N (by omega) (by omega) r1 (by omega) (by omega)
    have this : g_ref01_Word_3 N N ((s ++ t, 0, 0, ()), ()) = _ := this
    unfold G_ref01_Word S_ref01_Word at h2
    simp only [this, Option.bind_some, Sum.elim_inl] at h2
    by_cases hz : s.size = 0
    · -- an empty word is none
      exfalso
      have hc : cnt = 0 := by omega
      subst hc
      rcases joint N s (by omega) (s.size + 1) 0 0 0 N N N (by omega) (by omega) (by omega) (by omega) (by omega) (by omega) (by omega) with ⟨cnt, q0, _, q1, _⟩ | ⟨q1, _⟩
      · have hc : cnt = 0 := by omega
        subst hc
        have q1 : g_ref01_Word_3 N N ((s, 0, 0, ()), ()) = _ := q1
        unfold G_ref01_Word S_ref01_Word at h1
        simp only [q1, Option.bind_some, Sum.elim_inl] at h1
        rw [show decide ((1 : Int) ≤ ((0 + 0 : Nat) : Int)) = false from rfl, br_false] at h1
        cases h1
      · have q1 : g_ref01_Word_3 N N ((s, 0, 0, ()), ()) = _ := q1
        unfold G_ref01_Word S_ref01_Word at h1
        simp only [q1, Option.bind_some, Sum.elim_inr] at h1
        cases h1
    · have hc : 1 ≤ cnt := r0' (by omega)
      rw [decide_eq_true (show (1 : Int) ≤ ((cnt + t.size : Nat) : Int) by omega), br_true, decide_eq_true (show ((cnt + t.size : Nat) : Int) ≤ 64 by omega)] at h2
      injection h2 with h2
      injection h2 with h2 _
      exact h2.symm
  · exfalso
    rcases joint N s (by omega) (s.size + 1) 0 0 0 N N N (by omega) (by omega) (by omega) (by omega) (by omega) (by omega) (by omega) with ⟨cnt, q0, _, q1, ⟨y, u2⟩, _⟩ | ⟨q1, _⟩
    · rw [u2] at v2; cases v2
    · have q1 : g_ref01_Word_3 N N ((s, 0, 0, ()), ()) = _ := q1
      unfold G_ref01_Word S_ref01_Word at h1
      simp only [q1, Option.bind_some, Sum.elim_inr] at h1
      cases h1
end Go.Proofs.Ytiiiipdnodgkmaa.Go
