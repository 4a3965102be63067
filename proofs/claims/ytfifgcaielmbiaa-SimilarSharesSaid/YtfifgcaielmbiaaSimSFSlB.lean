/- Shares, as the document gives them. -/
import Derived.Test.YtfifgcaielmbiaaSimSSlB
namespace Go.Proofs.Ytfifgcaielmbiaa.SlB
open Go Go.VI
set_option linter.unusedVariables false
set_option linter.unusedSimpArgs false
set_option maxRecDepth 100000

theorem w2 {a b : Int} (h0 : 0 ≤ a + b) (h1 : a + b ≤ 10000) : IntKind.i64.wrap (a + b) = a + b := w64 (by omega) (by omega)
theorem w3 {v : Int} (h0 : 0 ≤ v) (h1 : v ≤ 10000) : IntKind.i64.wrap (v + 1) = v + 1 := w64 (by omega) (by omega)
theorem ref_12 (N : Nat) (hN : Big N) {sz mx cur out : List Int} (n : Int) (h : Rel sz mx cur out) (hz : sz.length ≤ 1000) : Tot (g_ref22_Share_12 N N ((n, sz, mx, -1, 0, ()), out, ())) fun o => o = .inl ((n, sz, mx, bestD cur mx, ()), out, ()) := by
  unfold Big at hN
  obtain ⟨l1, l2, l3, s⟩ := h
  have loop : ∀ m (i : Nat) x, i ≤ sz.length → (∃ b, x = ((n, sz, mx, b, (i : Int), ()), out, ()) ∧ Pl cur mx b ∧ bestD cur mx = bestF cur mx b i (sz.length - i)) → sz.length - i < m → Tot (g_ref22_Share_12 N m x) fun o => o = .inl ((n, sz, mx, bestD cur mx, ()), out, ()) := by
    refine Tot.range sz.length fun m i x ha hi rec => ?_
    obtain ⟨b, rfl, hp, hb⟩ := ha
    rw [g_ref22_Share_12_succ]
    unfold s_ref22_Share_12
    by_cases hlt : i < sz.length
    · have d0 : decide ((0 : Int) ≤ (i : Int)) = true := decide_eq_true (by omega)
      have d1 : decide ((i : Int) < ((sz.length : Nat) : Int)) = true := decide_eq_true (by omega)
      have d2 : decide ((i : Int) < ((out.length : Nat) : Int)) = true := decide_eq_true (by omega)
      have e : bestD cur mx = bestF cur mx (pickD cur mx b i) (i + 1) (sz.length - (i + 1)) := by
        rw [hb, show sz.length - i = (sz.length - (i + 1)) + 1 by omega]; rfl
      have hs := s i hlt
      have hw : IntKind.i64.wrap (sz.getD i 0 + out.getD i 0) = cur.getD i 0 := by rw [hs.1]; exact w2 (by omega) (by omega)
      simp only [d0, d1, d2, Bool.and_true, br_true, Int.toNat_natCast, at_d hlt, at_d (l := mx) (i := i) (by omega), at_d (l := out) (i := i) (by omega), Option.bind_some, hw, wi (i := i) (by omega)]
      by_cases c : cur.getD i 0 < mx.getD i 0
      · rw [decide_eq_true c, br_true]
        rcases hp with rfl | ⟨p1, p2, p3⟩
        · rw [decide_eq_true (show (-1 : Int) < 0 by omega), br_true]
          exact rec (i + 1) _ (by omega) (by omega) ⟨_, rfl, .inr ⟨by omega, by rw [Int.toNat_natCast]; omega, by rw [Int.toNat_natCast]; exact c⟩, by rw [e]; unfold pickD; rw [if_pos ⟨c, .inl (by omega)⟩]⟩
        · rw [decide_eq_false (show ¬ b < 0 by omega), br_false]
          have hs2 := s b.toNat (by omega)
          have hw2 : IntKind.i64.wrap (sz.getD b.toNat 0 + out.getD b.toNat 0) = cur.getD b.toNat 0 := by rw [hs2.1]; exact w2 (by omega) (by omega)
          have d3 : decide ((0 : Int) ≤ b) = true := decide_eq_true (by omega)
          have d4 : decide (b < ((out.length : Nat) : Int)) = true := decide_eq_true (by omega)
          simp only [d3, d4, Bool.and_true, br_true, at_d (l := sz) (i := b.toNat) (by omega), at_d (l := out) (i := b.toNat) (by omega), Option.bind_some, hw2]
          by_cases c2 : cur.getD i 0 < cur.getD b.toNat 0
          · rw [decide_eq_true c2, br_true]
            exact rec (i + 1) _ (by omega) (by omega) ⟨_, rfl, .inr ⟨by omega, by rw [Int.toNat_natCast]; omega, by rw [Int.toNat_natCast]; exact c⟩, by rw [e]; unfold pickD; rw [if_pos ⟨c, .inr c2⟩]⟩
          · rw [decide_eq_false c2, br_false]
            exact rec (i + 1) _ (by omega) (by omega) ⟨_, rfl, .inr ⟨p1, p2, p3⟩, by rw [e]; unfold pickD; rw [if_neg (fun h => h.2.elim (fun h => by omega) c2)]⟩
      · rw [decide_eq_false c, br_false]
        exact rec (i + 1) _ (by omega) (by omega) ⟨_, rfl, hp, by rw [e]; unfold pickD; rw [if_neg (fun h => c h.1)]⟩
    · have d1 : decide ((i : Int) < ((sz.length : Nat) : Int)) = false := decide_eq_false (by omega)
      simp only [d1, br_false]
      refine Tot.some ?_
      rw [hb, show sz.length - i = 0 by omega]
      rfl
  exact loop N 0 _ (by omega) ⟨-1, rfl, .inl rfl, by unfold bestD; rw [l1]; rfl⟩ (by omega)
theorem ref_9 (N : Nat) (hN : Big N) {sz mx : List Int} (hz : sz.length ≤ 1000) {n : Nat} (hn : n ≤ 10000) (hr : Rel sz mx sz (List.replicate sz.length 0)) : Tot (g_ref22_Share_9 N N (((n : Int), sz, mx, ()), List.replicate sz.length 0, ())) fun o => ∃ y, o = .inl (y, shareF mx n sz (List.replicate sz.length 0), ()) := by
  have hN' := hN
  unfold Big at hN
  have loop : ∀ m (i : Nat) x, i ≤ n → (∃ cur out, x = ((((n - i : Nat) : Int), sz, mx, ()), out, ()) ∧ Rel sz mx cur out ∧ shareF mx n sz (List.replicate sz.length 0) = shareF mx (n - i) cur out) → n - i < m → Tot (g_ref22_Share_9 N m x) fun o => ∃ y, o = .inl (y, shareF mx n sz (List.replicate sz.length 0), ()) := by
    refine Tot.range n fun m i x ha hi rec => ?_
    obtain ⟨cur, out, rfl, h, hs⟩ := ha
    rw [g_ref22_Share_9_succ]
    unfold s_ref22_Share_9
    by_cases hlt : i < n
    · have d1 : decide ((0 : Int) < ((n - i : Nat) : Int)) = true := decide_eq_true (by omega)
      obtain ⟨o, e12, rfl⟩ := ref_12 N hN' ((n - i : Nat) : Int) h hz
      simp only [d1, br_true, e12, Option.bind_some, Sum.elim_inl]
      have hm : IntKind.i64.wrap (((n - i : Nat) : Int) - 1) = ((n - (i + 1) : Nat) : Int) := by rw [w64 (by omega) (by omega)]; omega
      rw [show n - i = (n - (i + 1)) + 1 by omega] at hs
      simp only [shareF] at hs
      rcases best_pl (cur := cur) (mx := mx) with hb | ⟨b1, b2, b3⟩
      · rw [hb, if_pos (by omega)] at hs
        rw [hb, decide_eq_true (show (-1 : Int) < 0 by omega), br_true, hs]
        exact Tot.some ⟨_, rfl⟩
      · rw [if_neg (by omega)] at hs
        rw [decide_eq_false (show ¬ bestD cur mx < 0 by omega), br_false]
        have hl1 := h.l1
        have hl2 := h.l2
        have hst := h.step (a := (bestD cur mx).toNat) (by omega) b3
        have hv := h.s (bestD cur mx).toNat (by omega)
        have d2 : decide ((0 : Int) ≤ bestD cur mx) = true := decide_eq_true (by omega)
        have d4 : decide (bestD cur mx < ((out.length : Nat) : Int)) = true := decide_eq_true (by omega)
        simp only [d2, d4, Bool.and_true, br_true, at_d (l := out) (i := (bestD cur mx).toNat) (by omega), Option.bind_some, hm]
        rw [w3 (v := out.getD (bestD cur mx).toNat 0) (by omega) (by omega)]
        exact rec (i + 1) _ (by omega) (by omega) ⟨_, _, rfl, hst, hs⟩
    · have d1 : decide ((0 : Int) < ((n - i : Nat) : Int)) = false := decide_eq_false (by omega)
      simp only [d1, br_false]
      rw [show n - i = 0 by omega] at hs
      rw [hs]
      exact Tot.some ⟨_, rfl⟩
  exact loop N 0 _ (by omega) ⟨_, _, rfl, hr, rfl⟩ (by omega)
theorem ref_4 (N : Nat) (hN : Big N) {sz mx : List Int} (n : Int) (hz : sz.length ≤ 1000) (hl : sz.length = mx.length) : Tot (g_ref22_Share_4 N N ((n, sz, mx, 0, ()), ())) fun o => if (sz.all inD && mx.all inD) = true then o = .inl ((n, sz, mx, ()), ()) else ∃ y, o = .inr (([], ()), y) := by
  unfold Big at hN
  have loop := Tot.all (f := g_ref22_Share_4 N) (Inv := fun i x => x = ((n, sz, mx, (i : Int), ()), ())) (Y := fun o => o = .inl ((n, sz, mx, ()), ())) (No := fun o => ∃ y, o = .inr (([], ()), y)) sz.length (fun i => atP inD sz i && atP inD mx i)
    (fun m a ha => by
      subst ha
      rw [g_ref22_Share_4_succ]
      unfold s_ref22_Share_4
      exact Tot.brD (fun h => absurd h (by dsimp only; omega)) fun _ => Tot.some rfl)
    (fun m i a Q ha hi rec no => by
      subst ha
      rw [g_ref22_Share_4_succ]
      unfold s_ref22_Share_4
      have hi2 : i < mx.length := by omega
      have d0 : decide ((0 : Int) ≤ (i : Int)) = true := decide_eq_true (by omega)
      have d1 : decide ((i : Int) < ((sz.length : Nat) : Int)) = true := decide_eq_true (by omega)
      simp only [d0, d1, br_true, Int.toNat_natCast, at_lt hi, at_lt hi2, Option.bind_some, wi (i := i) (by omega)]
      rw [atP_lt hi, atP_lt hi2] at rec no
      unfold inD at rec no
      by_cases h1 : sz[i] < 0
      · rw [decide_eq_true h1, br_true]
        exact Tot.some (no (by rw [decide_eq_false (show ¬ (0 ≤ sz[i] ∧ sz[i] ≤ 200) by omega)]; rfl) _ ⟨_, rfl⟩)
      rw [decide_eq_false h1, br_false]
      by_cases h2 : 200 < sz[i]
      · rw [decide_eq_true h2, br_true]
        exact Tot.some (no (by rw [decide_eq_false (show ¬ (0 ≤ sz[i] ∧ sz[i] ≤ 200) by omega)]; rfl) _ ⟨_, rfl⟩)
      rw [decide_eq_false h2, br_false]
      by_cases h3 : mx[i] < 0
      · rw [decide_eq_true h3, br_true]
        exact Tot.some (no (by rw [decide_eq_false (show ¬ (0 ≤ mx[i] ∧ mx[i] ≤ 200) by omega), Bool.and_false]) _ ⟨_, rfl⟩)
      rw [decide_eq_false h3, br_false]
      by_cases h4 : 200 < mx[i]
      · rw [decide_eq_true h4, br_true]
        exact Tot.some (no (by rw [decide_eq_false (show ¬ (0 ≤ mx[i] ∧ mx[i] ≤ 200) by omega), Bool.and_false]) _ ⟨_, rfl⟩)
      rw [decide_eq_false h4, br_false]
      exact rec (by rw [decide_eq_true (show (0 ≤ sz[i] ∧ sz[i] ≤ 200) by omega), decide_eq_true (show (0 ≤ mx[i] ∧ mx[i] ≤ 200) by omega)]; rfl) _ rfl)
    N 0 ((n, sz, mx, 0, ()), ()) (by omega) rfl (by omega)
  refine loop.mono fun o ho => ?_
  rw [Nat.sub_zero] at ho
  have he : allN (fun i => atP inD sz i && atP inD mx i) 0 sz.length = (sz.all inD && mx.all inD) := by
    rw [← all_full (l := sz), ← all_full (l := mx), ← hl, Bool.eq_iff_iff, Bool.and_eq_true, allN_iff, allN_iff, allN_iff]
    constructor
    · exact fun h => ⟨fun j h1 h2 => (Bool.and_eq_true _ _ ▸ h j h1 h2 : _ ∧ _).1, fun j h1 h2 => (Bool.and_eq_true _ _ ▸ h j h1 h2 : _ ∧ _).2⟩
    · exact fun h j h1 h2 => by rw [h.1 j h1 h2, h.2 j h1 h2]; rfl
  rw [he] at ho
  exact ho
theorem ref22_Share_is (N : Nat) (hN : Big N) {n : Int} (hn : n ≤ 10000) {sz mx : List Int} (h1 : sz.length ≤ 1000) (h2 : mx.length ≤ 1000) : G_ref22_Share N (n, sz, mx, ()) = some (shareD n sz mx, ()) := by
  unfold G_ref22_Share S_ref22_Share shareD
  by_cases c1 : n < 0
  · rw [decide_eq_true c1, if_pos c1]
    cases decide (((sz.length : Nat) : Int) = ((mx.length : Nat) : Int)) <;> cases decide ((16 : Int) < ((sz.length : Nat) : Int)) <;> rfl
  rw [decide_eq_false c1, if_neg c1]
  by_cases c2 : sz.length = mx.length
  · rw [if_neg (fun h => h c2)]
    rw [decide_eq_true (show ((sz.length : Nat) : Int) = ((mx.length : Nat) : Int) by omega)]
    by_cases c3 : 16 < sz.length
    · rw [decide_eq_true (show (16 : Int) < ((sz.length : Nat) : Int) by omega), if_pos c3]; rfl
    · rw [decide_eq_false (show ¬ (16 : Int) < ((sz.length : Nat) : Int) by omega), if_neg c3]
      obtain ⟨o, e4, ho⟩ := ref_4 N hN (sz := sz) (mx := mx) n (by omega) c2
      simp only [Bool.not_true, br_false, e4, Option.bind_some]
      cases c4 : (sz.all inD && mx.all inD)
      · rw [c4, if_neg (by decide)] at ho
        obtain ⟨y, rfl⟩ := ho
        rfl
      · rw [c4, if_pos rfl] at ho
        subst ho
        rw [Bool.and_eq_true] at c4
        obtain ⟨o, e, y, rfl⟩ := ref_9 N hN (sz := sz) (mx := mx) (n := n.toNat) (by omega) (by omega) (Rel.init c2 c4.1 c4.2)
        rw [show ((n.toNat : Nat) : Int) = n by omega] at e
        have d0 : decide ((0 : Int) ≤ ((sz.length : Nat) : Int)) = true := decide_eq_true (by omega)
        have d1 : decide (((sz.length : Nat) : Int) ≤ ((sz.length : Nat) : Int)) = true := decide_eq_true (by omega)
        have d2 : decide (((sz.length : Nat) : Int) ≤ (4294967296 : Int)) = true := decide_eq_true (by omega)
        simp only [Sum.elim_inl, br_true, d0, d1, d2, Bool.and_true, Int.toNat_natCast, e, Option.bind_some]
        rfl
  · rw [if_pos c2, decide_eq_false (show ¬ ((sz.length : Nat) : Int) = ((mx.length : Nat) : Int) by omega)]; rfl
end Go.Proofs.Ytfifgcaielmbiaa.SlB
