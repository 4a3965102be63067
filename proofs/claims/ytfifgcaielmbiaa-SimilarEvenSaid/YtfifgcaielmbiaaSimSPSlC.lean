/- Shares, as the program shares. -/
import Derived.Test.YtfifgcaielmbiaaSimSSlC
namespace Go.Proofs.Ytfifgcaielmbiaa.SlC
open Go Go.VI
set_option linter.unusedVariables false
set_option linter.unusedSimpArgs false
set_option maxRecDepth 100000

theorem least_is (N : Nat) (hN : Big N) {sz mx cur out : List Int} (h : Rel sz mx cur out) (hz : sz.length ≤ 1000) : G_similar_least N (cur, mx, ()) = some (bestD cur mx, ()) := by
  unfold Big at hN
  obtain ⟨l1, l2, l3, s⟩ := h
  have loop : ∀ m (i : Nat) x, i ≤ cur.length → (∃ b, x = ((cur, mx, b, cur, (cur.length : Int), (i : Int), ()), ()) ∧ Pl cur mx b ∧ bestD cur mx = bestF cur mx b i (cur.length - i)) → cur.length - i < m → Tot (g_similar_least_3 N m x) fun o => ∃ y, o = .inl ((bestD cur mx, ()), y) := by
    refine Tot.range cur.length fun m i x ha hi rec => ?_
    obtain ⟨b, rfl, hp, hb⟩ := ha
    rw [g_similar_least_3_succ]
    unfold s_similar_least_3
    by_cases hlt : i < cur.length
    · have d0 : decide ((0 : Int) ≤ (i : Int)) = true := decide_eq_true (by omega)
      have d1 : decide ((i : Int) < ((cur.length : Nat) : Int)) = true := decide_eq_true (by omega)
      have e : bestD cur mx = bestF cur mx (pickD cur mx b i) (i + 1) (cur.length - (i + 1)) := by
        rw [hb, show cur.length - i = (cur.length - (i + 1)) + 1 by omega]; rfl
      simp only [d0, d1, br_true, Int.toNat_natCast, at_d hlt, at_d (l := mx) (i := i) (by omega), Option.bind_some, wi (i := i) (by omega)]
      by_cases c : cur.getD i 0 < mx.getD i 0
      · rw [decide_eq_true c, br_true]
        rcases hp with rfl | ⟨p1, p2, p3⟩
        · rw [decide_eq_true rfl, br_true]
          exact rec (i + 1) _ (by omega) (by omega) ⟨_, rfl, .inr ⟨by omega, by rw [Int.toNat_natCast]; exact hlt, by rw [Int.toNat_natCast]; exact c⟩, by rw [e]; unfold pickD; rw [if_pos ⟨c, .inl (by omega)⟩]⟩
        · rw [decide_eq_false (show ¬ b = -1 by omega), br_false]
          have d2 : decide ((0 : Int) ≤ b) = true := decide_eq_true (by omega)
          simp only [d2, br_true, at_d p2, Option.bind_some]
          by_cases c2 : cur.getD i 0 < cur.getD b.toNat 0
          · rw [decide_eq_true c2, br_true]
            exact rec (i + 1) _ (by omega) (by omega) ⟨_, rfl, .inr ⟨by omega, by rw [Int.toNat_natCast]; exact hlt, by rw [Int.toNat_natCast]; exact c⟩, by rw [e]; unfold pickD; rw [if_pos ⟨c, .inr c2⟩]⟩
          · rw [decide_eq_false c2, br_false]
            exact rec (i + 1) _ (by omega) (by omega) ⟨_, rfl, .inr ⟨p1, p2, p3⟩, by rw [e]; unfold pickD; rw [if_neg (fun h => h.2.elim (fun h => by omega) c2)]⟩
      · rw [decide_eq_false c, br_false]
        exact rec (i + 1) _ (by omega) (by omega) ⟨_, rfl, hp, by rw [e]; unfold pickD; rw [if_neg (fun h => c h.1)]⟩
    · have d1 : decide ((i : Int) < ((cur.length : Nat) : Int)) = false := decide_eq_false (by omega)
      simp only [d1, br_false]
      refine Tot.some ⟨(), ?_⟩
      rw [hb, show cur.length - i = 0 by omega]
      rfl
  obtain ⟨o, e, y, rfl⟩ := loop N 0 _ (by omega) ⟨-1, rfl, .inl rfl, rfl⟩ (by omega)
  have e : g_similar_least_3 N N ((cur, mx, -1, cur, (cur.length : Int), 0, ()), ()) = _ := e
  unfold G_similar_least S_similar_least
  simp only [e, Option.bind_some, Sum.elim_inl]
theorem right5_is (N : Nat) (hN : Big N) {ll : List (List Int)} {n i0 : Int} {l : List Int} (hl : l.length ≤ 1000000) : Tot (g_similar_right_5 N N ((ll, n, i0, l, (l.length : Int), 0, ()), ())) fun o => if l.all inD = true then o = .inl ((ll, n, i0, ()), ()) else ∃ y, o = .inr ((false, ()), y) := by
  unfold Big at hN
  have loop := Tot.all (f := g_similar_right_5 N) (Inv := fun i x => x = ((ll, n, i0, l, (l.length : Int), (i : Int), ()), ())) (Y := fun o => o = .inl ((ll, n, i0, ()), ())) (No := fun o => ∃ y, o = .inr ((false, ()), y)) l.length (atP inD l)
    (fun m a ha => by
      subst ha
      rw [g_similar_right_5_succ]
      unfold s_similar_right_5
      exact Tot.brD (fun h => absurd h (by dsimp only; omega)) fun _ => Tot.some rfl)
    (fun m i a Q ha hi rec no => by
      subst ha
      rw [g_similar_right_5_succ]
      unfold s_similar_right_5
      have d0 : decide ((0 : Int) ≤ (i : Int)) = true := decide_eq_true (by omega)
      have d1 : decide ((i : Int) < ((l.length : Nat) : Int)) = true := decide_eq_true (by omega)
      simp only [d0, d1, br_true, Int.toNat_natCast, at_lt hi, Option.bind_some, wi (i := i) (by omega)]
      rw [atP_lt hi] at rec no
      unfold inD at rec no
      by_cases h1 : l[i] < 0
      · rw [decide_eq_true h1, br_true]
        exact Tot.some (no (decide_eq_false (by omega)) _ ⟨_, rfl⟩)
      rw [decide_eq_false h1, br_false]
      by_cases h2 : 200 < l[i]
      · rw [decide_eq_true h2, br_true]
        exact Tot.some (no (decide_eq_false (by omega)) _ ⟨_, rfl⟩)
      rw [decide_eq_false h2, br_false]
      exact rec (decide_eq_true (by omega)) _ rfl)
    N 0 ((ll, n, i0, l, (l.length : Int), 0, ()), ()) (by omega) rfl (by omega)
  rw [Nat.sub_zero, all_full] at loop
  exact loop
theorem right_is (N : Nat) (hN : Big N) {a b : List Int} (ha : a.length ≤ 1000000) (hb : b.length ≤ 1000000) : G_similar_right N ([a, b], ()) = some (a.all inD && b.all inD, ()) := by
  have hN' := hN
  unfold Big at hN
  have loop := Tot.all (f := g_similar_right_2 N) (Inv := fun i x => x = (([a, b], 2, (i : Int), ()), ())) (Y := fun o => ∃ y, o = .inl y) (No := fun o => ∃ y, o = .inr ((false, ()), y)) 2 (atP (fun l => l.all inD) [a, b])
    (fun m x hx => by
      subst hx
      rw [g_similar_right_2_succ]
      unfold s_similar_right_2
      exact Tot.brD (fun h => absurd h (by dsimp only; omega)) fun _ => Tot.some ⟨_, rfl⟩)
    (fun m i x Q hx hi rec no => by
      subst hx
      rw [g_similar_right_2_succ]
      unfold s_similar_right_2
      have hlt : i < [a, b].length := hi
      have hlen : ([a, b][i]'hlt).length ≤ 1000000 := by
        match i, hlt with
        | 0, _ => exact ha
        | 1, _ => exact hb
      have d0 : decide ((0 : Int) ≤ (i : Int)) = true := decide_eq_true (by omega)
      have d1 : decide ((i : Int) < (2 : Int)) = true := decide_eq_true (by omega)
      simp only [d0, d1, br_true, Int.toNat_natCast, at_lt hlt, Option.bind_some]
      rw [atP_lt hlt] at rec no
      obtain ⟨o, e, ho⟩ := right5_is N hN' (ll := [a, b]) (n := 2) (i0 := (i : Int)) hlen
      simp only [e, Option.bind_some]
      split at ho
      · rename_i hy
        subst ho
        simp only [Sum.elim_inl, wi (i := i) (by omega)]
        exact rec hy _ rfl
      · rename_i hy
        obtain ⟨y, rfl⟩ := ho
        exact Tot.some (no (by simpa using hy) _ ⟨_, rfl⟩))
    N 0 (([a, b], 2, 0, ()), ()) (by omega) rfl (by omega)
  obtain ⟨o, e, ho⟩ := loop
  rw [show (2 - 0 : Nat) = [a, b].length from rfl, all_full] at ho
  have e : g_similar_right_2 N N (([a, b], (([a, b].length : Nat) : Int), 0, ()), ()) = some o := e
  unfold G_similar_right S_similar_right
  simp only [e, Option.bind_some]
  have hab : ([a, b].all fun l => l.all inD) = (a.all inD && b.all inD) := by simp only [List.all_cons, List.all_nil, Bool.and_true]
  rw [hab] at ho
  split at ho
  · rename_i hy
    obtain ⟨y, rfl⟩ := ho
    rw [hy]; rfl
  · rename_i hy
    obtain ⟨y, rfl⟩ := ho
    rw [show (a.all inD && b.all inD) = false by simpa using hy]; rfl
theorem w1 {v : Int} (h0 : 0 ≤ v) (h1 : v ≤ 10000) : IntKind.i64.wrap (v + 1) = v + 1 := w64 (by omega) (by omega)
theorem share_6 (N : Nat) (hN : Big N) {sz mx : List Int} (hz : sz.length ≤ 1000) {n : Nat} (hn : n ≤ 1000000) (hr : Rel sz mx sz (List.replicate sz.length 0)) : Tot (g_similar_Share_6 N N ((mx, (n : Int), 0, ()), sz, List.replicate sz.length 0, ())) fun o => ∃ y z, o = .inl (y, z, shareF mx n sz (List.replicate sz.length 0), ()) := by
  have hN' := hN
  unfold Big at hN
  have loop : ∀ m (i : Nat) x, i ≤ n → (∃ cur out, x = ((mx, (n : Int), (i : Int), ()), cur, out, ()) ∧ Rel sz mx cur out ∧ shareF mx n sz (List.replicate sz.length 0) = shareF mx (n - i) cur out) → n - i < m → Tot (g_similar_Share_6 N m x) fun o => ∃ y z, o = .inl (y, z, shareF mx n sz (List.replicate sz.length 0), ()) := by
    refine Tot.range n fun m i x ha hi rec => ?_
    obtain ⟨cur, out, rfl, h, hs⟩ := ha
    rw [g_similar_Share_6_succ]
    unfold s_similar_Share_6
    by_cases hlt : i < n
    · have d1 : decide ((i : Int) < (n : Int)) = true := decide_eq_true (by omega)
      simp only [d1, br_true, least_is N hN' h hz, Option.bind_some, wi (i := i) (by omega)]
      rw [show n - i = (n - (i + 1)) + 1 by omega] at hs
      simp only [shareF] at hs
      rcases best_pl (cur := cur) (mx := mx) with hb | ⟨b1, b2, b3⟩
      · rw [hb, if_pos (by omega)] at hs
        rw [hb, decide_eq_true rfl, br_true, hs]
        exact Tot.some ⟨_, _, rfl⟩
      · rw [if_neg (by omega)] at hs
        rw [decide_eq_false (show ¬ bestD cur mx = -1 by omega), br_false]
        have hl1 := h.l1
        have hl2 := h.l2
        have hst := h.step (a := (bestD cur mx).toNat) (by omega) b3
        have hv := h.s (bestD cur mx).toNat (by omega)
        have d2 : decide ((0 : Int) ≤ bestD cur mx) = true := decide_eq_true (by omega)
        have d3 : decide (bestD cur mx < ((cur.length : Nat) : Int)) = true := decide_eq_true (by omega)
        have d4 : decide (bestD cur mx < ((out.length : Nat) : Int)) = true := decide_eq_true (by omega)
        simp only [d2, d3, d4, Bool.and_true, br_true, at_d b2, at_d (l := out) (i := (bestD cur mx).toNat) (by omega), Option.bind_some]
        rw [w1 (v := cur.getD (bestD cur mx).toNat 0) (by omega) (by omega), w1 (v := out.getD (bestD cur mx).toNat 0) (by omega) (by omega)]
        exact rec (i + 1) _ (by omega) (by omega) ⟨_, _, rfl, hst, hs⟩
    · have d1 : decide ((i : Int) < (n : Int)) = false := decide_eq_false (by omega)
      simp only [d1, br_false]
      rw [show n - i = 0 by omega] at hs
      rw [hs]
      exact Tot.some ⟨_, _, rfl⟩
  exact loop N 0 _ (by omega) ⟨_, _, rfl, hr, rfl⟩ (by omega)
theorem similar_Share_is (N : Nat) (hN : Big N) {n : Int} (hn : n ≤ 1000000) {sz mx : List Int} (h1 : sz.length ≤ 1000) (h2 : mx.length ≤ 1000) : G_similar_Share N (n, sz, mx, ()) = some (shareD n sz mx, ()) := by
  unfold G_similar_Share S_similar_Share shareD
  by_cases c1 : n < 0
  · rw [decide_eq_true c1, if_pos c1]; rfl
  rw [decide_eq_false c1, if_neg c1]
  by_cases c2 : sz.length = mx.length
  · rw [if_neg (fun h => h c2)]
    rw [decide_eq_true (show ((sz.length : Nat) : Int) = ((mx.length : Nat) : Int) by omega)]
    by_cases c3 : 16 < sz.length
    · rw [decide_eq_true (show (16 : Int) < ((sz.length : Nat) : Int) by omega), if_pos c3]; rfl
    · rw [decide_eq_false (show ¬ (16 : Int) < ((sz.length : Nat) : Int) by omega), if_neg c3]
      simp only [right_is N hN (a := sz) (b := mx) (by omega) (by omega), Option.bind_some]
      cases c4 : (sz.all inD && mx.all inD)
      · rfl
      · rw [Bool.and_eq_true] at c4
        obtain ⟨o, e, y, z, rfl⟩ := share_6 N hN (sz := sz) (mx := mx) (n := n.toNat) (by omega) (by omega) (Rel.init c2 c4.1 c4.2)
        rw [show ((n.toNat : Nat) : Int) = n by omega] at e
        have b1 : Nat.ble sz.length maxElems = true := Nat.ble_eq_true_of_le (by unfold maxElems; omega)
        have d0 : decide ((0 : Int) ≤ ((sz.length : Nat) : Int)) = true := decide_eq_true (by omega)
        have d1 : decide (((sz.length : Nat) : Int) ≤ ((sz.length : Nat) : Int)) = true := decide_eq_true (by omega)
        have d2 : decide (((sz.length : Nat) : Int) ≤ (4294967296 : Int)) = true := decide_eq_true (by omega)
        simp only [Bool.not_true, br_false, br_true, b1, d0, d1, d2, Bool.and_true, Int.toNat_natCast, e, Option.bind_some, Sum.elim_inl]
        rfl
  · rw [if_pos c2, decide_eq_false (show ¬ ((sz.length : Nat) : Int) = ((mx.length : Nat) : Int) by omega)]; rfl
end Go.Proofs.Ytfifgcaielmbiaa.SlC
