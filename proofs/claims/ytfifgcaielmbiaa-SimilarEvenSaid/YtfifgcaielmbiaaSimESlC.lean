/- Shares are even. -/
import Derived.Test.YtfifgcaielmbiaaSimSSlC
namespace Go.Proofs.Ytfifgcaielmbiaa.SlC
open Go Go.VI
set_option linter.unusedVariables false
set_option linter.unusedSimpArgs false

def sm (f : Nat → Int) : Nat → Int
  | 0 => 0
  | n + 1 => sm f n + f n
theorem sm_le {f g : Nat → Int} : ∀ {n : Nat}, (∀ i, i < n → f i ≤ g i) → sm f n ≤ sm g n
  | 0, _ => Int.le_refl _
  | n + 1, h => by
    have h1 := sm_le (f := f) (g := g) (n := n) fun i hi => h i (by omega)
    have h2 := h n (by omega)
    simp only [sm]; omega
theorem sm_congr {f g : Nat → Int} : ∀ {n : Nat}, (∀ i, i < n → f i = g i) → sm f n = sm g n
  | 0, _ => rfl
  | n + 1, h => by
    simp only [sm]
    rw [sm_congr (f := f) (g := g) (n := n) fun i hi => h i (by omega), h n (by omega)]
theorem sm_point {f g : Nat → Int} {a : Nat} (ha : g a = f a + 1) (h : ∀ i, i ≠ a → g i = f i) : ∀ {n : Nat}, sm g n = sm f n + (if a < n then 1 else 0)
  | 0 => by simp only [sm]; rw [if_neg (by omega)]; rfl
  | n + 1 => by
    simp only [sm]
    rw [sm_point ha h (n := n)]
    by_cases e : n = a
    · subst e
      rw [ha, if_neg (by omega), if_pos (by omega)]; omega
    · rw [h n e]
      by_cases c : a < n
      · rw [if_pos c, if_pos (by omega)]; omega
      · rw [if_neg c, if_neg (by omega)]; omega
theorem sm_zero : ∀ {n : Nat}, sm (fun _ => 0) n = 0
  | 0 => rfl
  | n + 1 => by simp only [sm]; rw [sm_zero]; rfl
theorem sm_const {f : Nat → Int} {k : Int} (h0 : ∀ i, 0 ≤ f i) (h : ∀ i, f i ≤ k) : ∀ {n : Nat}, 0 ≤ sm f n ∧ sm f n ≤ k * n
  | 0 => by simp only [sm]; omega
  | n + 1 => by
    have := sm_const h0 h (n := n)
    have h1 := h0 n
    have h2 := h n
    simp only [sm]
    have : k * ((n + 1 : Nat) : Int) = k * (n : Int) + k := by rw [Int.natCast_succ, Int.mul_add, Int.mul_one]
    omega
theorem pick_least (cur mx : List Int) (b : Int) (i : Nat) : (0 ≤ b → 0 ≤ pickD cur mx b i ∧ cur.getD (pickD cur mx b i).toNat 0 ≤ cur.getD b.toNat 0) ∧ (cur.getD i 0 < mx.getD i 0 → 0 ≤ pickD cur mx b i ∧ cur.getD (pickD cur mx b i).toNat 0 ≤ cur.getD i 0) := by
  unfold pickD
  split
  · rename_i h
    rw [Int.toNat_natCast]
    exact ⟨fun hb => ⟨by omega, by omega⟩, fun _ => ⟨by omega, Int.le_refl _⟩⟩
  · rename_i h
    exact ⟨fun hb => ⟨hb, Int.le_refl _⟩, fun hc => by
      by_cases c : b < 0
      · exact absurd ⟨hc, .inl c⟩ h
      · by_cases c2 : cur.getD i 0 < cur.getD b.toNat 0
        · exact absurd ⟨hc, .inr c2⟩ h
        · exact ⟨by omega, by omega⟩⟩
theorem best_least (cur mx : List Int) : ∀ (k : Nat) (b : Int) (i : Nat), (0 ≤ b → 0 ≤ bestF cur mx b i k ∧ cur.getD (bestF cur mx b i k).toNat 0 ≤ cur.getD b.toNat 0) ∧ (∀ j, i ≤ j → j < i + k → cur.getD j 0 < mx.getD j 0 → 0 ≤ bestF cur mx b i k ∧ cur.getD (bestF cur mx b i k).toNat 0 ≤ cur.getD j 0)
  | 0, b, i => ⟨fun hb => ⟨hb, Int.le_refl _⟩, fun j h1 h2 => by omega⟩
  | k + 1, b, i => by
    obtain ⟨p1, p2⟩ := pick_least cur mx b i
    obtain ⟨r1, r2⟩ := best_least cur mx k (pickD cur mx b i) (i + 1)
    simp only [bestF]
    refine ⟨fun hb => ?_, fun j h1 h2 hj => ?_⟩
    · have h1 := p1 hb
      have h2 := r1 h1.1
      exact ⟨h2.1, by omega⟩
    · by_cases e : j = i
      · subst e
        have h1 := p2 hj
        have h2 := r1 h1.1
        exact ⟨h2.1, by omega⟩
      · exact r2 j (by omega) (by omega) hj
structure Ev (sz mx cur out : List Int) : Prop where
  r : Rel sz mx cur out
  b : ∀ i, i < sz.length → 0 < out.getD i 0 → cur.getD i 0 ≤ mx.getD i 0
  c : ∀ i j, i < sz.length → j < sz.length → 0 < out.getD i 0 → cur.getD j 0 < mx.getD j 0 → cur.getD i 0 ≤ cur.getD j 0 + 1
theorem Ev.step {sz mx cur out : List Int} (h : Ev sz mx cur out) {a : Nat} (ha : a < sz.length) (hc : cur.getD a 0 < mx.getD a 0) (hl : ∀ j, j < sz.length → cur.getD j 0 < mx.getD j 0 → cur.getD a 0 ≤ cur.getD j 0) : Ev sz mx (cur.set a (cur.getD a 0 + 1)) (out.set a (out.getD a 0 + 1)) := by
  obtain ⟨r, b, c⟩ := h
  have l1 := r.l1
  have l2 := r.l2
  refine ⟨r.step ha hc, fun i hi hp => ?_, fun i j hi hj hp hr => ?_⟩
  · rw [setD (by omega)] at hp ⊢
    by_cases e : i = a
    · subst e; rw [if_pos rfl]; omega
    · rw [if_neg e] at hp ⊢; exact b i hi hp
  · rw [setD (by omega)] at hp hr
    rw [setD (by omega), setD (by omega)]
    by_cases e : i = a
    · subst e
      rw [if_pos rfl]
      by_cases e2 : j = i
      · subst e2; rw [if_pos rfl]; omega
      · rw [if_neg e2] at hr ⊢
        have := hl j hj hr
        omega
    · rw [if_neg e] at hp ⊢
      by_cases e2 : j = a
      · subst e2
        rw [if_pos rfl] at hr ⊢
        have := c i j hi hj hp hc
        omega
      · rw [if_neg e2] at hr ⊢
        exact c i j hi hj hp hr
/-- What is shared is even, and all of it, or there is no room. -/
theorem share_ev {sz mx : List Int} : ∀ (n : Nat) (cur out : List Int), Ev sz mx cur out → ∃ cur', Ev sz mx cur' (shareF mx n cur out) ∧ (sm (fun i => (shareF mx n cur out).getD i 0) sz.length = sm (fun i => out.getD i 0) sz.length + n ∨ (sm (fun i => (shareF mx n cur out).getD i 0) sz.length ≤ sm (fun i => out.getD i 0) sz.length + n ∧ ∀ j, j < sz.length → ¬ cur'.getD j 0 < mx.getD j 0))
  | 0, cur, out, h => ⟨cur, h, .inl (by simp only [shareF]; omega)⟩
  | n + 1, cur, out, h => by
    obtain ⟨_, hl⟩ := best_least cur mx cur.length (-1) 0
    have l1 := h.r.l1
    have l2 := h.r.l2
    have hl : ∀ j, j < sz.length → cur.getD j 0 < mx.getD j 0 → 0 ≤ bestD cur mx ∧ cur.getD (bestD cur mx).toNat 0 ≤ cur.getD j 0 := fun j hj hc => hl j (by omega) (by omega) hc
    simp only [shareF]
    rcases best_pl (cur := cur) (mx := mx) with hb | ⟨b1, b2, b3⟩
    · rw [hb, if_pos (by omega)]
      refine ⟨cur, h, .inr ⟨by omega, fun j hj hc => ?_⟩⟩
      have := (hl j hj hc).1
      omega
    · rw [if_neg (by omega)]
      generalize (bestD cur mx).toNat = a at *
      obtain ⟨cur', h', hs⟩ := share_ev n _ _ (h.step (a := a) (by omega) b3 fun j hj hc => (hl j hj hc).2)
      have hp := sm_point (f := fun i => out.getD i 0) (g := fun i => (out.set a (out.getD a 0 + 1)).getD i 0) (a := a) (by rw [setD (by omega), if_pos rfl]) (fun i hi => by rw [setD (by omega), if_neg hi]) (n := sz.length)
      rw [if_pos (by omega)] at hp
      rw [hp] at hs
      refine ⟨cur', h', ?_⟩
      rcases hs with hs | ⟨hs, hn⟩
      · exact .inl (by omega)
      · exact .inr ⟨by omega, hn⟩
theorem max0 (x : Int) : List.foldl Max.max 0 [x] = if x < 0 then 0 else x := by
  show max 0 x = _
  split <;> omega
/-- The room that there is. -/
def roomD (sz mx : List Int) : Nat → Int := sm fun i => if mx.getD i 0 - sz.getD i 0 < 0 then 0 else mx.getD i 0 - sz.getD i 0
theorem share_sum {sz mx : List Int} (n : Nat) (hr : Rel sz mx sz (List.replicate sz.length 0)) : ∃ cur, Ev sz mx cur (shareF mx n sz (List.replicate sz.length 0)) ∧ sm (fun i => (shareF mx n sz (List.replicate sz.length 0)).getD i 0) sz.length = if (n : Int) ≤ roomD sz mx sz.length then (n : Int) else roomD sz mx sz.length := by
  obtain ⟨cur, h, hs⟩ := share_ev (sz := sz) (mx := mx) n sz (List.replicate sz.length 0) ⟨hr, fun i _ h => by rw [repD] at h; omega, fun i j _ _ h => by rw [repD] at h; omega⟩
  have h0 : sm (fun i => (List.replicate sz.length (0 : Int)).getD i 0) sz.length = 0 := by
    rw [sm_congr (g := fun _ => 0) fun i _ => repD]; exact sm_zero
  rw [h0] at hs
  refine ⟨cur, h, ?_⟩
  have hle : sm (fun i => (shareF mx n sz (List.replicate sz.length 0)).getD i 0) sz.length ≤ roomD sz mx sz.length := sm_le fun i hi => by
    have h1 := h.r.s i hi
    have h2 := h.b i hi
    split <;> omega
  rcases hs with hs | ⟨hs, hn⟩
  · rw [if_pos (by omega)]; omega
  · have heq : sm (fun i => (shareF mx n sz (List.replicate sz.length 0)).getD i 0) sz.length = roomD sz mx sz.length := sm_congr fun i hi => by
      have h1 := h.r.s i hi
      have h2 := h.b i hi
      have h3 := hn i hi
      split <;> omega
    split <;> omega
end Go.Proofs.Ytfifgcaielmbiaa.SlC
