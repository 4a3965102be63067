/- Shares: by plain law, and as the program shares. -/
import Derived.Test.YtfifgcaielmbiaaBaseSlC
namespace Go.Proofs.Ytfifgcaielmbiaa.SlC
open Go Go.VI
set_option linter.unusedVariables false
set_option linter.unusedSimpArgs false
set_option maxRecDepth 100000

theorem at_d {l : List Int} {i : Nat} (h : i < l.length) : l[i]? = some (l.getD i 0) := by
  rw [at_lt h, List.getD_eq_getElem?_getD, at_lt h]; rfl
theorem setD {l : List Int} {a i : Nat} {v : Int} (h : a < l.length) : (l.set a v).getD i 0 = if i = a then v else l.getD i 0 := by
  rw [List.getD_eq_getElem?_getD, List.getD_eq_getElem?_getD, List.getElem?_set]
  by_cases e : a = i
  · subst e; rw [if_pos rfl, if_pos rfl, if_pos h]; rfl
  · rw [if_neg e, if_neg (fun h => e h.symm)]
/-- The one with the least, of those that have room. -/
def pickD (cur mx : List Int) (b : Int) (i : Nat) : Int := if cur.getD i 0 < mx.getD i 0 ∧ (b < 0 ∨ cur.getD i 0 < cur.getD b.toNat 0) then (i : Int) else b
def bestF (cur mx : List Int) : Int → Nat → Nat → Int
  | b, _, 0 => b
  | b, i, k + 1 => bestF cur mx (pickD cur mx b i) (i + 1) k
def bestD (cur mx : List Int) : Int := bestF cur mx (-1) 0 cur.length
/-- A place, or none. -/
def Pl (cur mx : List Int) (b : Int) : Prop := b = -1 ∨ (0 ≤ b ∧ b.toNat < cur.length ∧ cur.getD b.toNat 0 < mx.getD b.toNat 0)
theorem pick_pl {cur mx : List Int} {b : Int} {i : Nat} (hb : Pl cur mx b) (hi : i < cur.length) : Pl cur mx (pickD cur mx b i) := by
  unfold pickD
  split
  · rename_i h
    exact .inr ⟨by omega, by rw [Int.toNat_natCast]; exact hi, by rw [Int.toNat_natCast]; exact h.1⟩
  · exact hb
theorem bestF_pl {cur mx : List Int} : ∀ {k : Nat} {b : Int} {i : Nat}, Pl cur mx b → i + k ≤ cur.length → Pl cur mx (bestF cur mx b i k)
  | 0, b, i, hb, _ => hb
  | k + 1, b, i, hb, h => bestF_pl (k := k) (b := pickD cur mx b i) (i := i + 1) (pick_pl hb (by omega)) (by omega)
theorem best_pl {cur mx : List Int} : Pl cur mx (bestD cur mx) := bestF_pl (.inl rfl) (by omega)
def shareF (mx : List Int) : Nat → List Int → List Int → List Int
  | 0, _, out => out
  | n + 1, cur, out => if bestD cur mx < 0 then out else shareF mx n (cur.set (bestD cur mx).toNat (cur.getD (bestD cur mx).toNat 0 + 1)) (out.set (bestD cur mx).toNat (out.getD (bestD cur mx).toNat 0 + 1))
def inD (v : Int) : Bool := decide (0 ≤ v ∧ v ≤ 200)
/-- The shares that are asked for. -/
def shareD (n : Int) (cur mx : List Int) : List Int := if n < 0 then [] else if cur.length ≠ mx.length then [] else if 16 < cur.length then [] else if (cur.all inD && mx.all inD) = false then [] else shareF mx n.toNat cur (List.replicate cur.length 0)
/-- What holds of those that now are, of the shares and of the most. -/
structure Rel (sz mx cur out : List Int) : Prop where
  l1 : cur.length = sz.length
  l2 : out.length = sz.length
  l3 : mx.length = sz.length
  s : ∀ i, i < sz.length → cur.getD i 0 = sz.getD i 0 + out.getD i 0 ∧ 0 ≤ out.getD i 0 ∧ 0 ≤ sz.getD i 0 ∧ cur.getD i 0 ≤ 200 ∧ mx.getD i 0 ≤ 200 ∧ 0 ≤ mx.getD i 0
theorem Rel.step {sz mx cur out : List Int} (h : Rel sz mx cur out) {a : Nat} (ha : a < sz.length) (hc : cur.getD a 0 < mx.getD a 0) : Rel sz mx (cur.set a (cur.getD a 0 + 1)) (out.set a (out.getD a 0 + 1)) := by
  obtain ⟨l1, l2, l3, s⟩ := h
  refine ⟨by rw [List.length_set, l1], by rw [List.length_set, l2], l3, fun i hi => ?_⟩
  have h1 := s i hi
  have h2 := s a ha
  rw [setD (by omega), setD (by omega)]
  by_cases e : i = a
  · subst e
    rw [if_pos rfl, if_pos rfl]
    omega
  · rw [if_neg e, if_neg e]
    exact h1
theorem getD_all {l : List Int} {p : Int → Bool} (h : l.all p = true) {i : Nat} (hi : i < l.length) : p (l.getD i 0) = true := by
  have : l.getD i 0 = l[i] := by rw [List.getD_eq_getElem?_getD, at_lt hi]; rfl
  rw [this]
  exact List.all_eq_true.1 h _ (List.getElem_mem hi)
theorem repD {n i : Nat} : (List.replicate n (0 : Int)).getD i 0 = 0 := by
  rw [List.getD_eq_getElem?_getD, List.getElem?_replicate]
  split <;> rfl
theorem Rel.init {sz mx : List Int} (hl : sz.length = mx.length) (h1 : sz.all inD = true) (h2 : mx.all inD = true) : Rel sz mx sz (List.replicate sz.length 0) := by
  refine ⟨rfl, by rw [List.length_replicate], hl.symm, fun i hi => ?_⟩
  have a := getD_all h1 hi
  have b := getD_all h2 (i := i) (by omega)
  unfold inD at a b
  rw [decide_eq_true_eq] at a b
  rw [repD]
  omega
end Go.Proofs.Ytfifgcaielmbiaa.SlC
