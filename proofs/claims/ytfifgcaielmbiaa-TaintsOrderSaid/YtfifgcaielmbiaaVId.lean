/- Values: reading and writing typed data as abstract values. -/
import Derived.Test.YtfifgcaielmbiaaVIc
namespace Go.VI
set_option linter.unusedVariables false
variable {g : Gh} {w : World}

theorem RelC.nil : RelC g w [] [] := ⟨rfl, fun j c v h => by simp at h⟩
theorem RelC.cons {c : AV} {v : Value} {cs : List AV} {vs : List Value} (h : RelV g w c v) (hs : RelC g w cs vs) : RelC g w (c :: cs) (v :: vs) := by
  refine ⟨by simp [hs.1], fun j c' v' h1 h2 => ?_⟩
  cases j with
  | zero => simp at h1 h2; rw [← h1, ← h2]; exact h
  | succ j => simp at h1 h2; exact hs.2 j c' v' h1 h2
theorem RelC.uncons {c : AV} {cs : List AV} {vs : List Value} (h : RelC g w (c :: cs) vs) : ∃ v r, vs = v :: r ∧ RelV g w c v ∧ RelC g w cs r := by
  cases vs with
  | nil => have := h.1; simp at this
  | cons v r => exact ⟨v, r, rfl, h.2 0 c v rfl rfl, ⟨by have := h.1; simpa using this, fun j c' v' h1 h2 => h.2 (j + 1) c' v' (by simpa using h1) (by simpa using h2)⟩⟩
theorem RelC.append {a b : List AV} {c d : List Value} (h : RelC g w a c) (h' : RelC g w b d) : RelC g w (a ++ b) (c ++ d) := by
  refine ⟨by simp [h.1, h'.1], fun j x v h1 h2 => ?_⟩
  have hl := h.1
  by_cases hj : j < a.length
  · rw [List.getElem?_append_left hj] at h1
    rw [List.getElem?_append_left (by omega)] at h2
    exact h.2 j x v h1 h2
  · rw [List.getElem?_append_right (by omega)] at h1 h2
    rw [hl] at h2
    exact h'.2 _ x v h1 h2
theorem RelC.take {a : List AV} {c : List Value} (h : RelC g w a c) (n : Nat) : RelC g w (a.take n) (c.take n) := by
  refine ⟨by simp [h.1], fun j x v h1 h2 => ?_⟩
  rw [List.getElem?_take] at h1 h2
  split at h1
  · rename_i hj; rw [if_pos hj] at h2; exact h.2 j x v h1 h2
  · cases h1
theorem RelC.drop {a : List AV} {c : List Value} (h : RelC g w a c) (n : Nat) : RelC g w (a.drop n) (c.drop n) := by
  refine ⟨by simp [h.1], fun j x v h1 h2 => ?_⟩
  rw [List.getElem?_drop] at h1 h2
  exact h.2 _ x v h1 h2
theorem RelC.get {a : List AV} {c : List Value} (h : RelC g w a c) {j : Nat} {x : AV} (hx : a[j]? = some x) : ∃ v, c[j]? = some v ∧ RelV g w x v := by
  have hj : j < c.length := by
    have := (List.getElem?_eq_some_iff.1 hx).1
    rw [h.1]; exact this
  exact ⟨c[j], List.getElem?_eq_getElem hj, h.2 j x _ hx (List.getElem?_eq_getElem hj)⟩
theorem RelC.splice {a n : List AV} {c m : List Value} (h : RelC g w a c) (h' : RelC g w n m) (o : Nat) : RelC g w (splice a o n) (c.take o ++ m ++ c.drop (o + m.length)) := by
  unfold VI.splice
  rw [List.append_assoc, h'.1]
  exact (h.take o).append (h'.append (h.drop _))

theorem RelV.shape {v : AV} {u : Value} (h : RelV g w v u) (hu : good v = true) (ha : isAggV v = false) : u.cells = #[u] := by
  cases h with
  | undef => cases hu
  | tup => cases hu
  | agg => cases ha
  | vals t l _ ht => obtain ⟨a, cap, e, _⟩ := ht; cases e; rfl
  | own b k _ _ hs => obtain ⟨a, n, c, rfl⟩ := hs; rfl
  | sref b off len k lim _ _ hs => obtain ⟨a, c, rfl⟩ := hs; rfl
  | ptr b i o k _ _ hs => obtain ⟨a, rfl⟩ := hs; rfl
  | map b _ _ hs => obtain ⟨a, rfl⟩ := hs; rfl
  | stamp b i k _ _ hs => obtain ⟨a, rfl⟩ := hs; rfl
  | _ => rfl
theorem RelV.isAgg {v : AV} {u : Value} (h : RelV g w v u) (ha : isAggV v = true) : u = .agg u.cells := by
  cases h <;> first | rfl | cases ha
theorem RelV.cells {v : AV} {u : Value} (h : RelV g w v u) (hu : good v = true) : RelC g w (cellsOf v) u.cells.toList := by
  by_cases ha : isAggV v = true
  · cases h <;> first
      | (rename_i cs vs f h1 h2 h3
         exact ⟨by simpa [cellsOf, Value.cells] using h1, fun j c v' a b => by
           have := h2 j c a
           have e : vs.toList[j]? = some v' := b
           rw [Array.getElem?_toList, this] at e
           cases e; exact h3 j c a⟩)
      | cases ha
  · have ha' : isAggV v = false := by simpa using ha
    rw [h.shape hu ha']
    have : cellsOf v = [v] := by cases v <;> first | rfl | cases ha'
    rw [this]
    exact RelC.cons h .nil
theorem RelV.ofAgg {cs : List AV} {vs : List Value} (h : RelC g w cs vs) : RelV g w (.agg cs) (.agg vs.toArray) :=
  .agg cs _ (fun j => (vs[j]?).getD Go.undef) (by simpa using h.1) (fun j c hj => by
    obtain ⟨v, hv, _⟩ := h.get hj
    simp [hv]) (fun j c hj => by
    obtain ⟨v, hv, hr⟩ := h.get hj
    simpa [hv] using hr)

theorem castL_some {a b : Ty} {l : List a.den} {l' : List b.den} (h : castL a b l = some l') : ∃ e : a = b, l' = e ▸ l := by
  unfold castL at h
  split at h
  · rename_i hb
    cases h
    exact ⟨Ty.eq_of_beq hb, rfl⟩
  · cases h

/-- What is read out of cells lies in them. -/
theorem dec_sound : ∀ (t : Ty) {cs r : List AV} {x : t.den} {vs : List Value}, t.dec cs = some (x, r) → RelC g w cs vs → ∃ v1 v2, vs = v1 ++ v2 ∧ RelT g.F w t x v1 ∧ RelC g w r v2
  | .int k, cs, r, x, vs, h, hc => by
    cases cs with
    | nil => simp [Ty.dec] at h
    | cons c cs =>
      obtain ⟨v, vr, rfl, hv, hr⟩ := hc.uncons
      cases c <;> simp only [Ty.dec] at h <;> first | cases h | skip
      obtain ⟨hk, h⟩ := br_none h
      cases h
      have := kEq_eq hk; subst this
      cases hv
      exact ⟨[_], vr, rfl, rfl, hr⟩
  | .bool, cs, r, x, vs, h, hc => by
    cases cs with
    | nil => simp [Ty.dec] at h
    | cons c cs =>
      obtain ⟨v, vr, rfl, hv, hr⟩ := hc.uncons
      cases c <;> simp only [Ty.dec] at h <;> first | cases h | skip
      cases hv
      exact ⟨[_], vr, rfl, rfl, hr⟩
  | .str, cs, r, x, vs, h, hc => by
    cases cs with
    | nil => simp [Ty.dec] at h
    | cons c cs =>
      obtain ⟨v, vr, rfl, hv, hr⟩ := hc.uncons
      cases c <;> simp only [Ty.dec] at h <;> first | cases h | skip
      cases hv
      exact ⟨[_], vr, rfl, rfl, hr⟩
  | .slice t, cs, r, x, vs, h, hc => by
    cases cs with
    | nil => simp [Ty.dec] at h
    | cons c cs =>
      obtain ⟨v, vr, rfl, hv, hr⟩ := hc.uncons
      cases c <;> simp only [Ty.dec] at h <;> first | cases h | skip
      · split at h
        · rename_i l hl
          cases h
          obtain ⟨e, rfl⟩ := castL_some hl
          subst e
          cases hv with
          | vals _ _ _ ht => exact ⟨[_], vr, rfl, ht, hr⟩
        · cases h
      · cases hv
        exact ⟨[_], vr, rfl, ⟨none, 0, rfl, Nat.le_refl _, fun i x h => by simp at h⟩, hr⟩
  | .pair a b, cs, r, x, vs, h, hc => by
    simp only [Ty.dec] at h
    split at h
    · rename_i x1 r1 h1
      split at h
      · rename_i y r2 h2
        cases h
        obtain ⟨v1, v2, rfl, ht1, hr1⟩ := dec_sound a h1 hc
        obtain ⟨v3, v4, rfl, ht2, hr2⟩ := dec_sound b h2 hr1
        exact ⟨v1 ++ v3, v4, by rw [List.append_assoc], ⟨v1, v3, rfl, ht1, ht2⟩, hr2⟩
      · cases h
    · cases h
  | .agg t, cs, r, x, vs, h, hc => dec_sound t (show t.dec cs = some (x, r) from h) hc
  | .nil, cs, r, x, vs, h, hc => by
    simp only [Ty.dec] at h
    cases h
    exact ⟨[], vs, rfl, rfl, hc⟩

theorem enc_sound : ∀ (t : Ty) {x : t.den} {vs : List Value}, RelT g.F w t x vs → RelC g w (t.enc x) vs
  | .int k, x, vs, h => by rw [show vs = _ from h]; exact .cons (.int ..) .nil
  | .bool, x, vs, h => by rw [show vs = _ from h]; exact .cons (.bool ..) .nil
  | .str, x, vs, h => by rw [show vs = _ from h]; exact .cons (.str ..) .nil
  | .slice t, x, vs, h => by
    have h' := h
    obtain ⟨a, cap, rfl, _⟩ := h
    exact .cons (.vals _ _ _ h') .nil
  | .pair a b, x, vs, h => by
    obtain ⟨c, d, rfl, h1, h2⟩ := h
    exact (enc_sound a h1).append (enc_sound b h2)
  | .agg t, x, vs, h => enc_sound t (show RelT g.F w t x vs from h)
  | .nil, x, vs, h => by rw [show vs = _ from h]; exact .nil

/-- A value that is typed data. -/
structure RelTV (F : Nat → Prop) (w : World) (t : Ty) (x : t.den) (u : Value) : Prop where
  rel : RelT F w t x u.cells.toList
  one : t.isAgg = false → u.cells = #[u]
  agg : t.isAgg = true → u = .agg u.cells

theorem decV_sound {t : Ty} {v : AV} {x : t.den} {u : Value} (h : t.decV v = some x) (hv : RelV g w v u) : RelTV g.F w t x u := by
  unfold Ty.decV at h
  obtain ⟨hb, h⟩ := br_none h
  split at h
  · rename_i y hd
    cases h
    have hgood : good v = true := by
      cases v <;> first | rfl | skip
      · exfalso
        have : cellsOf AV.undef = [.undef] := rfl
        rw [this] at hd
        have hne : t.isAgg = false := by
          cases e : t.isAgg with
          | false => rfl
          | true => rw [e] at hb; cases hb
        cases t <;> first | (simp [Ty.dec] at hd; done) | (cases hne)
      · exfalso
        rename_i vs
        have : cellsOf (AV.tup vs) = [.tup vs] := rfl
        rw [this] at hd
        have hne : t.isAgg = false := by
          cases e : t.isAgg with
          | false => rfl
          | true => rw [e] at hb; cases hb
        cases t <;> first | (simp [Ty.dec] at hd; done) | (cases hne)
    obtain ⟨v1, v2, e, ht, hr⟩ := dec_sound t hd (hv.cells hgood)
    have : v2 = [] := by have := hr.1; simpa using this
    subst this
    rw [List.append_nil] at e
    have hbe : t.isAgg = isAggV v := by
      cases e1 : t.isAgg <;> cases e2 : isAggV v <;> rw [e1, e2] at hb <;> first | rfl | cases hb
    exact ⟨e ▸ ht, fun h0 => hv.shape hgood (by rw [← hbe]; exact h0), fun h0 => hv.isAgg (by rw [← hbe]; exact h0)⟩
  · cases h

theorem val_sound {t : Ty} {x : t.den} {u : Value} (h : RelTV g.F w t x u) : RelV g w (t.val x) u := by
  obtain ⟨h1, h2, h3⟩ := h
  cases t with
  | int k => have e := h1; have o := h2 rfl; rw [o] at e; cases (show [u] = _ from e); exact .int ..
  | bool => have e := h1; have o := h2 rfl; rw [o] at e; cases (show [u] = _ from e); exact .bool ..
  | str => have e := h1; have o := h2 rfl; rw [o] at e; cases (show [u] = _ from e); exact .str ..
  | slice t => have e := h1; have o := h2 rfl; rw [o] at e; exact .vals _ _ _ e
  | pair a b => rw [h3 rfl]; have := RelV.ofAgg (enc_sound (.pair a b) h1); rw [Array.toArray_toList] at this; exact this
  | agg t => rw [h3 rfl]; have := RelV.ofAgg (enc_sound t h1); rw [Array.toArray_toList] at this; exact this
  | nil => rw [h3 rfl]; have := RelV.ofAgg (enc_sound .nil h1); rw [Array.toArray_toList] at this; exact this

theorem const1_sound (v : Value) : RelV g w (const1 v) v := by
  unfold const1
  split <;> first | exact .int .. | exact .bool .. | exact .str .. | exact .nils | exact .nilp | exact .nilmap | exact .nilfn | exact .nili | exact .undef _
theorem const_sound (v : Value) : RelV g w (ofConst v) v := by
  unfold ofConst
  split
  · rename_i cs
    have : RelC g w (cs.toList.map const1) cs.toList := by
      refine ⟨by simp, fun j c v h1 h2 => ?_⟩
      rw [List.getElem?_map, h2] at h1
      cases h1
      exact const1_sound v
    have := RelV.ofAgg this
    rw [Array.toArray_toList] at this; exact this
  · exact const1_sound _

theorem good_one {c : AV} (h : oneCell c = true) : good c = true := by cases c <;> first | rfl | cases h
theorem oneCell_value {c : AV} {u : Value} (h : RelV g w c u) (hc : oneCell c = true) : u.oneCell' = true := by
  have h1 := good_one hc
  have h2 : isAggV c = false := by cases c <;> first | rfl | cases hc
  have := h.shape h1 h2
  cases u <;> first | rfl | skip
  · rename_i cs; 
    cases h with
    | undef => cases hc
    | agg => cases hc
    | own b k _ _ hs => obtain ⟨a, n, c, e⟩ := hs; cases e
    | sref b off len k lim _ _ hs => obtain ⟨a, c, e⟩ := hs; cases e
    | ptr b i o k _ _ hs => obtain ⟨a, e⟩ := hs; cases e
    | map b _ _ hs => obtain ⟨a, e⟩ := hs; cases e
    | stamp b i k _ _ hs => obtain ⟨a, e⟩ := hs; cases e
    | vals t l _ ht => obtain ⟨a, cap, e, _⟩ := ht; cases e
  · rename_i cs; 
    cases h with
    | undef => cases hc
    | tup => cases hc
    | own b k _ _ hs => obtain ⟨a, n, c, e⟩ := hs; cases e
    | sref b off len k lim _ _ hs => obtain ⟨a, c, e⟩ := hs; cases e
    | ptr b i o k _ _ hs => obtain ⟨a, e⟩ := hs; cases e
    | map b _ _ hs => obtain ⟨a, e⟩ := hs; cases e
    | stamp b i k _ _ hs => obtain ⟨a, e⟩ := hs; cases e
    | vals t l _ ht => obtain ⟨a, cap, e, _⟩ := ht; cases e
end Go.VI
