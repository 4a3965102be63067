/- New blocks; rows: what they hold, append, copy, slicing. -/
import Derived.Test.YtfifgcaielmbiaaVIe
namespace Go.VI
set_option linter.unusedVariables false
set_option linter.unusedSimpArgs false
variable {R : Type} {P : Program}

theorem Gh.new_G (g : Gh) (nb : Nat) (k : Kd) (a : Option (Nat × Nat)) : (g.new nb k a).G nb = k := upd_same _ _ _
theorem Gh.new_i (g : Gh) (nb : Nat) (k : Kd) (a : Option (Nat × Nat)) : (g.new nb k a).i nb = a := upd_same _ _ _

/-- A new block of cells. -/
theorem newRow_went {g : Gh} {H : Hp} {w w' : World} {nb : Nat} {vs : List Value} {cs : List AV} {e : TypeId} (hr : HRel g H w) (hnb : g.G nb = .none) (hc : RelC g w cs vs)
    (hw : w'.heap = w.heap.push (.cells vs.toArray e)) (henv : Env w w' := by first | exact ⟨rfl, rfl, rfl⟩ | assumption) : ∃ g', Went g H w (fun b => b = nb) (.ptr nb 0 0 0) (upd H nb (.box cs)) [] (.pointer (some ⟨w.heap.size, 0, none⟩)) w' g' := by
  obtain ⟨x1, x2, x3⟩ := HRel.alloc (cap := 0) (blk := .box cs) hr hnb hw (fun h => by cases h) (fun he => ⟨w.heap.size, 0, vs.toArray, e, Gh.new_i .., by rw [hw]; simp, by
    have := hc.step he hr
    rw [List.toList_toArray]; exact this⟩)
  refine ⟨_, x1, x2, ?_, x3⟩
  refine .ptr _ _ _ _ _ (by rw [Gh.new_G]; exact kindOf_none) ⟨_, rfl⟩ (fun t k' n h => ?_) (fun _ _ => ⟨_, _, Gh.new_i .., rfl⟩) (fun h _ => ?_)
  · rw [Gh.new_G] at h; cases h
  · rw [Gh.new_G] at h; cases h

/-- A new row of typed data. -/
theorem newArr_went {g : Gh} {H : Hp} {w w' : World} {nb cap : Nat} {vs : List Value} {t : Ty} {l : List t.den} {e : TypeId} (hr : HRel g H w) (hnb : g.G nb = .none)
    (hw : w'.heap = w.heap.push (.cells vs.toArray e)) (hl : l.length ≤ cap) (hcap : cap * t.size ≤ vs.length)
    (hc : ∀ i x, l[i]? = some x → ∃ c, RelT g.F w t x c ∧ ∀ j v, c[j]? = some v → vs[i * t.size + j]? = some v) (henv : Env w w' := by first | exact ⟨rfl, rfl, rfl⟩ | assumption) :
    ∃ g', Ext g H w [] g' (upd H nb (.arr t l 0)) w' ∧ HRel g' (upd H nb (.arr t l 0)) w' ∧ (∀ b, g.G b = .none → g'.G b ≠ .none → b = nb) ∧ g'.G nb = .arr t 0 l.length ∧ g'.i nb = some (w.heap.size, cap) := by
  obtain ⟨x1, x2, x3⟩ := HRel.alloc (cap := cap) (blk := .arr t l 0) hr hnb hw (fun h => by cases h) (fun he => .inr ⟨w.heap.size, cap, vs.toArray, e, Gh.new_i .., by rw [hw]; simp, hl, by simpa using hcap, fun i x hx => by
    obtain ⟨c, a1, a2⟩ := hc i x hx
    exact ⟨c, a1.mono he.mono (he.keepF hr), fun j v hj => by rw [List.getElem?_toArray]; exact a2 j v hj⟩⟩)
  exact ⟨_, x1, x2, x3, Gh.new_G .., Gh.new_i ..⟩

theorem newBlk_sound {e : TypeId} {cs : List AV} {H : Hp} {nb n : Nat} {κ : KO R} {r : R} (h : newBlk P e cs H nb n κ = some r) :
    ∃ v H', κ v H' n [] = some r ∧ ∀ (g : Gh) (w w' : World) (vs : List Value), HRel g H w → g.G nb = .none → RelC g w cs vs → w'.heap = w.heap.push (.cells vs.toArray e) → Env w w' →
      ∃ g', Went g H w (fun b => b = nb) v H' [] (.pointer (some ⟨w.heap.size, 0, none⟩)) w' g' := by
  unfold newBlk at h
  split at h
  · rcases br_some h with ⟨_, h⟩ | ⟨_, h⟩
    · exact ⟨_, _, h, fun g w w' vs hr hnb hc hw henv => newRow_went hr hnb hc hw⟩
    split at h
    · split at h
      · rename_i len e' _ t _ l hd
        refine ⟨_, _, h, fun g w w' vs hr hnb hc hw henv => ?_⟩
        obtain ⟨a1, a2, a3⟩ := decs_sound hd hc
        obtain ⟨g', x1, x2, x3, x4, x5⟩ := newArr_went (cap := l.length) hr hnb hw (Nat.le_refl _) (by rw [a1, a2]; exact Nat.le_refl _) a3
        refine ⟨g', x1, x2, ?_, x3⟩
        refine .ptr _ _ _ _ _ (by rw [x4]; exact fun h => by cases h) ⟨_, rfl⟩ (fun t' k' n h => ?_) (fun h _ => ?_) (fun h _ => ?_)
        · rw [x4] at h; cases h
          exact ⟨Nat.le_refl _, fun _ => ⟨_, _, x5, by simp⟩⟩
        · rw [x4] at h; cases h
        · rw [x4] at h; cases h
      · exact ⟨_, _, h, fun g w w' vs hr hnb hc hw henv => newRow_went hr hnb hc hw⟩
    · exact ⟨_, _, h, fun g w w' vs hr hnb hc hw henv => newRow_went hr hnb hc hw⟩
  · exact ⟨_, _, h, fun g w w' vs hr hnb hc hw henv => newRow_went hr hnb hc hw⟩

/-- What a slice's list stands for in memory: the elements' cells, from the slice's address on. -/
theorem listOf_sound {t : Ty} {x : AV} {H : Hp} {l : List t.den} {g : Gh} {w : World} {u : Value} (h : listOf t x H = some l) (hr : HRel g H w) (hu : RelV g w x u) :
    ∃ a cap, u = .slice a l.length cap ∧ l.length ≤ cap ∧ (∀ i y, l[i]? = some y → ∃ ad, a = some ad ∧ ∃ c, RelT g.F w t y c ∧ ∀ j v, c[j]? = some v → w.cell? (ad.add (i * t.size + j)) = some v) := by
  cases x with
  | nils => simp only [listOf] at h; cases h; cases hu; exact ⟨none, 0, rfl, Nat.le_refl _, fun i y h => by simp at h⟩
  | vals t' l' =>
    simp only [listOf] at h
    obtain ⟨e, rfl⟩ := castL_some h
    subst e
    cases hu with
    | vals _ _ _ ht =>
      obtain ⟨a, cap, e, hl, hc⟩ := ht
      cases e
      exact ⟨a, cap, rfl, hl, fun i y hy => by
        obtain ⟨ad, h1, _, c, h2, h3⟩ := hc i y hy
        exact ⟨ad, h1, c, h2, h3⟩⟩
  | own b k =>
    simp only [listOf] at h
    split at h
    · rename_i t' l' k' hb
      obtain ⟨hk, h⟩ := br_none h
      have hk := Nat.eq_of_beq_eq_true hk
      obtain ⟨e, rfl⟩ := castL_some h
      subst e
      have hG : g.G b = .arr t' k' l'.length := by rw [hr.kd b (by rw [hb]; exact fun h => by cases h), hb]; rfl
      cases hu with
      | own _ _ _ hn hs ha =>
        obtain ⟨a, cap, rfl, hle, hor⟩ := (ha _ _ _ hG).2 hk
        refine ⟨a, cap, rfl, hle, fun i y hy => ?_⟩
        have hB := hr.blk b
        rw [hb] at hB
        rcases hB with ⟨_, rfl⟩ | ⟨r', cap', vs, e, h1, h2, h3, h4, h5⟩
        · simp at hy
        rcases hor with ⟨h6, _⟩ | ⟨r2, h6, h7⟩
        · rw [h1] at h6; cases h6
        rw [h1] at h6; cases h6
        obtain ⟨c, a1, a2⟩ := h5 i y hy
        exact ⟨_, h7, c, a1, fun j v hj => by rw [add_mk, cell_at h2, Nat.zero_add]; exact a2 j v hj⟩
    · cases h
  | sref b off len k lim =>
    simp only [listOf] at h
    split at h
    · rename_i t' l' k' hb
      obtain ⟨hk, h⟩ := br_none h
      have hk := Nat.eq_of_beq_eq_true hk
      split at h
      · rename_i l2 hl2
        cases h
        obtain ⟨e, rfl⟩ := castL_some hl2
        subst e
        have hG : g.G b = .arr t' k' l'.length := by rw [hr.kd b (by rw [hb]; exact fun h => by cases h), hb]; rfl
        cases hu with
        | sref _ _ _ _ _ _ hn hs ha =>
          obtain ⟨hoff, a, cap, rfl, hle, _, hor⟩ := (ha _ _ _ hG).2 hk
          have hll : ((l'.drop off).take len).length = len := by simp; omega
          refine ⟨a, cap, by rw [hll], by rw [hll]; exact hle, fun i y hy => ?_⟩
          have hi : i < len := by
            have := (List.getElem?_eq_some_iff.1 hy).1
            rw [hll] at this; exact this
          rw [List.getElem?_take, if_pos hi, List.getElem?_drop] at hy
          have hB := hr.blk b
          rw [hb] at hB
          rcases hB with ⟨_, rfl⟩ | ⟨r', cap', vs, e, h1, h2, h3, h4, h5⟩
          · simp at hy
          obtain ⟨r2, c2, h6, h7⟩ := hor (by omega)
          rw [h1] at h6; cases h6
          obtain ⟨c, a1, a2⟩ := h5 (off + i) y hy
          exact ⟨_, h7, c, a1, fun j v hj => by
            rw [add_mk, cell_at h2]
            have := a2 j v hj
            rw [← this]; congr 1; rw [Nat.add_mul]; omega⟩
      · cases h
    · cases h
  | _ => simp [listOf] at h

/-- A list's cells, one element behind the other. -/
theorem flat_cells {F : Nat → Prop} {w : World} {t : Ty} : ∀ (l : List t.den) (Q : Nat → List Value → Prop), (∀ i y, l[i]? = some y → ∃ c, RelT F w t y c ∧ Q i c) →
    ∃ cs : List (List Value), cs.length = l.length ∧ ∀ i y, l[i]? = some y → ∃ c, cs[i]? = some c ∧ RelT F w t y c ∧ Q i c
  | [], Q, h => ⟨[], rfl, fun i y h => by simp at h⟩
  | x :: l, Q, h => by
    obtain ⟨c, h1, h2⟩ := h 0 x rfl
    obtain ⟨cs, h3, h4⟩ := flat_cells l (fun i => Q (i + 1)) (fun i y hy => h (i + 1) y (by simpa using hy))
    refine ⟨c :: cs, by simp [h3], fun i y hy => ?_⟩
    cases i with
    | zero => simp at hy; subst hy; exact ⟨c, rfl, h1, h2⟩
    | succ i => simp at hy; obtain ⟨c', a1, a2, a3⟩ := h4 i y hy; exact ⟨c', by simpa using a1, a2, a3⟩

theorem flatten_get {n : Nat} : ∀ (cs : List (List Value)) (i : Nat) (c : List Value), (∀ c ∈ cs, c.length = n) → cs[i]? = some c → ∀ j, j < n → cs.flatten[i * n + j]? = c[j]?
  | [], i, c, _, h, _, _ => by simp at h
  | d :: cs, i, c, hl, h, j, hj => by
    have hd := hl d (by simp)
    cases i with
    | zero =>
      simp at h; subst h
      simp only [List.flatten_cons, Nat.zero_mul, Nat.zero_add]
      rw [List.getElem?_append_left (by omega)]
    | succ i =>
      simp at h
      have := flatten_get cs i c (fun c hc => hl c (by simp [hc])) h j hj
      simp only [List.flatten_cons]
      rw [List.getElem?_append_right (by rw [hd, Nat.succ_mul]; omega), hd, ← this]
      congr 1; rw [Nat.succ_mul]; omega
theorem flatten_len {n : Nat} : ∀ (cs : List (List Value)), (∀ c ∈ cs, c.length = n) → cs.flatten.length = cs.length * n
  | [], _ => by simp
  | d :: cs, h => by
    simp only [List.flatten_cons, List.length_append, List.length_cons]
    rw [flatten_len cs (fun c hc => h c (by simp [hc])), h d (by simp), Nat.succ_mul]; omega

/-- The cells of a list in memory, from address ad on, as one list. -/
theorem list_cells {F : Nat → Prop} {w : World} {t : Ty} {l : List t.den} {ad : Addr} (h : ∀ i y, l[i]? = some y → ∃ c, RelT F w t y c ∧ ∀ j v, c[j]? = some v → w.cell? (ad.add (i * t.size + j)) = some v) :
    ∃ vs : List Value, vs.length = l.length * t.size ∧ (∀ j v, vs[j]? = some v → w.cell? (ad.add j) = some v) ∧ (∀ i y, l[i]? = some y → ∃ c, RelT F w t y c ∧ ∀ j v, c[j]? = some v → vs[i * t.size + j]? = some v) ∧ (∀ v ∈ vs, v.oneCell' = true) := by
  obtain ⟨cs, h1, h2⟩ := flat_cells l _ h
  have hlen : ∀ c ∈ cs, c.length = t.size := fun c hc => by
    obtain ⟨i, hi⟩ := List.getElem?_of_mem hc
    have hil : i < l.length := by rw [← h1]; exact (List.getElem?_eq_some_iff.1 hi).1
    obtain ⟨c', a1, a2, _⟩ := h2 i l[i] (List.getElem?_eq_getElem hil)
    rw [hi] at a1; cases a1; exact a2.len
  have hfl := flatten_len cs hlen
  refine ⟨cs.flatten, by rw [hfl, h1], fun j v hj => ?_, fun i y hy => ?_, fun v hv => ?_⟩
  · have hjl : j < cs.flatten.length := (List.getElem?_eq_some_iff.1 hj).1
    have hpos : 0 < t.size := by
      rcases Nat.eq_zero_or_pos t.size with e | e
      · rw [hfl, e] at hjl; omega
      · exact e
    have hil : j / t.size < l.length := by
      rw [hfl, h1] at hjl
      exact (Nat.div_lt_iff_lt_mul hpos).2 hjl
    obtain ⟨c, a1, a2, a3⟩ := h2 (j / t.size) l[j / t.size] (List.getElem?_eq_getElem hil)
    have hm := Nat.mod_lt j hpos
    have e := flatten_get cs (j / t.size) c hlen a1 (j % t.size) hm
    have hj' : j / t.size * t.size + j % t.size = j := by rw [Nat.mul_comm]; exact Nat.div_add_mod j t.size
    rw [hj', hj] at e
    have := a3 (j % t.size) v e.symm
    rw [hj'] at this; exact this
  · obtain ⟨c, a1, a2, a3⟩ := h2 i y hy
    refine ⟨c, a2, fun j v hj => ?_⟩
    have hj' : j < t.size := by rw [← a2.len]; exact (List.getElem?_eq_some_iff.1 hj).1
    rw [flatten_get cs i c hlen a1 j hj']; exact hj
  · obtain ⟨c, hc, hv⟩ := List.mem_flatten.1 hv
    obtain ⟨i, hi⟩ := List.getElem?_of_mem hc
    have hil : i < l.length := by rw [← h1]; exact (List.getElem?_eq_some_iff.1 hi).1
    obtain ⟨c', a1, a2, _⟩ := h2 i l[i] (List.getElem?_eq_getElem hil)
    rw [hi] at a1; cases a1
    exact all_oneT a2 v hv
end Go.VI
