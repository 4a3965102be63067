/- A region in any order: each order comes to what the text's own comes to. -/
import Derived.Test.YtfifgcaielmbiaaVIpb
namespace Go.VI
set_option linter.unusedVariables false
set_option linter.unusedSimpArgs false
variable {R : Type} {P : Program}

section fold
variable {ops : List Oper} {es : List Ev} {base : Nat}

theorem eff_alone {e : Ev} {j b : Nat} {H : Hp} (h : e.all = none) (hb : ∀ p, e.own = some p → b ≠ base + p.1) : e.eff base j H b = H b := by
  obtain ⟨v, own, all, d⟩ := e
  simp only at h hb; subst h
  cases own with
  | none => rfl
  | some x => exact upd_ne _ _ (hb x rfl)

theorem eff_less {e : Ev} {j b : Nat} {H H' : Hp} (h : H b = .gone ∨ H b = H' b) : e.eff base j H b = .gone ∨ e.eff base j H b = e.eff base j H' b := by
  obtain ⟨v, own, all, d⟩ := e
  cases all with
  | some _ => exact .inr rfl
  | none =>
    cases own with
    | none => exact h
    | some x =>
      show upd H (base + x.1) x.2 b = _ ∨ upd H (base + x.1) x.2 b = upd H' (base + x.1) x.2 b
      by_cases hb : b = base + x.1
      · subst hb; rw [upd_same, upd_same]; exact .inr rfl
      · rw [upd_ne _ _ hb, upd_ne _ _ hb]; exact h

/-- How an operation counts in one set and in another, at a block. -/
def Sim (es : List Ev) (base : Nat) (D' D : Nat → Bool) (b i : Nat) : Prop :=
  D' i = D i ∨ ((evAt es i).all = none ∧ ((∀ p, (evAt es i).own = some p → b ≠ base + p.1) ∨ (D' i = true ∧ ∃ k, (evAt es i).own = some (k, .gone))))

theorem hpD_less {hp0 : Hp} {D' D : Nat → Bool} {b : Nat} : ∀ {m : Nat}, (∀ i, i < m → Sim es base D' D b i) → hpD es base hp0 D' m b = .gone ∨ hpD es base hp0 D' m b = hpD es base hp0 D m b
  | 0, _ => .inr rfl
  | m + 1, h => by
    have ih := hpD_less (hp0 := hp0) (D' := D') (D := D) (b := b) (m := m) fun i hi => h i (by omega)
    simp only [hpD]
    rcases h m (by omega) with e | ⟨e1, e2⟩
    · rw [e]
      split
      · exact eff_less ih
      · exact ih
    · have alone : (∀ p, (evAt es m).own = some p → b ≠ base + p.1) → _ := fun hb => (by
        split <;> split <;> (try rw [eff_alone e1 hb]) <;> (try rw [eff_alone e1 hb]) <;> exact ih :
          (if D' m = true then (evAt es m).eff base m (hpD es base hp0 D' m) else hpD es base hp0 D' m) b = .gone ∨ (if D' m = true then (evAt es m).eff base m (hpD es base hp0 D' m) else hpD es base hp0 D' m) b = (if D m = true then (evAt es m).eff base m (hpD es base hp0 D m) else hpD es base hp0 D m) b)
      rcases e2 with e2 | ⟨e2, k, e3⟩
      · exact alone e2
      · by_cases hb : b = base + k
        · left
          rw [if_pos e2]
          unfold Ev.eff
          rw [e1, e3]
          simp only
          rw [hb, upd_same]
        · exact alone fun p hp => by rw [e3] at hp; cases hp; exact hb

theorem tmD_last {tm0 : Nat → AV} {D : Nat → Bool} {j t : Nat} (hD : D j = true) (hj : dstAt ops j = some t) : ∀ {m : Nat}, j < m → (∀ i, j < i → i < m → dstAt ops i = some t → D i = false) → tmD ops es tm0 D m t = (evAt es j).v
  | 0, h, _ => by omega
  | m + 1, h, hl => by
    simp only [tmD]
    by_cases e : m = j
    · subst e; rw [if_pos hD, hj, setDst_eq]
    · have ih := tmD_last (tm0 := tm0) hD hj (m := m) (by omega) fun i h1 h2 => hl i h1 (by omega)
      by_cases hd : dstAt ops m = some t
      · rw [if_neg (by rw [hl m (by omega) (by omega) hd]; decide)]; exact ih
      · split
        · rw [setDst_ne hd]; exact ih
        · exact ih

theorem tm_cut {tm0 : Nat → AV} {j t : Nat} : ∀ (k : Nat), tmD ops es tm0 (fun i => decide (i < j)) (j + k) t = tmD ops es tm0 (fun _ => true) j t
  | 0 => tmD_agree fun i hi _ => decide_eq_true hi
  | k + 1 => by
    show tmD ops es tm0 (fun i => decide (i < j)) (j + k + 1) t = _
    simp only [tmD]
    rw [if_neg (by simp)]
    exact tm_cut k
theorem hp_cut {hp0 : Hp} {j b : Nat} : ∀ (k : Nat), hpD es base hp0 (fun i => decide (i < j)) (j + k) b = hpD es base hp0 (fun _ => true) j b
  | 0 => hpD_agree fun i hi => .inr (decide_eq_true hi)
  | k + 1 => by
    show hpD es base hp0 (fun i => decide (i < j)) (j + k + 1) b = _
    simp only [hpD]
    rw [if_neg (by simp)]
    exact hp_cut k
theorem dD_split {d0 : List Nat} {D : Nat → Bool} : ∀ {m : Nat}, dD es d0 D m = dD es [] D m ++ d0
  | 0 => rfl
  | m + 1 => by
    simp only [dD]
    split
    · rw [dD_split, List.append_assoc]
    · exact dD_split
end fold

theorem own_last {ops : List Oper} {es : List Ev} {base : Nat} {hp0 : Hp} {D : Nat → Bool} {j k : Nat} {x : Blk} (hD : D j = true) (ha : (evAt es j).all = none) (ho : (evAt es j).own = some (k, x)) : ∀ {m : Nat}, j < m → (∀ i, j < i → i < m → D i = true → (evAt es i).all = none ∧ ∀ p, (evAt es i).own = some p → k ≠ p.1) → hpD es base hp0 D m (base + k) = x
  | 0, h, _ => by omega
  | m + 1, h, hl => by
    simp only [hpD]
    by_cases e : m = j
    · subst e
      rw [if_pos hD]
      unfold Ev.eff
      rw [ha, ho]
      exact upd_same _ _ _
    · have ih := own_last (ops := ops) (base := base) (hp0 := hp0) hD ha ho (m := m) (by omega) fun i h1 h2 => hl i h1 (by omega)
      split
      · rename_i hm
        obtain ⟨h1, h2⟩ := hl m (by omega) (by omega) hm
        rw [eff_alone h1 fun p hp => by have := h2 p hp; omega]; exact ih
      · exact ih

theorem bar_last {es : List Ev} {base : Nat} {hp0 : Hp} {D : Nat → Bool} {j b : Nat} {H' : Hp} (hD : D j = true) (ha : (evAt es j).all = some H') : ∀ {m : Nat}, j < m → (∀ i, j < i → i < m → D i = true → (evAt es i).all = none ∧ ∀ p, (evAt es i).own = some p → b ≠ base + p.1) → hpD es base hp0 D m b = H' b
  | 0, h, _ => by omega
  | m + 1, h, hl => by
    simp only [hpD]
    by_cases e : m = j
    · subst e
      rw [if_pos hD]
      unfold Ev.eff
      rw [ha]
    · have ih := bar_last (base := base) (hp0 := hp0) (b := b) hD ha (m := m) (by omega) fun i h1 h2 => hl i h1 (by omega)
      split
      · rename_i hm
        obtain ⟨h1, h2⟩ := hl m (by omega) (by omega) hm
        rw [eff_alone h1 h2]; exact ih
      · exact ih

theorem bar_less {es : List Ev} {base : Nat} {hp0 : Hp} {D : Nat → Bool} {j b : Nat} {H' : Hp} (hD : D j = true) (ha : (evAt es j).all = some H') : ∀ {m : Nat}, j < m → (∀ i, j < i → i < m → D i = true → (evAt es i).all = none ∧ ((evAt es i).own = none ∨ ∃ k, (evAt es i).own = some (k, .gone))) → hpD es base hp0 D m b = .gone ∨ hpD es base hp0 D m b = H' b
  | 0, h, _ => by omega
  | m + 1, h, hl => by
    simp only [hpD]
    by_cases e : m = j
    · subst e
      rw [if_pos hD]
      unfold Ev.eff
      rw [ha]
      exact .inr rfl
    · have ih := bar_less (base := base) (hp0 := hp0) (b := b) hD ha (m := m) (by omega) fun i h1 h2 => hl i h1 (by omega)
      split
      · rename_i hm
        obtain ⟨h1, h2⟩ := hl m (by omega) (by omega) hm
        rcases h2 with h2 | ⟨k, h2⟩
        · rw [eff_alone h1 fun p hp => by rw [h2] at hp; cases hp]; exact ih
        · by_cases hb : b = base + k
          · left
            unfold Ev.eff
            rw [h1, h2]
            simp only
            rw [hb, upd_same]
          · rw [eff_alone h1 fun p hp => by rw [h2] at hp; cases hp; exact hb]; exact ih
      · exact ih

theorem hide_seen {H : Hp} {base m : Nat} : ∀ {k b : Nat}, (∀ i, i < k → b = base + i → m.testBit i = true) → hideFor H base m k b = H b
  | 0, _, _ => rfl
  | k + 1, b, h => by
    have ih := hide_seen (H := H) (base := base) (m := m) (k := k) (b := b) fun i hi => h i (by omega)
    simp only [hideFor]
    cases hb : m.testBit k with
    | true => exact ih
    | false =>
      show upd (hideFor H base m k) (base + k) .gone b = H b
      rw [upd_ne _ _ (fun e => by rw [h k (by omega) e] at hb; cases hb)]
      exact ih

theorem Ext.rebase {g g' : Gh} {H H' K K' : Hp} {w w' : World} {D : List Nat} (h : Ext g H w D g' H' w') (h1 : ∀ b, g.G b ≠ .none → b ∈ D → H b ≠ .gone → K b ≠ .gone) (h2 : ∀ b, g.G b ≠ .none → b ∉ D → H' b = H b → K' b = K b) : Ext g K w D g' K' w' :=
  ⟨h.mono, h.more, h.size, h.frame, fun b hb hn => h1 b hn hb (h.seen b hb hn), fun b hn hb => ⟨(h.same b hn hb).1, (h.same b hn hb).2.1, h2 b hn hb (h.same b hn hb).2.2⟩, h.moved, h.turn, h.fresh, h.env⟩
theorem Ext.congrD {g g' : Gh} {H H' : Hp} {w w' : World} {D D' : List Nat} (h : Ext g H w D g' H' w') (hd : ∀ b, b ∈ D ↔ b ∈ D') : Ext g H w D' g' H' w' :=
  ⟨h.mono, fun r hF => by
    rcases h.more r hF with h1 | ⟨b, hb, h1⟩ | h1
    · exact .inl h1
    · exact .inr (.inl ⟨b, (hd b).1 hb, h1⟩)
    · exact .inr (.inr h1), h.size, fun r hr hb => h.frame r hr fun b hb' => hb b ((hd b).1 hb'), fun b hb => h.seen b ((hd b).2 hb), fun b hn hb => h.same b hn fun hb' => hb ((hd b).1 hb'), fun b hb => h.moved b ((hd b).2 hb), fun b hb => h.turn b ((hd b).2 hb), h.fresh, h.env⟩

/-- A step that sees less, and makes one block. -/
theorem Went.big {g g' : Gh} {H H' K : Hp} {w w' : World} {N : Nat → Prop} {v : AV} {u : Value} {s : Nat} (h : Went g H w N v H' [] u w' g') (hr : HRel g K w) (hs : g.G s = .none) :
    Ext g K w [] g' (upd K s (H' s)) w' ∧ HRel g' (upd K s (H' s)) w' := by
  have he : Ext g K w [] g' (upd K s (H' s)) w' := h.ext.rebase (fun b _ hb => by cases hb) fun b hn _ _ => upd_ne _ _ fun e => hn (by rw [e]; exact hs)
  have hk : Ext g K w [] g' K w' := h.ext.rebase (fun b _ hb => by cases hb) fun b hn _ _ => rfl
  refine ⟨he, ⟨fun b => ?_, fun b hb => ?_, h.rel.inj, h.rel.disj, h.rel.ex⟩⟩
  · by_cases e : b = s
    · subst e; rw [upd_same]; exact h.rel.blk b
    · rw [upd_ne _ _ e]
      by_cases hg : K b = .gone
      · rw [hg]; exact trivial
      · exact RelB.step hk hr hg (by simp)
  · by_cases e : b = s
    · subst e; rw [upd_same] at hb ⊢; exact h.rel.kd b hb
    · rw [upd_ne _ _ e] at hb ⊢
      have hg := hr.kd b hb
      have hn : g.G b ≠ .none := by rw [hg]; exact kindOf_none
      rw [(h.ext.same b hn (by simp)).1]; exact hg

/-- A step that sees less, and writes one block. -/
theorem Went.put {g g' : Gh} {H H' K K' : Hp} {w w' : World} {N : Nat → Prop} {v : AV} {u : Value} {s : Nat} (h : Went g H w N v H' [s] u w' g') (hr : HRel g K w) (hs : H s ≠ .gone → K s ≠ .gone) (h1 : K' s = H' s) (h2 : ∀ b, b ≠ s → K' b = K b) :
    Ext g K w [s] g' K' w' ∧ HRel g' K' w' := by
  have ns : ∀ {b : Nat}, b ∉ [s] → b ≠ s := fun {b} hb e => hb (by rw [e]; exact List.mem_singleton.2 rfl)
  have he : Ext g K w [s] g' K' w' := h.ext.rebase (fun b _ hb hg => by rw [List.mem_singleton.1 hb] at hg ⊢; exact hs hg) fun b hn hb _ => h2 b (ns hb)
  refine ⟨he, ⟨fun b => ?_, fun b hb => ?_, h.rel.inj, h.rel.disj, h.rel.ex⟩⟩
  · by_cases e : b = s
    · subst e; rw [h1]; exact h.rel.blk b
    · by_cases hg : K b = .gone
      · rw [h2 b e, hg]; exact trivial
      · rw [h2 b e]
        have := RelB.step he hr hg (by simp [e])
        exact this
  · by_cases e : b = s
    · subst e; rw [h1] at hb ⊢; exact h.rel.kd b hb
    · rw [h2 b e] at hb ⊢
      have hg := hr.kd b hb
      have hn : g.G b ≠ .none := by rw [hg]; exact kindOf_none
      rw [(he.same b hn (by simp [e])).1]; exact hg

/-- An operation that makes no block. -/
def Still (bd : List Nat) (ops : List Oper) (es : List Ev) (i : Nat) : Prop := (evAt es i).all = none ∧ ((evAt es i).own = none ∨ ((∃ k, (evAt es i).own = some (k, .gone)) ∧ ∃ p, ops[i]? = some p ∧ blind bd p i = true))

/-- The state in the middle of a region, some of it done. -/
structure Inv (bd : List Nat) (ops : List Oper) (es : List Ev) (base nt : Nat) (tm0 : Nat → AV) (hp0 : Hp) (g0 : Gh) (w0 : World) (D : Nat → Bool) (g : Gh) (a : Act) (w : World) : Prop where
  tm : ∀ t, RelV g w (tmD ops es tm0 D ops.length t) (a.tmps.getD t Go.undef)
  nt : a.tmps.size = nt
  df : a.defers = []
  hp : HRel g (hpD es base hp0 D ops.length) w
  sl : ∀ i, i < ops.length → (D i = false ∨ Still bd ops es i) → g.G (base + i) = .none
  fr : ∀ b, base + ops.length ≤ b → g.G b ≠ .none → ∃ i, i < ops.length ∧ D i = true ∧ (evAt es i).all ≠ none ∧ b < base + ops.length + (i + 1) * 4096
  ext : Ext g0 hp0 w0 (dD es [] D ops.length) g (hpD es base hp0 D ops.length) w
  new : ∀ b, g0.G b = .none → g.G b ≠ .none → base ≤ b

theorem tmpsOk_spec {ops : List Oper} {an : List Nat} (h : tmpsOk ops an = true) {j i t : Nat} {o p : Oper} (ho : ops[j]? = some o) (ht : t ∈ namesOf ops o) (hp : ops[i]? = some p) (hij : i ≠ j) (hd : p.dst = some t) : ordered an i j = true := by
  have hj := (List.getElem?_eq_some_iff.1 ho).1
  have hi := (List.getElem?_eq_some_iff.1 hp).1
  have h1 := List.all_eq_true.1 h j (List.mem_range.2 hj)
  rw [ho] at h1
  have h2 := List.all_eq_true.1 (List.all_eq_true.1 h1 t ht) i (List.mem_range.2 hi)
  rw [hp] at h2
  simp only [hd] at h2
  have e1 : Nat.beq i j = false := by
    cases hb : Nat.beq i j with
    | false => rfl
    | true => exact absurd (Nat.eq_of_beq_eq_true hb) hij
  rw [e1, show Nat.beq t t = true from Nat.beq_refl t] at h2
  exact h2

theorem barrier_spec {wr bd : List Nat} {ops : List Oper} {an : List Nat} {j i : Nat} {o : Oper} (h : barrier wr bd ops an j = true) (ho : ops[i]? = some o) (hij : i ≠ j) (hh : blind bd o i = false ∨ memN wr i = true) : ordered an i j = true := by
  have hi := (List.getElem?_eq_some_iff.1 ho).1
  have h1 := List.all_eq_true.1 h i (List.mem_range.2 hi)
  rw [ho] at h1
  have e1 : Nat.beq i j = false := by
    cases hb : Nat.beq i j with
    | false => rfl
    | true => exact absurd (Nat.eq_of_beq_eq_true hb) hij
  rw [e1] at h1
  have h1 : (false || ((blind bd o i && !memN wr i) || ordered an i j)) = true := h1
  rcases hh with hh | hh <;> rw [hh] at h1 <;> simpa using h1

theorem barrierAt_spec {bd : List Nat} {ops : List Oper} {an : List Nat} {j i k : Nat} {o : Oper} (h : barrierAt bd ops an j i = true) (ho : ops[k]? = some o) (hkj : k ≠ j) (hh : blind bd o k = false) (hs : ((an[k]?).getD 0).testBit i = true) : ordered an k j = true := by
  have hk := (List.getElem?_eq_some_iff.1 ho).1
  have h1 := List.all_eq_true.1 h k (List.mem_range.2 hk)
  rw [ho] at h1
  have e1 : Nat.beq k j = false := by
    cases hb : Nat.beq k j with
    | false => rfl
    | true => exact absurd (Nat.eq_of_beq_eq_true hb) hkj
  rw [e1] at h1
  have h1 : (false || (blind bd o k || ((!((an[k]?).getD 0).testBit i) || ordered an k j))) = true := h1
  rw [hh, hs] at h1
  simpa using h1

theorem ordered_comm {an : List Nat} {i j : Nat} (hij : i ≠ j) (h : ordered an i j = true) : ordered an j i = true := by
  unfold ordered at h ⊢
  rcases Nat.lt_or_gt_of_ne hij with hl | hl
  · have e1 : Nat.blt i j = true := Nat.ble_eq_true_of_le hl
    have e2 : Nat.blt j i = false := by
      cases hb : Nat.blt j i with
      | false => rfl
      | true => have : j < i := Nat.le_of_ble_eq_true hb; omega
    rw [e1] at h; rw [e2]; exact h
  · have e1 : Nat.blt j i = true := Nat.ble_eq_true_of_le hl
    have e2 : Nat.blt i j = false := by
      cases hb : Nat.blt i j with
      | false => rfl
      | true => have : i < j := Nat.le_of_ble_eq_true hb; omega
    rw [e2] at h; rw [e1]; exact h

section step
variable {ops : List Oper} {es : List Ev} {base nt : Nat} {tm0 : Nat → AV} {hp0 : Hp} {g0 : Gh} {w0 : World} {D D' : Nat → Bool} {g : Gh} {a : Act} {w : World} {wr bd : List Nat} {j : Nat} {o : Oper}

theorem ord_of (hD : ∀ j o, ops[j]? = some o → D j = true → ∀ e ∈ o.after.toList, Region.binds .any e = true → D e.on = true) (ho : ops[j]? = some o) (hj : D j = false) (hall : ∀ e ∈ o.after.toList, Region.binds .any e = true → D e.on = true)
    {i : Nat} {p : Oper} (hp : ops[i]? = some p) (hij : i ≠ j) (h : ordered (ancs ops []) i j = true) : D i = decide (i < j) := by
  unfold ordered at h
  rcases Nat.lt_or_gt_of_ne hij with hl | hl
  · rw [show Nat.blt i j = true from Nat.ble_eq_true_of_le hl] at h
    rw [decide_eq_true hl]
    exact anc_closed hD j o i ho hall h
  · have e2 : Nat.blt i j = false := by
      cases hb : Nat.blt i j with
      | false => rfl
      | true => have : i < j := Nat.le_of_ble_eq_true hb; omega
    rw [e2] at h
    rw [decide_eq_false (by omega)]
    cases hi : D i with
    | false => rfl
    | true =>
      have := anc_closed hD i p j hp (hD i p hp hi) h
      rw [hj] at this; cases this

theorem Inv.put (h : Inv bd ops es base nt tm0 hp0 g0 w0 D g a w) (ho : ops[j]? = some o) (hj : D j = false) (hD1 : D' j = true) (hDn : ∀ i, i ≠ j → D' i = D i) (hdst : dstOk nt o.dst = true)
    (htm : ∀ t, tmD ops es tm0 D' ops.length t = setDst o.dst (tmD ops es tm0 D ops.length) (evAt es j).v t) {g' : Gh} {w' : World} {u : Value}
    (he : Ext g (hpD es base hp0 D ops.length) w (evAt es j).d g' (hpD es base hp0 D' ops.length) w') (hr : HRel g' (hpD es base hp0 D' ops.length) w') (hv : RelV g' w' (evAt es j).v u)
    (hnew : ∀ b, g.G b = .none → g'.G b ≠ .none → b = base + j ∨ ((evAt es j).all ≠ none ∧ base + ops.length + j * 4096 ≤ b ∧ b < base + ops.length + (j + 1) * 4096))
    (hst : Still bd ops es j → g'.G (base + j) = .none) : Inv bd ops es base nt tm0 hp0 g0 w0 D' g' (a.put o.dst u) w' := by
  have hjl := (List.getElem?_eq_some_iff.1 ho).1
  refine ⟨fun t => ?_, by rw [put_size]; exact h.nt, by rw [put_defers]; exact h.df, hr, fun i hi hor => ?_, fun b hb hn => ?_, ?_, fun b h1 h2 => ?_⟩
  · rw [htm]
    exact put_tm (fun t => (h.tm t).step he h.hp) h.nt hdst hv t
  · by_cases e : i = j
    · subst e
      rcases hor with hor | hor
      · rw [hD1] at hor; cases hor
      · exact hst hor
    · rw [hDn i e] at hor
      have h1 := h.sl i hi hor
      by_cases h2 : g'.G (base + i) = .none
      · exact h2
      · rcases hnew _ h1 h2 with e' | ⟨_, e', _⟩ <;> omega
  · by_cases h1 : g.G b = .none
    · rcases hnew b h1 hn with e | ⟨e1, _, e2⟩
      · omega
      · exact ⟨j, hjl, hD1, e1, e2⟩
    · obtain ⟨i, a1, a2, a3, a4⟩ := h.fr b hb h1
      exact ⟨i, a1, by rw [hDn i (fun e => by rw [e, hj] at a2; cases a2)]; exact a2, a3, a4⟩
  · refine (h.ext.trans he h.hp).congrD fun b => ?_
    rw [List.mem_append, dD_mem, dD_mem]
    constructor
    · rintro (hb | hb | ⟨i, b1, b2, b3⟩)
      · exact .inr ⟨j, hjl, hD1, hb⟩
      · cases hb
      · exact .inr ⟨i, b1, by rw [hDn i (fun e => by rw [e, hj] at b2; cases b2)]; exact b2, b3⟩
    · rintro (hb | ⟨i, b1, b2, b3⟩)
      · cases hb
      · by_cases e : i = j
        · subst e; exact .inl b3
        · exact .inr (.inr ⟨i, b1, by rw [← hDn i e]; exact b2, b3⟩)
  · by_cases h3 : g.G b = .none
    · rcases hnew b h3 h2 with e | ⟨_, e, _⟩ <;> omega
    · exact h.new b h1 h3

theorem Inv.step (hF : ∀ i o, ops[i]? = some o → dstOk nt o.dst = true ∧ Fact P wr bd ops base (base + ops.length) i o (tmD ops es tm0 (fun _ => true) i) (hpD es base hp0 (fun _ => true) i) (evAt es i))
    (hT : tmpsOk ops (ancs ops []) = true) (hD : ∀ j o, ops[j]? = some o → D j = true → ∀ e ∈ o.after.toList, Region.binds .any e = true → D e.on = true)
    (h : Inv bd ops es base nt tm0 hp0 g0 w0 D g a w) (ho : ops[j]? = some o) (hj : D j = false) (hall : ∀ e ∈ o.after.toList, Region.binds .any e = true → D e.on = true) (hD1 : D' j = true) (hDn : ∀ i, i ≠ j → D' i = D i)
    {Q : Exit → Act → World → Prop} {K : Act → World → Prop} (hK : ∀ g' a' w', Inv bd ops es base nt tm0 hp0 g0 w0 D' g' a' w' → K a' w') : wpOp P ops.toArray Q j K a w := by
  have hjl := (List.getElem?_eq_some_iff.1 ho).1
  have hoA : ops.toArray[j]? = some o := by simpa using ho
  obtain ⟨hdst, hf⟩ := hF j o ho
  have hdj : dstAt ops j = o.dst := by simp [dstAt, ho]
  have dst_get : ∀ {i t : Nat}, dstAt ops i = some t → ∃ p, ops[i]? = some p ∧ p.dst = some t := fun {i t} h => by
    unfold dstAt at h
    cases hp : ops[i]? with
    | none => rw [hp] at h; cases h
    | some p => rw [hp] at h; exact ⟨p, rfl, h⟩
  have hord : ∀ {i : Nat} {p : Oper}, ops[i]? = some p → i ≠ j → ordered (ancs ops []) i j = true → D i = decide (i < j) := fun hp hij h => ord_of hD ho hj hall hp hij h
  -- the slots that are named
  have hwr : ∀ t ∈ namesOf ops o, ∀ i, i ≠ j → dstAt ops i = some t → D i = decide (i < j) := fun t ht i hij hd => by
    obtain ⟨p, hp, hpd⟩ := dst_get hd
    exact hord hp hij (tmpsOk_spec hT ho ht hp hij hpd)
  have hnm : ∀ t ∈ namesOf ops o, tmD ops es tm0 D ops.length t = tmD ops es tm0 (fun _ => true) j t := fun t ht => by
    have h1 : tmD ops es tm0 D ops.length t = tmD ops es tm0 (fun i => decide (i < j)) ops.length t := tmD_agree fun i hi hd => by
      by_cases e : i = j
      · subst e; rw [hj]; simp
      · exact hwr t ht i e hd
    rw [h1]
    have := tm_cut (ops := ops) (es := es) (tm0 := tm0) (j := j) (t := t) (ops.length - j)
    rw [show j + (ops.length - j) = ops.length by omega] at this
    exact this
  have htm : ∀ t, tmD ops es tm0 D' ops.length t = setDst o.dst (tmD ops es tm0 D ops.length) (evAt es j).v t := fun t => by
    by_cases hd : o.dst = some t
    · rw [hd, setDst_eq]
      refine tmD_last hD1 (by rw [hdj]; exact hd) hjl fun i h1 h2 h3 => ?_
      rw [hDn i (by omega), hwr t (by unfold namesOf; rw [hd]; exact List.mem_append_left _ (List.mem_singleton.2 rfl)) i (by omega) h3]
      exact decide_eq_false (by omega)
    · rw [setDst_ne hd]
      exact tmD_agree fun i hi h1 => hDn i fun e => hd (by rw [← hdj, ← e]; exact h1)
  have hops : ∀ x, RelV g w (evalO (seen o (tmD ops es tm0 (fun _ => true) j)) x) (a.eval x) := fun x => by
    cases x with
    | tmp t =>
      show RelV g w (br (memN (tmpsOf o.op.operands) t) (tmD ops es tm0 (fun _ => true) j t) .undef) _
      cases hm : memN (tmpsOf o.op.operands) t with
      | false => exact .undef _
      | true =>
        have ht : t ∈ tmpsOf o.op.operands := by rw [← seen_eval.memN_iff']; exact hm
        show RelV g w (tmD ops es tm0 (fun _ => true) j t) _
        rw [← hnm t (by unfold namesOf; exact List.mem_append_right _ (List.mem_append_left _ ht))]
        exact h.tm t
    | const v => exact const_sound v
    | func f => exact .fn _ _ _ _ _ (fun _ => Go.undef) (fun _ => Go.undef) rfl rfl (fun j c h => by simp at h) (fun j c h => by simp at h) (fun j c h => by simp at h) (fun j c h => by simp at h)
    | global i => exact .undef _
  have hwant : ∀ {b : Bool}, Wants ops o (tmD ops es tm0 (fun _ => true) j) b → Region.wanted o (yielded ops.toArray a.tmps) = b := fun {b} hw => by
    rcases hw with ⟨hg, rfl⟩ | ⟨gi, want, t, hg, ht, hor⟩
    · exact wanted_none hg
    · have htA : (ops.toArray[gi]?).bind (·.dst) = some t := by simpa using ht
      have htm := h.tm t
      rw [hnm t (by unfold namesOf; rw [hg]; simp only [ht]; exact List.mem_append_right _ (List.mem_append_right _ (by simp)))] at htm
      rcases hor with ⟨c, hc, rfl⟩ | ⟨hc, rfl⟩
      · rw [hc] at htm
        generalize hv : a.tmps.getD t Go.undef = v at htm
        cases htm
        have hy := yielded_bool htA hv
        simp only [Region.wanted, hg, hy]
        cases c <;> cases want <;> rfl
      · rw [hc] at htm
        have hy := yielded_tup htA (relV_tup0 htm)
        simp only [Region.wanted, hg, hy]; rfl
  have slotj : g.G (base + j) = .none := h.sl j hjl (.inl hj)
  unfold wpOp
  simp only [hoA]
  -- effects of the others
  have keepH : ∀ {b : Nat}, (∀ p, (evAt es j).own = some p → b ≠ base + p.1) → (evAt es j).all = none → hpD es base hp0 D' ops.length b = hpD es base hp0 D ops.length b := fun {b} hb he => hpD_agree fun i hi => by
    by_cases e : i = j
    · subst e; exact .inl fun H => eff_alone he hb
    · exact .inr (hDn i e)
  -- what an operation that looks at the heap may see is there
  have hlessO : blind bd o j = false → ∀ b, hideFor (hpD es base hp0 (fun _ => true) j) base (((ancs ops [])[j]?).getD 0) ops.length b = .gone ∨ hideFor (hpD es base hp0 (fun _ => true) j) base (((ancs ops [])[j]?).getD 0) ops.length b = hpD es base hp0 D ops.length b := fun hl b => by
      rcases hide_spec (H := hpD es base hp0 (fun _ => true) j) (base := base) (m := ((ancs ops [])[j]?).getD 0) (k := ops.length) (b := b) with hb | ⟨hb, hb'⟩
      · exact .inl hb
      · rw [hb]
        have := hp_cut (es := es) (base := base) (hp0 := hp0) (j := j) (b := b) (ops.length - j)
        rw [show j + (ops.length - j) = ops.length by omega] at this
        rw [← this]
        refine hpD_less fun i hi => ?_
        by_cases e : i = j
        · subst e; left; rw [hj]; simp
        obtain ⟨p, hp⟩ : ∃ p, ops[i]? = some p := ⟨_, List.getElem?_eq_getElem hi⟩
        obtain ⟨_, hfi⟩ := hF i p hp
        have bit : ∀ i, i < ops.length → b = base + i → decide (i < j) = D i := fun i hi e => by
          have hbit := hb' i hi e
          rw [decide_eq_true (anc_lt _ _ hbit)]
          exact (anc_closed hD j o i ho hall hbit).symm
        rcases hfi with ⟨_, hx⟩ | ⟨_, ⟨hx, hx2, _⟩ | ⟨_, hx2, _, H1, hx, _⟩ | ⟨_, hbi, _⟩ | ⟨_, hx2, k, H1, hk1, hk2, hx, _⟩⟩
        · exact .inr ⟨by rw [hx], .inl fun p hp => by rw [hx] at hp; cases hp⟩
        · by_cases hbi : b = base + i
          · exact .inl (bit i hi hbi)
          · exact .inr ⟨hx2, .inl fun p hp => by rw [hx] at hp; cases hp; exact hbi⟩
        · by_cases hbi : b = base + i
          · exact .inl (bit i hi hbi)
          · exact .inr ⟨hx2, .inl fun p hp => by rw [hx] at hp; cases hp; exact hbi⟩
        · exact .inl (hord hp e (ordered_comm (Ne.symm e) (barrier_spec hbi ho (Ne.symm e) (.inl hl)))).symm
        · by_cases hbi : b = base + k
          · have hkl : k < ops.length := by have := anc_lt _ _ hk1; omega
            exact .inl (hord hp e (ordered_comm (Ne.symm e) (barrierAt_spec hk2 ho (Ne.symm e) hl (hb' k hkl hbi)))).symm
          · exact .inr ⟨hx2, .inl fun p hp => by rw [hx] at hp; cases hp; exact hbi⟩
  have hfrO : blind bd o j = false → ∀ b, base + ops.length + j * 4096 ≤ b → g.G b = .none := fun hl b hb => by
      by_cases hn : g.G b = .none
      · exact hn
      · exfalso
        obtain ⟨i, a1, a2, a3, a4⟩ := h.fr b (by omega) hn
        obtain ⟨p, hp⟩ : ∃ p, ops[i]? = some p := ⟨_, List.getElem?_eq_getElem a1⟩
        have e : i ≠ j := fun e => by rw [e, hj] at a2; cases a2
        obtain ⟨_, hfi⟩ := hF i p hp
        rcases hfi with ⟨_, hx⟩ | ⟨_, ⟨_, hx, _⟩ | ⟨_, hx, _⟩ | ⟨_, hbi, _⟩ | ⟨_, hx, _⟩⟩
        · rw [hx] at a3; exact a3 rfl
        · exact a3 hx
        · exact a3 hx
        · have hd := hord hp e (ordered_comm (Ne.symm e) (barrier_spec hbi ho (Ne.symm e) (.inl hl)))
          rw [a2] at hd
          have : i < j := of_decide_eq_true hd.symm
          have : (i + 1) * 4096 ≤ j * 4096 := Nat.mul_le_mul_right _ (by omega)
          omega
        · exact a3 hx
  rcases hf with ⟨hw, hev⟩ | ⟨hw, hrest⟩
  · -- passed over
    rw [hwant hw, if_neg (by decide)]
    refine hK g _ w ?_
    have hh : ∀ b, hpD es base hp0 D' ops.length b = hpD es base hp0 D ops.length b := fun b => hpD_agree fun i hi => by
      by_cases e : i = j
      · subst e; exact .inl fun H => eff_alone (by rw [hev]) fun p hp => by rw [hev] at hp; cases hp
      · exact .inr (hDn i e)
    refine h.put ho hj hD1 hDn hdst htm (u := Go.undef) ?_ ?_ (by rw [hev]; exact relV_undef g w) (fun b h1 h2 => absurd h1 h2) (fun _ => slotj)
    · rw [hev]; exact (Ext.refl g (hpD es base hp0 D ops.length) w).rebase (fun b _ hb => by cases hb) fun b _ _ _ => hh b
    · exact h.hp.less fun b => .inr (hh b)
  rw [hwant hw, if_pos rfl]
  left
  rcases hrest with ⟨e1, e2, e3, hl, hop⟩ | ⟨hl, e2, e3, H', e1, hop⟩ | ⟨hwj, hbar, H', n', e1, hn', hop⟩ | ⟨hl, e2, k, H', hk1, hk2, e1, e3, hop⟩
  · -- without the heap
    obtain ⟨u, h1, h2⟩ := hop g a w fun x hx => by rw [← seen_eval hx]; exact hops x
    unfold Oper.wp
    rw [h1]
    refine hK g _ w (h.put ho hj hD1 hDn hdst htm ?_ ?_ h2 (fun b h1 h2 => absurd h1 h2) (fun _ => slotj))
    · rw [e3]; exact (Ext.refl g (hpD es base hp0 D ops.length) w).rebase (fun b _ hb => by cases hb) fun b hn _ _ => keepH (fun p hp e => hn (by rw [e1] at hp; cases hp; rw [e]; exact slotj)) e2
    · exact h.hp.less fun b => hpD_less fun i hi => by
        by_cases e : i = j
        · subst e; exact .inr ⟨e2, .inr ⟨hD1, _, e1⟩⟩
        · exact .inl (hDn i e)
  · -- one block of its own
    have hless := hlessO hl
    have hfr := hfrO hl
    refine Gives.wp ((hop.2 g a w (h.hp.less hless) hops slotj hfr)) fun u w' ⟨g', hw⟩ => ?_
    have hnew : ∀ b, g.G b = .none → g'.G b ≠ .none → b = base + j := fun b h1 h2 => by
      rcases hw.new b h1 h2 with e | ⟨h3, h4⟩
      · exact e
      · omega
    obtain ⟨b1, b2⟩ := hw.big h.hp slotj
    have hh : ∀ b, hpD es base hp0 D' ops.length b = upd (hpD es base hp0 D ops.length) (base + j) (H' (base + j)) b := fun b => by
      by_cases hb : b = base + j
      · subst hb
        rw [upd_same]
        refine own_last (ops := ops) hD1 e2 e1 hjl fun i h1 h2 h3 => ?_
        obtain ⟨p, hp⟩ : ∃ p, ops[i]? = some p := ⟨_, List.getElem?_eq_getElem h2⟩
        rw [hDn i (by omega)] at h3
        obtain ⟨_, hfi⟩ := hF i p hp
        rcases hfi with ⟨_, hx⟩ | ⟨_, ⟨hx', hx, _⟩ | ⟨_, hx, _, H1, hx', _⟩ | ⟨_, hbi, _⟩ | ⟨_, hx, k, H1, hk1, hk2, hx', _⟩⟩
        · rw [hx]; exact ⟨rfl, fun p hp => by cases hp⟩
        · exact ⟨hx, fun p hp => by rw [hx'] at hp; cases hp; show j ≠ i; omega⟩
        · exact ⟨hx, fun p hp => by rw [hx'] at hp; cases hp; show j ≠ i; omega⟩
        · have hd := hord hp (by omega) (ordered_comm (by omega) (barrier_spec hbi ho (by omega) (.inl hl)))
          rw [h3] at hd
          have : i < j := of_decide_eq_true hd.symm
          omega
        · refine ⟨hx, fun q hq => ?_⟩
          rw [hx'] at hq; cases hq
          show j ≠ k
          intro e
          subst e
          have := anc_closed hD i p j hp (hD i p hp h3) hk1
          rw [hj] at this; cases this
      · rw [upd_ne _ _ hb]; exact keepH (fun p hp => by rw [e1] at hp; cases hp; exact hb) e2
    refine hK g' _ w' (h.put ho hj hD1 hDn hdst htm ?_ ?_ hw.val (fun b h1 h2 => .inl (hnew b h1 h2)) fun hs => ?_)
    · rw [e3]; exact b1.rebase (fun b _ hb => by cases hb) fun b hn _ e => by rw [hh]; exact e
    · exact b2.less fun b => .inr (hh b)
    · obtain ⟨_, hs | ⟨_, p, hp, hs⟩⟩ := hs
      · rw [e1] at hs; cases hs
      · rw [ho] at hp; cases hp
        rw [hl] at hs; cases hs
  · -- the heap as a whole
    have cls : ∀ i, i < ops.length → i ≠ j → Still bd ops es i ∨ D i = decide (i < j) := fun i hi e => by
      obtain ⟨p, hp⟩ : ∃ p, ops[i]? = some p := ⟨_, List.getElem?_eq_getElem hi⟩
      obtain ⟨_, hfi⟩ := hF i p hp
      rcases hfi with ⟨_, hx⟩ | ⟨_, ⟨hx1, hx2, _, hx3, _⟩ | ⟨hx, _⟩ | ⟨hx, _⟩ | ⟨hx, _⟩⟩
      · exact .inl ⟨by rw [hx], .inl (by rw [hx])⟩
      · exact .inl ⟨hx2, .inr ⟨⟨_, hx1⟩, p, hp, hx3⟩⟩
      · exact .inr (hord hp e (barrier_spec hbar hp e (.inl hx)))
      · exact .inr (hord hp e (barrier_spec hbar hp e (.inr hx)))
      · exact .inr (hord hp e (barrier_spec hbar hp e (.inl hx)))
    -- operations that make nothing have their own place
    have own : ∀ i, i < ops.length → ∀ k, (evAt es i).own = some (k, .gone) → Still bd ops es i → k = i := fun i hi k hk hst => by
      obtain ⟨p, hp⟩ : ∃ p, ops[i]? = some p := ⟨_, List.getElem?_eq_getElem hi⟩
      obtain ⟨_, hfi⟩ := hF i p hp
      obtain ⟨h0, hst | ⟨_, p', hp', hst⟩⟩ := hst
      · rw [hst] at hk; cases hk
      · rw [hp] at hp'; cases hp'
        rcases hfi with ⟨_, hx⟩ | ⟨_, ⟨hx, _⟩ | ⟨hx, _⟩ | ⟨_, _, H1, n1, hx, _⟩ | ⟨hx, _⟩⟩
        · rw [hx] at hk; cases hk
        · rw [hx] at hk; cases hk; rfl
        · rw [hst] at hx; cases hx
        · rw [h0] at hx; cases hx
        · rw [hst] at hx; cases hx
    have bit : ∀ i, (2 ^ j - 1).testBit i = decide (i < j) := fun i => Nat.testBit_two_pow_sub_one j i
    have hless : ∀ b, hideFor (hpD es base hp0 (fun _ => true) j) base (2 ^ j - 1) ops.length b = .gone ∨ hideFor (hpD es base hp0 (fun _ => true) j) base (2 ^ j - 1) ops.length b = hpD es base hp0 D ops.length b := fun b => by
      rcases hide_spec (H := hpD es base hp0 (fun _ => true) j) (base := base) (m := 2 ^ j - 1) (k := ops.length) (b := b) with hb | ⟨hb, hb'⟩
      · exact .inl hb
      · rw [hb]
        have := hp_cut (es := es) (base := base) (hp0 := hp0) (j := j) (b := b) (ops.length - j)
        rw [show j + (ops.length - j) = ops.length by omega] at this
        rw [← this]
        refine hpD_less fun i hi => ?_
        by_cases e : i = j
        · subst e; left; rw [hj]; simp
        rcases cls i hi e with hst | hs
        · obtain ⟨hs1, hs2⟩ := hst
          rcases hs2 with hs2 | ⟨⟨k, hs2⟩, hs3⟩
          · exact .inr ⟨hs1, .inl fun p hp => by rw [hs2] at hp; cases hp⟩
          · have hk := own i hi k hs2 ⟨hs1, .inr ⟨⟨k, hs2⟩, hs3⟩⟩
            subst hk
            by_cases hbi : b = base + k
            · have := hb' k hi hbi
              rw [bit] at this
              exact .inr ⟨hs1, .inr ⟨this, _, hs2⟩⟩
            · exact .inr ⟨hs1, .inl fun p hp => by rw [hs2] at hp; cases hp; exact hbi⟩
        · exact .inl hs.symm
    have hfr : ∀ b, base + ops.length + j * 4096 ≤ b → g.G b = .none := fun b hb => by
      by_cases hn : g.G b = .none
      · exact hn
      · exfalso
        obtain ⟨i, a1, a2, a3, a4⟩ := h.fr b (by omega) hn
        have e : i ≠ j := fun e => by rw [e, hj] at a2; cases a2
        rcases cls i a1 e with ⟨hs, _⟩ | hd
        · exact a3 hs
        · rw [a2] at hd
          have : i < j := of_decide_eq_true hd.symm
          have : (i + 1) * 4096 ≤ j * 4096 := Nat.mul_le_mul_right _ (by omega)
          omega
    refine Gives.wp ((hop.2 g a w (h.hp.less hless) hops slotj hfr)) fun u w' ⟨g', hw⟩ => ?_
    have hle : ∀ b, hpD es base hp0 D' ops.length b = .gone ∨ hpD es base hp0 D' ops.length b = H' b := fun b => bar_less hD1 e1 hjl fun i h1 h2 h3 => by
      rw [hDn i (by omega)] at h3
      rcases cls i h2 (by omega) with ⟨hs1, hs2⟩ | hd
      · exact ⟨hs1, hs2.imp id And.left⟩
      · rw [h3] at hd
        have : i < j := of_decide_eq_true hd.symm
        omega
    -- a block that there is has been made ahead
    have live : ∀ b, g.G b ≠ .none → ∀ i, i < ops.length → b = base + i → D i = true ∧ ¬ Still bd ops es i ∧ i < j := fun b hn i hi e => by
      subst e
      have hDi : D i = true := by
        cases hd : D i with
        | true => rfl
        | false => exact absurd (h.sl i hi (.inl hd)) hn
      have hns : ¬ Still bd ops es i := fun hs => hn (h.sl i hi (.inr hs))
      refine ⟨hDi, hns, ?_⟩
      have e : i ≠ j := fun e => by rw [e, hj] at hDi; cases hDi
      rcases cls i hi e with hs | hd
      · exact absurd hs hns
      · rw [hDi] at hd; exact of_decide_eq_true hd.symm
    refine hK g' _ w' (h.put ho hj hD1 hDn hdst htm (hw.ext.rebase (fun b hn _ hg => ?_) fun b hn _ e => ?_) (hw.rel.less hle) hw.val (fun b h1 h2 => ?_) fun hs => ?_)
    · rcases hless b with e | e
      · exact absurd e hg
      · rw [← e]; exact hg
    · have e3 : hpD es base hp0 D' ops.length b = H' b := bar_last hD1 e1 hjl fun i h1 h2 h3 => by
        rw [hDn i (by omega)] at h3
        rcases cls i h2 (by omega) with hst | hd
        · refine ⟨hst.1, fun p hp e => ?_⟩
          rcases hst.2 with hs2 | ⟨⟨k, hs2⟩, _⟩
          · rw [hs2] at hp; cases hp
          · have hk := own i h2 k hs2 hst
            rw [hs2] at hp; cases hp
            have := (live b hn i h2 (by rw [e, ← hk])).2.2
            omega
        · rw [h3] at hd
          have : i < j := of_decide_eq_true hd.symm
          omega
      have e4 : hideFor (hpD es base hp0 (fun _ => true) j) base (2 ^ j - 1) ops.length b = hpD es base hp0 (fun _ => true) j b := hide_seen fun i hi e => by
        rw [bit]; exact decide_eq_true (live b hn i hi e).2.2
      have e5 := hp_cut (es := es) (base := base) (hp0 := hp0) (j := j) (b := b) (ops.length - j)
      rw [show j + (ops.length - j) = ops.length by omega] at e5
      rw [e3, e, e4, ← e5]
      refine hpD_agree fun i hi => ?_
      by_cases e : i = j
      · subst e; right; rw [hj]; simp
      rcases cls i hi e with hs | hd
      · refine .inl fun H => eff_alone hs.1 fun p hp e => ?_
        rcases hs.2 with hs2 | ⟨⟨k, hs2⟩, _⟩
        · rw [hs2] at hp; cases hp
        · have hk := own i hi k hs2 hs
          rw [hs2] at hp; cases hp
          exact (live b hn i hi (by rw [e, ← hk])).2.1 hs
      · exact .inr hd.symm
    · rcases hw.new b h1 h2 with e | ⟨h3, h4⟩
      · exact .inl e
      · exact .inr ⟨by rw [e1]; exact (fun h => by cases h), h3, by omega⟩
    · rw [hs.1] at e1; cases e1
  · -- one block that the region made
    have hless := hlessO hl
    refine Gives.wp ((hop.2 g a w (h.hp.less hless) hops slotj (hfrO hl))) fun u w' ⟨g', hw⟩ => ?_
    have h1 : hpD es base hp0 D' ops.length (base + k) = H' (base + k) := own_last (ops := ops) hD1 e2 e1 hjl fun i h1 h2 h3 => by
      obtain ⟨p, hp⟩ : ∃ p, ops[i]? = some p := ⟨_, List.getElem?_eq_getElem h2⟩
      rw [hDn i (by omega)] at h3
      have hkj := anc_lt _ _ hk1
      obtain ⟨_, hfi⟩ := hF i p hp
      rcases hfi with ⟨_, hx⟩ | ⟨_, ⟨hx', hx, _⟩ | ⟨_, hx, _, H1, hx', _⟩ | ⟨_, hbi, _⟩ | ⟨hpl, hx, k', H1, hk1', hk2', hx', _⟩⟩
      · rw [hx]; exact ⟨rfl, fun p hp => by cases hp⟩
      · exact ⟨hx, fun p hp => by rw [hx'] at hp; cases hp; show k ≠ i; omega⟩
      · exact ⟨hx, fun p hp => by rw [hx'] at hp; cases hp; show k ≠ i; omega⟩
      · have hd := hord hp (by omega) (ordered_comm (by omega) (barrier_spec hbi ho (by omega) (.inl hl)))
        rw [h3] at hd
        have : i < j := of_decide_eq_true hd.symm
        omega
      · refine ⟨hx, fun q hq => ?_⟩
        rw [hx'] at hq; cases hq
        show k ≠ k'
        intro e
        subst e
        have hd := hord hp (by omega) (barrierAt_spec hk2 hp (by omega) hpl hk1')
        rw [h3] at hd
        have : i < j := of_decide_eq_true hd.symm
        omega
    obtain ⟨b1, b2⟩ := hw.put (K := hpD es base hp0 D ops.length) (K' := hpD es base hp0 D' ops.length) h.hp (fun hg => by
      rcases hless (base + k) with e | e
      · exact absurd e hg
      · rw [← e]; exact hg) h1 fun b hb => keepH (fun p hp => by rw [e1] at hp; cases hp; exact hb) e2
    refine hK g' _ w' (h.put ho hj hD1 hDn hdst htm (by rw [e3]; exact b1) b2 hw.val (fun b h1 h2 => ?_) fun hs => ?_)
    · rcases hw.new b h1 h2 with e | ⟨h3, h4⟩
      · exact .inl e
      · omega
    · obtain ⟨_, hs | ⟨_, p, hp, hs⟩⟩ := hs
      · rw [e1] at hs; cases hs
      · rw [ho] at hp; cases hp
        rw [hl] at hs; cases hs
end step

theorem countP_set {f f' : Nat → Bool} {j : Nat} (h1 : f j = true) (h2 : f' j = false) (h : ∀ i, i ≠ j → f' i = f i) : ∀ m, ((List.range m).countP f' = if j < m then (List.range m).countP f - 1 else (List.range m).countP f) ∧ (j < m → 0 < (List.range m).countP f)
  | 0 => by simp
  | m + 1 => by
    obtain ⟨i1, i2⟩ := countP_set h1 h2 h m
    rw [List.range_succ, List.countP_append, List.countP_append, List.countP_singleton, List.countP_singleton, i1]
    by_cases e : m = j
    · subst e
      rw [h1, h2, if_neg (Nat.lt_irrefl _), if_pos (Nat.lt_succ_self _), if_pos rfl, if_neg (by decide)]
      exact ⟨by omega, fun _ => by omega⟩
    · rw [h m e]
      generalize (if f m = true then 1 else 0) = k
      by_cases hl : j < m
      · have := i2 hl
        rw [if_pos hl, if_pos (by omega)]
        exact ⟨by omega, fun _ => by omega⟩
      · rw [if_neg hl, if_neg (by omega)]
        exact ⟨rfl, fun h => by omega⟩

theorem edgesOk_spec {ops : List Oper} (h : edgesOk ops = true) {j : Nat} {o : Oper} (ho : ops[j]? = some o) : ∀ e ∈ o.after.toList, Region.binds .any e = true → e.on < j := by
  intro e he hb
  have hj := (List.getElem?_eq_some_iff.1 ho).1
  have h1 := List.all_eq_true.1 h j (List.mem_range.2 hj)
  rw [ho] at h1
  have h2 := List.all_eq_true.1 h1 e he
  rw [hb] at h2
  exact Nat.le_of_ble_eq_true (show Nat.ble (e.on + 1) j = true from h2)

/-- A region in any order. -/
theorem region_any {E : FuncId → Option Entry} {inl : Inl R} (hE : ∀ f e, E f = some e → Holds P f e) (hI : InlOk P inl) {H : Hints} {id : Nat} {ops : List Oper} {st : St} {κ : KC R} {r : R} (h : regionO P E inl H id ops true st κ = some r) :
    ∃ st', κ .normal st' = some r ∧ st.n ≤ st'.n ∧ ∀ (g : Gh) (a : Act) (w : World) (Q : Exit → Act → World → Prop), Rel g st a w → EndsQ st.n g st w st' Q →
      wpAny P .any ops.toArray Q ops.toArray.size (Array.replicate ops.toArray.size false) a { w with drawn := w.drawn + 1 } := by
  have h : br ((edgesOk ops).and (tmpsOk ops (ancs ops []))) (runOps P E inl H id ops (ancs ops []) true st.n ops 0 { st with n := st.n + ops.length } fun st' => κ .normal { st' with n := st'.n + ops.length * 4096 }) none = some r := h
  obtain ⟨hck, h⟩ := br_none h
  obtain ⟨hed, hT⟩ := and_spec hck
  obtain ⟨es, h1, h2, hF⟩ := runOps_text (tm0 := st.tm) (hp0 := st.hp) (d0 := st.dirty) (nt := st.nt) (nn := st.n + ops.length) hE hI ops [] { st with n := st.n + ops.length } (fun i => by simp) (by simp) rfl rfl rfl rfl rfl h
  simp only [List.nil_append, List.length_nil] at h2 hF
  refine ⟨_, h2, by show st.n ≤ st.n + ops.length + ops.length * 4096; omega, fun g0 a0 w0 Q hr hQ => ?_⟩
  have fin : ∀ (D : Nat → Bool) g a w, (∀ i, i < ops.length → D i = true) → Inv (H.bd id) ops es st.n st.nt st.tm st.hp g0 w0 D g a w → Q .normal a w := fun D g a w hD hi => by
    have et : ∀ t, tmD ops es st.tm D ops.length t = tmD ops es st.tm (fun _ => true) ops.length t := fun t => tmD_agree fun i hi _ => hD i hi
    have eh : hpD es st.n st.hp D ops.length = hpD es st.n st.hp (fun _ => true) ops.length := funext fun b => hpD_agree fun i hi => .inr (hD i hi)
    refine hQ a w g ⟨fun t => ?_, hi.nt, hi.df, ?_, fun b hb => ?_⟩ ⟨⟨dD es [] (fun _ => true) ops.length, dD_split, ?_⟩, hi.new, ?_, rfl⟩
    · show RelV g w (tmD ops es st.tm (fun _ => true) ops.length t) _
      rw [← et]; exact hi.tm t
    · show HRel g (hpD es st.n st.hp (fun _ => true) ops.length) w
      rw [← eh]; exact hi.hp
    · have hb : st.n + ops.length + ops.length * 4096 ≤ b := hb
      by_cases hn : g.G b = .none
      · exact hn
      · obtain ⟨i, a1, _, _, a4⟩ := hi.fr b (by omega) hn
        have : (i + 1) * 4096 ≤ ops.length * 4096 := Nat.mul_le_mul_right _ (by omega)
        omega
    · show Ext g0 st.hp w0 _ g (hpD es st.n st.hp (fun _ => true) ops.length) w
      rw [← eh]
      exact hi.ext.congrD fun b => by
        rw [dD_mem, dD_mem]
        constructor
        · rintro (h | ⟨i, b1, _, b3⟩)
          · exact .inl h
          · exact .inr ⟨i, b1, rfl, b3⟩
        · rintro (h | ⟨i, b1, _, b3⟩)
          · exact .inl h
          · exact .inr ⟨i, b1, hD i b1, b3⟩
    · show st.n ≤ st.n + ops.length + ops.length * 4096; omega
  have go : ∀ (fuel : Nat) (listed : Array Bool) g a w, listed.size = ops.length → (List.range ops.length).countP (fun i => !listed.getD i false) ≤ fuel →
      (∀ j o, ops[j]? = some o → listed.getD j false = true → ∀ e ∈ o.after.toList, Region.binds .any e = true → listed.getD e.on false = true) →
      Inv (H.bd id) ops es st.n st.nt st.tm st.hp g0 w0 (fun i => listed.getD i false) g a w → wpAny P .any ops.toArray Q fuel listed a w := by
    intro fuel
    induction fuel with
    | zero =>
      intro listed g a w hsz hc hcl hi
      have hall : ∀ i, i < ops.length → listed.getD i false = true := fun i hi => by
        have := List.countP_eq_zero.1 (Nat.le_zero.1 hc) i (List.mem_range.2 hi)
        simpa using this
      refine ⟨?_, fin _ g a w hall hi⟩
      rw [List.eq_nil_iff_forall_not_mem]
      intro j hj
      obtain ⟨h3, o, ho, _⟩ := mem_ready.1 hj
      have hjl : j < ops.length := (List.getElem?_eq_some_iff.1 (by simpa using ho : ops[j]? = some o)).1
      have := hall j hjl
      rw [Array.getD_eq_getD_getElem?, Array.getElem?_eq_getElem (by omega)] at this h3
      simp at this h3
      rw [this] at h3; cases h3
    | succ fuel ih =>
      intro listed g a w hsz hc hcl hi
      have hgd : ∀ i, i < ops.length → listed.getD i true = listed.getD i false := fun i hi => by
        rw [Array.getD_eq_getD_getElem?, Array.getD_eq_getD_getElem?, Array.getElem?_eq_getElem (by omega)]; rfl
      refine ⟨fun hn => fin _ g a w (fun i => ?_) hi, fun j hj => ?_⟩
      · induction i using Nat.strongRecOn with
        | _ i ihi =>
          intro hil
          cases hd : listed.getD i false with
          | true => rfl
          | false =>
            exfalso
            obtain ⟨o, ho⟩ : ∃ o, ops[i]? = some o := ⟨_, List.getElem?_eq_getElem hil⟩
            have : i ∈ Region.ready .any ops.toArray listed := mem_ready.2 ⟨by rw [hgd i hil]; exact hd, o, by simpa using ho, fun e he hb => by
              have hlt := edgesOk_spec hed ho e (Array.mem_toList_iff.2 he) hb
              exact ihi e.on hlt (by omega)⟩
            rw [hn] at this; cases this
      · obtain ⟨h3, o, ho, hall⟩ := mem_ready.1 hj
        have ho : ops[j]? = some o := by simpa using ho
        have hjl := (List.getElem?_eq_some_iff.1 ho).1
        rw [hgd j hjl] at h3
        have hs1 : (listed.setIfInBounds j true).getD j false = true := by
          rw [Array.getD_eq_getD_getElem?, Array.getElem?_setIfInBounds_self_of_lt (by omega)]; rfl
        have hsn : ∀ i, i ≠ j → (listed.setIfInBounds j true).getD i false = listed.getD i false := fun i hij => getD_set_ne false (Ne.symm hij)
        refine Inv.step (bd := H.bd id) (D' := fun i => (listed.setIfInBounds j true).getD i false) (fun i o ho => hF i o (Nat.zero_le _) ho) hT hcl hi ho h3 (fun e he hb => hall e (Array.mem_toList_iff.1 he) hb) hs1 hsn fun g' a' w' hi' => ?_
        refine ih _ g' a' w' (by simp [hsz]) ?_ (fun k p hp hk e he hb => ?_) hi'
        · obtain ⟨c1, c2⟩ := countP_set (f := fun i => !listed.getD i false) (f' := fun i => !(listed.setIfInBounds j true).getD i false) (j := j) (by show (!listed.getD j false) = true; rw [h3]; rfl) (by show (!(listed.setIfInBounds j true).getD j false) = false; rw [hs1]; rfl) (fun i hij => by show (!(listed.setIfInBounds j true).getD i false) = !listed.getD i false; rw [hsn i hij]) ops.length
          have := c2 hjl
          rw [c1, if_pos hjl]
          omega
        · by_cases hkj : k = j
          · subst hkj
            rw [ho] at hp; cases hp
            exact getD_set_true (hall e (Array.mem_toList_iff.1 he) hb)
          · have hk : (listed.setIfInBounds j true).getD k false = true := hk
            rw [hsn k hkj] at hk
            exact getD_set_true (hcl k p hp hk e he hb)
  have hr1 := HRel.heap (w := w0) (w' := { w0 with drawn := w0.drawn + 1 }) rfl hr.hp
  have hnone : ∀ i, (Array.replicate ops.toArray.size false).getD i false = false := fun i => by
    rw [Array.getD_eq_getD_getElem?, Array.getElem?_replicate]
    split <;> rfl
  refine go ops.toArray.size _ g0 a0 _ (by simp) (Nat.le_trans List.countP_le_length (by simp)) (fun j o ho hj => by rw [hnone] at hj; cases hj) ?_
  have et : ∀ m, tmD ops es st.tm (fun i => (Array.replicate ops.toArray.size false).getD i false) m = st.tm := fun m => by
    induction m with
    | zero => rfl
    | succ m ih => simp only [tmD]; rw [if_neg (by rw [hnone]; decide)]; exact ih
  have eh : ∀ m, hpD es st.n st.hp (fun i => (Array.replicate ops.toArray.size false).getD i false) m = st.hp := fun m => by
    induction m with
    | zero => rfl
    | succ m ih => simp only [hpD]; rw [if_neg (by rw [hnone]; decide)]; exact ih
  have ed : ∀ m, dD es [] (fun i => (Array.replicate ops.toArray.size false).getD i false) m = [] := fun m => by
    induction m with
    | zero => rfl
    | succ m ih => simp only [dD]; rw [if_neg (by rw [hnone]; decide)]; exact ih
  refine ⟨fun t => ?_, hr.nt, hr.df, by rw [eh]; exact hr1.2, fun i _ _ => hr.fr _ (by omega), fun b hb hn => absurd (hr.fr b (by omega)) hn, by rw [eh, ed]; exact hr1.1, fun b h1 h2 => absurd h1 h2⟩
  rw [et]
  exact (hr.tm t).step hr1.1 hr.hp
end Go.VI
