/- Append. -/
import Derived.Test.YtfifgcaielmbiaaVIf
namespace Go.VI
set_option linter.unusedVariables false
set_option linter.unusedSimpArgs false
variable {R : Type} {P : Program}

theorem growBy_le (m : Nat) : ∀ (k c : Nat), Builtin.growBy m k c ≤ max c (m + (m + 768) / 4)
  | 0, c => by simp only [Builtin.growBy]; omega
  | k + 1, c => by
    simp only [Builtin.growBy]
    split
    · omega
    · have := growBy_le m k (c + (c + 768) / 4)
      omega
theorem nextcap_le {need old : Nat} (h : old < need) : Builtin.nextslicecap need old ≤ 2 * need + 192 := by
  unfold Builtin.nextslicecap
  split
  · omega
  · split
    · omega
    · have := growBy_le need 4 old
      omega

theorem rowOk_spec {e : TypeId} {t : Ty} (h : rowOk P e t = true) : ∃ i z, P.info? e = some i ∧ i.bytes ≤ 16384 ∧ i.size = t.size ∧ i.zero = some z ∧ z.cells.size = i.size := by
  unfold rowOk at h
  split at h
  · rename_i i hi
    have h : ((Nat.ble i.bytes 16384) && ((Nat.beq i.size t.size) && (match i.zero with
      | some z => Nat.beq z.cells.size i.size
      | none => false))) = true := h
    rw [Bool.and_eq_true, Bool.and_eq_true] at h
    obtain ⟨h1, h2, h3⟩ := h
    split at h3
    · rename_i z hz
      exact ⟨i, z, hi, Nat.le_of_ble_eq_true h1, Nat.eq_of_beq_eq_true h2, hz, Nat.eq_of_beq_eq_true h3⟩
    · cases h3
  · cases h

theorem run_firstCells {w : World} {size n : Nat} {a : Option Addr} {l c : Nat} {vs : List Value} (hn : vs.length = n * size) (h : vs ≠ [] → ∃ ad, a = some ad) (hc : ∀ ad, a = some ad → ∀ j v, vs[j]? = some v → w.cell? (ad.add j) = some v) :
    (Builtin.firstCells size n (.slice a l c)).run P w = .ok vs.toArray w := by
  cases a with
  | none =>
    have : vs = [] := Classical.byContradiction fun hne => by obtain ⟨ad, h⟩ := h hne; cases h
    subst this; rfl
  | some ad =>
    simp only [Builtin.firstCells]
    rw [← hn]
    exact run_loadCells_list w ad vs (hc ad rfl)

section
variable {st xt ty e : TypeId} {i : TypeInfo} {z : Value} {w : World}

/-- There is no room: a new row. -/
theorem run_append_grow {a xa : Option Addr} {sLen sCap n xc : Nat} {old new : List Value} (ht : P.underlying st = some (.slice e)) (hx : ∃ e', P.underlying xt = some (.slice e')) (hi : P.info? e = some i) (hb : i.bytes ≤ 16384) (hz : i.zero = some z) (hzs : z.cells.size = i.size)
    (hold : old.length = sLen * i.size) (hnew : new.length = n * i.size) (h1 : old ≠ [] → ∃ ad, a = some ad) (h2 : ∀ ad, a = some ad → ∀ j v, old[j]? = some v → w.cell? (ad.add j) = some v)
    (h3 : new ≠ [] → ∃ ad, xa = some ad) (h4 : ∀ ad, xa = some ad → ∀ j v, new[j]? = some v → w.cell? (ad.add j) = some v) (hroom : sCap < sLen + n) (hmax : sLen + n ≤ maxElems) :
    ∃ (newCap : Nat) (rest : List Value) (w' : World), sLen + n ≤ newCap ∧ rest.length = (newCap - (sLen + n)) * i.size ∧ w'.heap = w.heap.push (.cells (old ++ new ++ rest).toArray e) ∧ Env w w' ∧
      (Builtin.append_ #[st, xt] ty #[.slice a sLen sCap, .slice xa n xc]).run P w = .ok (.slice (some ⟨w.heap.size, 0, none⟩) (sLen + n) newCap) w' := by
  obtain ⟨e', hx⟩ := hx
  unfold maxElems at hmax
  have hcap := nextcap_le hroom
  have hle : ¬ (Builtin.nextslicecap (sLen + n) sCap * i.bytes > 2 ^ 48) := by
    have h1 : Builtin.nextslicecap (sLen + n) sCap * i.bytes ≤ (2 * (sLen + n) + 192) * 16384 := Nat.mul_le_mul hcap hb
    have h2 : (2 * (sLen + n) + 192) * 16384 ≤ (2 * 4294967296 + 192) * 16384 := Nat.mul_le_mul_right _ (by omega)
    omega
  let q : Question := .appendCap (sLen + n) sCap e
  let nc : Nat := q.cut (w.tape w.drawn q)
  have hnc : sLen + n ≤ nc := by show _ ≤ (sLen + n) + _; omega
  let w1 : World := { w with drawn := w.drawn + 1 }
  have hold' : (Builtin.firstCells i.size sLen (.slice a sLen sCap)).run P w1 = .ok old.toArray w1 := run_firstCells hold h1 (fun ad had j v hj => by rw [← h2 ad had j v hj]; rfl)
  have hnew' : (Builtin.firstCells i.size n (.slice xa n xc)).run P w1 = .ok new.toArray w1 := run_firstCells hnew h3 (fun ad had j v hj => by rw [← h4 ad had j v hj]; rfl)
  refine ⟨nc, (Builtin.zeroCells z.cells (nc - (sLen + n))).toList, { w1 with heap := w1.heap.push (.cells (old ++ new ++ (Builtin.zeroCells z.cells (nc - (sLen + n))).toList).toArray e) }, hnc, by simp [Builtin.zeroCells, hzs], rfl, ⟨rfl, rfl, rfl⟩, ?_⟩
  have hchoose : (choose (.appendCap (sLen + n) sCap e)).run P w = .ok nc w1 := by
    rw [run_choose]; rfl
  have hneg : ¬ (((sLen + n : Nat) : Int) > IntKind.i64.max ∧ (false = true ∨ i.bytes = 0)) := by
    intro h
    have : IntKind.i64.max = 9223372036854775807 := by decide
    rw [this] at h
    omega
  simp only [Builtin.append_, Sem.run_bind, run_underlying ht, run_underlying hx, run_sizeOf' hi, Result.andThen_ok, List.getElem?_toArray, List.getElem?_cons_zero, List.getElem?_cons_succ, Sem.run_pure, Bool.false_eq_true, if_false, Builtin.lenOf, typeInfo, run_program, hi, zeroValue, hz, Bool.not_false, if_true, Sem.run_ite, if_neg (Nat.not_le.2 hroom), if_neg hneg, if_neg hle, hchoose, run_askRoom, hold', hnew', newRow, run_newObj, Bool.not_true]
  simp
  rw [if_neg (by rintro ⟨h, _⟩; omega)]
  have : ((old ++ new).toArray ++ Builtin.zeroCells z.cells (nc - (sLen + n))) = (old ++ (new ++ (Builtin.zeroCells z.cells (nc - (sLen + n))).toList)).toArray := by apply Array.ext'; simp
  rw [this]

/-- There is room: written in place. -/
theorem run_append_room {r sLen sCap n xc : Nat} {xa : Option Addr} {vs : Array Value} {e2 : TypeId} {new : List Value} (ht : P.underlying st = some (.slice e)) (hx : ∃ e', P.underlying xt = some (.slice e')) (hi : P.info? e = some i)
    (hnew : new.length = n * i.size) (h3 : new ≠ [] → ∃ ad, xa = some ad) (h4 : ∀ ad, xa = some ad → ∀ j v, new[j]? = some v → w.cell? (ad.add j) = some v) (hroom : sLen + n ≤ sCap)
    (hh : w.heap[r]? = some (.cells vs e2 (0, 0))) (hp : sLen * i.size + new.length ≤ vs.size) (h1 : ∀ v ∈ new, v.oneCell' = true) :
    (Builtin.append_ #[st, xt] ty #[.slice (some ⟨r, 0, none⟩) sLen sCap, .slice xa n xc]).run P w =
      .ok (.slice (some ⟨r, 0, none⟩) (sLen + n) sCap) (w.setRow r (vs.toList.take (sLen * i.size) ++ new ++ vs.toList.drop (sLen * i.size + new.length)).toArray) := by
  obtain ⟨e', hx⟩ := hx
  have hnew' : (Builtin.firstCells i.size n (.slice xa n xc)).run P w = .ok new.toArray w := run_firstCells hnew h3 h4
  have hst := run_storeCells_at (P := P) r (sLen * i.size) e2 new 0 vs w hh (by simpa using hp) h1
  simp only [Builtin.append_, Sem.run_bind, run_underlying ht, run_underlying hx, run_sizeOf' hi, Result.andThen_ok, List.getElem?_toArray, List.getElem?_cons_zero, List.getElem?_cons_succ, Sem.run_pure, Bool.false_eq_true, if_false, Builtin.lenOf, Bool.not_false, if_true, Sem.run_ite, if_pos hroom, hnew', add_mk, Nat.zero_add, hst, Nat.add_zero]
/-- Nothing is added to what is not there. -/
theorem run_append_empty {a xa : Option Addr} {m c xc : Nat} (hmc : m ≤ c) (ht : P.underlying st = some (.slice e)) (hx : ∃ e', P.underlying xt = some (.slice e')) (hi : P.info? e = some i) :
    (Builtin.append_ #[st, xt] ty #[.slice a m c, .slice xa 0 xc]).run P w = .ok (.slice a m c) w := by
  obtain ⟨e', hx⟩ := hx
  have hnew' : (Builtin.firstCells i.size 0 (.slice xa 0 xc)).run P w = .ok (([] : List Value).toArray) w := run_firstCells (by simp) (fun h => absurd rfl h) (fun ad _ j v h => by simp at h)
  cases a <;> simp only [Builtin.append_, Sem.run_bind, run_underlying ht, run_underlying hx, run_sizeOf' hi, Result.andThen_ok, List.getElem?_toArray, List.getElem?_cons_zero, List.getElem?_cons_succ, Sem.run_pure, Bool.false_eq_true, if_false, Builtin.lenOf, Bool.not_false, if_true, Sem.run_ite, if_pos hmc, hnew', Nat.add_zero]
  rfl
theorem run_append_nil {xa : Option Addr} {xc : Nat} (ht : P.underlying st = some (.slice e)) (hx : ∃ e', P.underlying xt = some (.slice e')) (hi : P.info? e = some i) :
    (Builtin.append_ #[st, xt] ty #[.slice none 0 0, .slice xa 0 xc]).run P w = .ok (.slice none 0 0) w := by
  obtain ⟨e', hx⟩ := hx
  have hnew' : (Builtin.firstCells i.size 0 (.slice xa 0 xc)).run P w = .ok (([] : List Value).toArray) w := run_firstCells (by simp) (fun h => absurd rfl h) (fun ad _ j v h => by simp at h)
  simp only [Builtin.append_, Sem.run_bind, run_underlying ht, run_underlying hx, run_sizeOf' hi, Result.andThen_ok, List.getElem?_toArray, List.getElem?_cons_zero, List.getElem?_cons_succ, Sem.run_pure, Bool.false_eq_true, if_false, Builtin.lenOf, Bool.not_false, if_true, Sem.run_ite, if_pos (Nat.le_refl (0 + 0)), hnew', Nat.add_zero]
end

theorem HRel.bump {g : Gh} {H : Hp} {w : World} {b k : Nat} {t : Ty} (hr : HRel g H w) (hs : H b = .arr t [] k) (hi : g.i b = none) :
    Ext g H w [b] ⟨g.F, g.i, upd g.G b (.arr t (k + 1) 0)⟩ (upd H b (.arr t [] (k + 1))) w ∧ HRel ⟨g.F, g.i, upd g.G b (.arr t (k + 1) 0)⟩ (upd H b (.arr t [] (k + 1))) w ∧ (∀ b', g.G b' = .none → (⟨g.F, g.i, upd g.G b (.arr t (k + 1) 0)⟩ : Gh).G b' ≠ .none → False) := by
  have hs' : H b ≠ .gone := by rw [hs]; exact fun h => by cases h
  obtain ⟨hn, hd⟩ := live_of hr hs'
  have hGb : g.G b = .arr t k 0 := by rw [hr.kd b (fun e => hs' e), hs]; rfl
  have hG : ∀ b', (upd g.G b (.arr t (k + 1) 0) b' ≠ .none ∧ upd g.G b (.arr t (k + 1) 0) b' ≠ .dead) → g.G b' ≠ .none ∧ g.G b' ≠ .dead := fun b' h => by
    by_cases e : b' = b
    · subst e; exact ⟨hn, hd⟩
    · rw [upd_ne _ _ e] at h; exact h
  have he : Ext g H w [b] ⟨g.F, g.i, upd g.G b (.arr t (k + 1) 0)⟩ (upd H b (.arr t [] (k + 1))) w := by
    refine ⟨fun _ h => h, fun _ h => .inl h, Nat.le_refl _, fun _ _ _ => rfl, fun b' hb' _ => ?_, fun b' hb' hm => ?_, fun b' hb' _ r' c' h => .inl ⟨c', h⟩, fun b' hb' _ => ?_, fun b' r' c' h h' hi' => ?_, .refl w⟩
    · rw [List.mem_singleton] at hb'; subst hb'; exact hs'
    · have e : b' ≠ b := fun e => hm (List.mem_singleton.2 e)
      exact ⟨upd_ne _ _ e, rfl, upd_ne _ _ e⟩
    · rw [List.mem_singleton] at hb'; subst hb'
      exact .inr (.inr (.inr (.inr (.inl ⟨t, k, 0, k + 1, 0, hGb, upd_same _ _ _, Nat.lt_succ_self _⟩))))
    · have h' : upd g.G b (.arr t (k + 1) 0) b' ≠ .none := h'
      by_cases e : b' = b
      · subst e; exact absurd h hn
      · rw [upd_ne _ _ e] at h'; exact absurd h h'
  refine ⟨he, ⟨fun b' => ?_, fun b' hb => ?_, fun b1 b2 r1 c1 c2 h1 h2 h3 h4 h5 h6 => ?_, fun b1 r1 c1 h1 h2 h3 => ?_, hr.ex⟩, fun b' h h' => ?_⟩
  · by_cases e : b' = b
    · subst e; rw [upd_same]; exact .inl ⟨hi, rfl⟩
    · rw [upd_ne _ _ e]
      by_cases hg : H b' = .gone
      · rw [hg]; exact trivial
      · exact RelB.step he hr hg (fun h => e (List.mem_singleton.1 h))
  · show upd g.G b (.arr t (k + 1) 0) b' = _
    by_cases e : b' = b
    · subst e; rw [upd_same, upd_same]; rfl
    · rw [upd_ne _ _ e, upd_ne _ _ e]
      exact hr.kd b' (fun h => hb (by rw [upd_ne _ _ e]; exact h))
  · obtain ⟨k3, k4⟩ := hG b1 ⟨h3, h4⟩
    obtain ⟨k5, k6⟩ := hG b2 ⟨h5, h6⟩
    exact hr.inj b1 b2 r1 c1 c2 h1 h2 k3 k4 k5 k6
  · obtain ⟨k3, k4⟩ := hG b1 ⟨h2, h3⟩
    exact hr.disj b1 r1 c1 h1 k3 k4
  · have h' : upd g.G b (.arr t (k + 1) 0) b' ≠ .none := h'
    by_cases e : b' = b
    · subst e; exact hn h
    · rw [upd_ne _ _ e] at h'; exact h' h

theorem chunk_app {F : Nat → Prop} {w : World} {t : Ty} {l m : List t.den} {old new rest : List Value} (hold : old.length = l.length * t.size) (hnew : new.length = m.length * t.size)
    (h1 : ∀ i y, l[i]? = some y → ∃ c, RelT F w t y c ∧ ∀ j v, c[j]? = some v → old[i * t.size + j]? = some v) (h2 : ∀ i y, m[i]? = some y → ∃ c, RelT F w t y c ∧ ∀ j v, c[j]? = some v → new[i * t.size + j]? = some v) :
    ∀ i y, (l ++ m)[i]? = some y → ∃ c, RelT F w t y c ∧ ∀ j v, c[j]? = some v → (old ++ new ++ rest)[i * t.size + j]? = some v := by
  intro i y hy
  by_cases hi : i < l.length
  · rw [List.getElem?_append_left hi] at hy
    obtain ⟨c, a1, a2⟩ := h1 i y hy
    refine ⟨c, a1, fun j v hj => ?_⟩
    have hj' : j < t.size := by rw [← a1.len]; exact (List.getElem?_eq_some_iff.1 hj).1
    have : (i + 1) * t.size ≤ l.length * t.size := Nat.mul_le_mul_right _ hi
    rw [Nat.succ_mul] at this
    rw [List.append_assoc, List.getElem?_append_left (by omega)]; exact a2 j v hj
  · rw [List.getElem?_append_right (by omega)] at hy
    obtain ⟨c, a1, a2⟩ := h2 _ y hy
    refine ⟨c, a1, fun j v hj => ?_⟩
    have hj' : j < t.size := by rw [← a1.len]; exact (List.getElem?_eq_some_iff.1 hj).1
    have hlm : i - l.length < m.length := (List.getElem?_eq_some_iff.1 hy).1
    have e1 : ((i - l.length) + 1) * t.size ≤ m.length * t.size := Nat.mul_le_mul_right _ hlm
    rw [Nat.succ_mul] at e1
    have e2 : i * t.size = l.length * t.size + (i - l.length) * t.size := by rw [← Nat.add_mul]; congr 1; omega
    rw [List.append_assoc, List.getElem?_append_right (by omega), List.getElem?_append_left (by omega), ← a2 j v hj]
    congr 1; omega

/-- What append comes to. -/
theorem appendO_sound {e : TypeId} {s x : AV} {H : Hp} {nb n : Nat} {κ : KO R} {r : R} (h : appendO P e s x H nb n κ = some r) :
    ∃ v H' D, κ v H' n D = some r ∧ ∀ (g : Gh) (w : World) (us ux : Value) (st xt ty : TypeId), P.underlying st = some (.slice e) → (∃ e', P.underlying xt = some (.slice e')) → HRel g H w → g.G nb = .none → RelV g w s us → RelV g w x ux →
      ∃ u w', (Builtin.append_ #[st, xt] ty #[us, ux]).run P w = .ok u w' ∧ ∃ g', Went g H w (fun b => b = nb) v H' D u w' g' := by
  have cells : ∀ {t : Ty} {l : List t.den} {g : Gh} {w : World} {ux : Value}, HRel g H w → RelV g w x ux → listOf t x H = some l → ∃ xa xc new, ux = .slice xa l.length xc ∧ new.length = l.length * t.size ∧ (new ≠ [] → ∃ ad, xa = some ad) ∧
      (∀ ad, xa = some ad → ∀ j v, new[j]? = some v → w.cell? (ad.add j) = some v) ∧ (∀ i y, l[i]? = some y → ∃ c, RelT g.F w t y c ∧ ∀ j v, c[j]? = some v → new[i * t.size + j]? = some v) ∧ (∀ v ∈ new, v.oneCell' = true) := by
    intro t l g w ux hr hx hl
    obtain ⟨xa, xc, rfl, hle, hc⟩ := listOf_sound hl hr hx
    cases xa with
    | none =>
      have : l = [] := by
        cases l with
        | nil => rfl
        | cons y l => obtain ⟨ad, h, _⟩ := hc 0 y rfl; cases h
      subst this
      exact ⟨none, xc, [], rfl, by simp, fun h => absurd rfl h, (fun ad h => by cases h), (fun i y h => by simp at h), (fun v h => by cases h)⟩
    | some ad =>
      obtain ⟨vs, h1, h2, h3, h4⟩ := list_cells (F := g.F) (w := w) (t := t) (l := l) (ad := ad) (fun i y hy => by
        obtain ⟨ad', e, c, a1, a2⟩ := hc i y hy
        cases e; exact ⟨c, a1, a2⟩)
      exact ⟨some ad, xc, vs, rfl, h1, fun _ => ⟨ad, rfl⟩, fun ad' e => by cases e; exact h2, h3, h4⟩
  have ownOk : ∀ {g' : Gh} {w' : World} {b k n cap : Nat} {t : Ty} {a : Option Addr}, g'.G b = .arr t k n → n ≤ cap → ((g'.i b = none ∧ a = none ∧ cap = 0) ∨ (∃ r, g'.i b = some (r, cap) ∧ a = some ⟨r, 0, none⟩)) → RelV g' w' (.own b k) (.slice a n cap) := by
    intro g' w' b k n cap t a hG hle hor
    refine .own _ _ _ (by rw [hG]; exact fun h => by cases h) ⟨_, _, _, rfl⟩ (fun t' k' n' h => ?_)
    rw [hG] at h; cases h
    exact ⟨Nat.le_refl _, fun _ => ⟨_, _, rfl, hle, hor⟩⟩
  unfold appendO at h
  cases s with
  | nils =>
    simp only at h
    split at h
    case h_2 => cases h
    rename_i t hty
    obtain ⟨hok, h⟩ := br_none h
    obtain ⟨i, z, hi, hb, hsz, hz, hzs⟩ := rowOk_spec hok
    split at h
    case h_2 => cases h
    rename_i l hl
    obtain ⟨hmax, h⟩ := br_none h
    have hmax := Nat.le_of_ble_eq_true hmax
    refine ⟨_, _, _, h, fun g w us ux st xt ty ht hxt hr hnb hs hx => ?_⟩
    cases hs
    obtain ⟨xa, xc, new, rfl, n1, n2, n3, n4, n5⟩ := cells hr hx hl
    by_cases hz0 : l.length = 0
    · have : l = [] := List.eq_nil_of_length_eq_zero hz0
      subst this
      refine ⟨_, w, run_append_nil ht hxt hi, ?_⟩
      obtain ⟨x1, x2, x3⟩ := HRel.allocNil (t := t) hr hnb (rfl : w.heap = w.heap)
      exact ⟨_, x1, x2, ownOk (t := t) (Gh.new_G ..) (Nat.le_refl _) (.inl ⟨Gh.new_i .., rfl, rfl⟩), x3⟩
    · obtain ⟨nc, rest, w', g1, g2, g3, genv, g4⟩ := run_append_grow (P := P) (ty := ty) (a := none) (sLen := 0) (sCap := 0) (n := l.length) (xa := xa) (xc := xc) (old := []) (new := new) ht hxt hi hb hz hzs (by simp) (by rw [n1, hsz]) (fun h => absurd rfl h) (fun ad h => by cases h) n2 n3 (by omega) (by simpa using hmax)
      refine ⟨_, w', g4, ?_⟩
      obtain ⟨g', x1, x2, x3, x4, x5⟩ := newArr_went (cap := nc) (t := t) (l := l) (vs := [] ++ new ++ rest) hr hnb g3 (by omega) (by simp [n1, g2, hsz]; rw [← Nat.add_mul]; exact Nat.mul_le_mul_right _ (by omega))
        (fun i y hy => by
          have := chunk_app (F := g.F) (w := w) (t := t) (l := []) (m := l) (old := []) (new := new) (rest := rest) (by simp) n1 (fun i y h => by simp at h) n4 i y (by simpa using hy)
          exact this)
      exact ⟨g', x1, x2, by
        have := ownOk (w' := w') x4 (by omega : l.length ≤ nc) (.inr ⟨_, x5, rfl⟩)
        simpa using this, x3⟩
  | own b k =>
    simp only at h
    split at h
    case h_2 => cases h
    rename_i t l k' hbk
    obtain ⟨hok, h⟩ := br_none h
    have hok : ((Nat.beq k k') && (rowOk P e t)) = true := hok
    rw [Bool.and_eq_true] at hok
    obtain ⟨hk, hok⟩ := hok
    have hk := Nat.eq_of_beq_eq_true hk
    obtain ⟨i, z, hi, hb, hsz, hz, hzs⟩ := rowOk_spec hok
    split at h
    case h_2 => cases h
    rename_i m hm
    obtain ⟨hne, h⟩ := none_br h
    obtain ⟨hmax, h⟩ := br_none h
    have hmax := Nat.le_of_ble_eq_true hmax
    refine ⟨_, _, _, h, fun g w us ux st xt ty ht hxt hr hnb hs hx => ?_⟩
    have hs' : H b ≠ .gone := by rw [hbk]; exact fun h => by cases h
    have hG : g.G b = .arr t k' l.length := by rw [hr.kd b (fun e => hs' e), hbk]; rfl
    have hB := hr.blk b
    rw [hbk] at hB
    obtain ⟨xa, xc, new, rfl, n1, n2, n3, n4, n5⟩ := cells hr hx hm
    cases hs with
    | own _ _ _ hn0 hs0 ha =>
      obtain ⟨a, cap, rfl, hle, hor⟩ := (ha _ _ _ hG).2 hk
      rcases hB with ⟨hi0, rfl⟩ | ⟨r', cap', vs, e2, h1, h2, h3, h4, h5⟩
      · -- nothing there yet
        rcases hor with ⟨_, rfl, rfl⟩ | ⟨r2, h6, _⟩
        case inr => rw [hi0] at h6; cases h6
        by_cases hz0 : m.length = 0
        · have : m = [] := List.eq_nil_of_length_eq_zero hz0
          subst this
          refine ⟨_, w, run_append_nil ht hxt hi, ?_⟩
          obtain ⟨x1, x2, x3⟩ := HRel.bump hr hbk hi0
          exact ⟨_, x1, x2, ownOk (t := t) (upd_same _ _ _) (Nat.le_refl _) (.inl ⟨hi0, rfl, rfl⟩), fun b' h h' => (x3 b' h h').elim⟩
        · obtain ⟨nc, rest, w', g1, g2, g3, genv, g4⟩ := run_append_grow (P := P) (ty := ty) (a := none) (sLen := 0) (sCap := 0) (n := m.length) (xa := xa) (xc := xc) (old := []) (new := new) ht hxt hi hb hz hzs (by simp) (by rw [n1, hsz]) (fun h => absurd rfl h) (fun ad h => by cases h) n2 n3 (by omega) (by simpa using hmax)
          refine ⟨_, w', g4, ?_⟩
          obtain ⟨x1, x2, x3⟩ := HRel.move (cap := nc) (t := t) (l := []) (l' := [] ++ m) (k' := k' + 1) hr hbk g3 (Nat.lt_succ_self _) (fun he => .inr ⟨w.heap.size, nc, ([] ++ new ++ rest).toArray, e, upd_same _ _ _, by rw [g3]; simp, by simpa using (by omega : m.length ≤ nc), by simp [n1, g2, hsz]; rw [← Nat.add_mul]; exact Nat.mul_le_mul_right _ (by omega), fun i y hy => by
            obtain ⟨c, a1, a2⟩ := chunk_app (F := g.F) (w := w) (t := t) (l := []) (m := m) (old := []) (new := new) (rest := rest) (by simp) n1 (fun i y h => by simp at h) n4 i y hy
            exact ⟨c, a1.mono he.mono (he.keepF hr), fun j v hj => by rw [List.getElem?_toArray]; exact a2 j v hj⟩⟩)
          exact ⟨_, x1, x2, by
            have := ownOk (w' := w') (t := t) (g' := ⟨g.F, upd g.i b (some (w.heap.size, nc)), upd g.G b (.arr t (k' + 1) ([] ++ m).length)⟩) (upd_same _ _ _) (by simpa using (by omega : m.length ≤ nc) : ([] ++ m).length ≤ nc) (.inr ⟨_, upd_same _ _ _, rfl⟩)
            simpa using this, fun b' h h' => (x3 b' h h').elim⟩
      · rcases hor with ⟨h6, _⟩ | ⟨r2, h6, rfl⟩
        · rw [h1] at h6; cases h6
        rw [h1] at h6; cases h6
        by_cases hroom : l.length + m.length ≤ cap
        · have hfit : l.length * t.size + new.length ≤ vs.size := by
            rw [n1, ← Nat.add_mul]
            exact Nat.le_trans (Nat.mul_le_mul_right _ hroom) h4
          have hrun := run_append_room (P := P) (ty := ty) (sLen := l.length) (sCap := cap) (n := m.length) (xc := xc) (xa := xa) (new := new) ht hxt hi (by rw [n1, hsz]) n2 n3 hroom h2 (by rw [hsz]; exact hfit) n5
          rw [hsz] at hrun
          refine ⟨_, _, hrun, ?_⟩
          obtain ⟨x1, x2, x3⟩ := HRel.write (w' := w.setRow r' (vs.toList.take (l.length * t.size) ++ new ++ vs.toList.drop (l.length * t.size + new.length)).toArray) (blk := .arr t (l ++ m) (k' + 1)) hr hs' h1 (fun h => by cases h) (setRow_size _ _ _) (fun r'' hne => setRow_other _ _ _ _ hne)
            (.inr (.inr (.inr (.inl ⟨t, k', l.length, k' + 1, (l ++ m).length, hG, rfl, Nat.lt_succ_self _⟩)))) (fun he => .inr ⟨r', cap, _, e2, h1, setRow_heap _ _ _ _ _ _ h2, by simpa using hroom, by simp only [List.size_toArray, List.length_append, List.length_take, List.length_drop, Array.length_toList]; omega, fun i y hy => by
              obtain ⟨c, a1, a2⟩ := chunk_app (F := g.F) (w := w) (t := t) (l := l) (m := m) (old := vs.toList.take (l.length * t.size)) (new := new) (rest := vs.toList.drop (l.length * t.size + new.length)) (by simp; omega) n1 (fun i y hy => by
                obtain ⟨c, a1, a2⟩ := h5 i y hy
                refine ⟨c, a1, fun j v hj => ?_⟩
                have hj' : j < t.size := by rw [← a1.len]; exact (List.getElem?_eq_some_iff.1 hj).1
                have hil : i < l.length := (List.getElem?_eq_some_iff.1 hy).1
                have : (i + 1) * t.size ≤ l.length * t.size := Nat.mul_le_mul_right _ hil
                rw [Nat.succ_mul] at this
                rw [List.getElem?_take, if_pos (by omega), Array.getElem?_toList]; exact a2 j v hj) n4 i y hy
              exact ⟨c, a1.mono he.mono (he.keepF hr), fun j v hj => by rw [List.getElem?_toArray]; exact a2 j v hj⟩⟩)
          exact ⟨_, x1, x2, by
            have := ownOk (w' := w.setRow r' (vs.toList.take (l.length * t.size) ++ new ++ vs.toList.drop (l.length * t.size + new.length)).toArray) (t := t) (g' := ⟨g.F, g.i, upd g.G b (.arr t (k' + 1) (l ++ m).length)⟩) (upd_same _ _ _) (by simpa using hroom : (l ++ m).length ≤ cap) (.inr ⟨r', h1, rfl⟩)
            rw [← List.length_append]; exact this, fun b' h h' => (x3 b' h h').elim⟩
        · have hcell : ∀ i y, l[i]? = some y → ∃ c, RelT g.F w t y c ∧ ∀ j v, c[j]? = some v → w.cell? ((⟨r', 0, none⟩ : Addr).add (i * t.size + j)) = some v := fun i y hy => by
            obtain ⟨c, a1, a2⟩ := h5 i y hy
            exact ⟨c, a1, fun j v hj => by rw [add_mk, cell_at h2, Nat.zero_add]; exact a2 j v hj⟩
          obtain ⟨old, o1, o2, o3, o4⟩ := list_cells hcell
          obtain ⟨nc, rest, w', g1, g2, g3, genv, g4⟩ := run_append_grow (P := P) (ty := ty) (a := some ⟨r', 0, none⟩) (sLen := l.length) (sCap := cap) (n := m.length) (xa := xa) (xc := xc) (old := old) (new := new) ht hxt hi hb hz hzs (by rw [o1, hsz]) (by rw [n1, hsz]) (fun h => ⟨_, rfl⟩) (fun ad h => by cases h; exact o2) n2 n3 (by omega) (by simpa using hmax)
          refine ⟨_, w', g4, ?_⟩
          obtain ⟨x1, x2, x3⟩ := HRel.move (cap := nc) (t := t) (l := l) (l' := l ++ m) (k' := k' + 1) hr hbk g3 (Nat.lt_succ_self _) (fun he => .inr ⟨w.heap.size, nc, (old ++ new ++ rest).toArray, e, upd_same _ _ _, by rw [g3]; simp, by simpa using g1, by simp [n1, o1, g2, hsz]; rw [← Nat.add_mul, ← Nat.add_mul]; exact Nat.mul_le_mul_right _ (by omega), fun i y hy => by
            obtain ⟨c, a1, a2⟩ := chunk_app (F := g.F) (w := w) (t := t) (l := l) (m := m) (old := old) (new := new) (rest := rest) o1 n1 o3 n4 i y hy
            exact ⟨c, a1.mono he.mono (he.keepF hr), fun j v hj => by rw [List.getElem?_toArray]; exact a2 j v hj⟩⟩)
          exact ⟨_, x1, x2, by
            have := ownOk (w' := w') (t := t) (g' := ⟨g.F, upd g.i b (some (w.heap.size, nc)), upd g.G b (.arr t (k' + 1) (l ++ m).length)⟩) (upd_same _ _ _) (by simpa using g1 : (l ++ m).length ≤ nc) (.inr ⟨_, upd_same _ _ _, rfl⟩)
            rw [← List.length_append]; exact this, fun b' h h' => (x3 b' h h').elim⟩
  | sref b off len k lim =>
    cases lim
    · cases h
    simp only at h
    split at h
    case h_2 => cases h
    rename_i t l k' hbk
    obtain ⟨hok, h⟩ := br_none h
    have hok : ((Nat.beq k k') && ((rowOk P e t) && (Nat.ble (off + len) l.length))) = true := hok
    rw [Bool.and_eq_true, Bool.and_eq_true] at hok
    obtain ⟨hk, hok, hofl⟩ := hok
    have hk := Nat.eq_of_beq_eq_true hk
    have hofl := Nat.le_of_ble_eq_true hofl
    obtain ⟨i, z, hi, hb, hsz, hz, hzs⟩ := rowOk_spec hok
    split at h
    case h_2 => cases h
    rename_i m hm
    rcases br_some h with ⟨h1m, h'⟩ | ⟨h1m, h'⟩ <;> clear h
    case inr =>
      have hm0 : m.length = 0 := by
        rcases Nat.eq_zero_or_pos m.length with h0 | h0
        · exact h0
        · have : Nat.ble 1 m.length = true := Nat.ble_eq_true_of_le h0
          rw [this] at h1m; cases h1m
      refine ⟨_, _, _, h', fun g w us ux st xt ty ht hxt hr hnb hs hx => ?_⟩
      obtain ⟨xa, xc, new, rfl, n1, n2, n3, n4, n5⟩ := cells hr hx hm
      rw [hm0]
      have hG : g.G b = .arr t k' l.length := by rw [hr.kd b (fun e => by rw [hbk] at e; cases e), hbk]; rfl
      have hs0 := hs
      cases hs with
      | sref _ _ _ _ _ _ q1 q2 q3 =>
        obtain ⟨_, a, cap, rfl, hle, _⟩ := (q3 _ _ _ hG).2 hk
        exact ⟨_, w, run_append_empty hle ht hxt hi, g, Went.same hr hs0⟩
    have h := h'
    have h1m := Nat.le_of_ble_eq_true h1m
    obtain ⟨hmax, h⟩ := br_none h
    have hmax := Nat.le_of_ble_eq_true hmax
    refine ⟨_, _, _, h, fun g w us ux st xt ty ht hxt hr hnb hs hx => ?_⟩
    have hs' : H b ≠ .gone := by rw [hbk]; exact fun h => by cases h
    have hG : g.G b = .arr t k' l.length := by rw [hr.kd b (fun e => hs' e), hbk]; rfl
    obtain ⟨xa, xc, new, rfl, n1, n2, n3, n4, n5⟩ := cells hr hx hm
    have hsl : listOf t (.sref b off len k true) H = some ((l.drop off).take len) := by
      simp only [listOf, hbk]
      rw [show Nat.beq k k' = true from by rw [hk]; exact Nat.beq_refl _]
      show (match castL t t l with
        | some l => some ((l.drop off).take len)
        | none => none) = _
      have : castL t t l = some l := by
        unfold castL
        split
        · rfl
        · rename_i hbt
          exfalso
          have : ∀ t : Ty, t.beq t = true := fun t => by
            induction t with
            | int k => cases k <;> rfl
            | bool => rfl
            | str => rfl
            | slice t ih => exact ih
            | pair a b ih1 ih2 => show ((a.beq a) && (b.beq b)) = true; rw [ih1, ih2]; rfl
            | agg t ih => exact ih
            | nil => rfl
          rw [this] at hbt; cases hbt
      rw [this]
    have hll : ((l.drop off).take len).length = len := by simp; omega
    have hlist := listOf_sound hsl hr hs
    cases hs with
    | sref _ _ _ _ _ _ hn0 hs0 ha =>
      obtain ⟨_, a, cap, rfl, hle, hlim, _⟩ := (ha _ _ _ hG).2 hk
      have hcap := hlim rfl
      obtain ⟨a', cap', e1, _, hcell⟩ := hlist
      rw [hll] at e1; cases e1
      have hold : ∃ old : List Value, old.length = len * t.size ∧ (old ≠ [] → ∃ ad, a = some ad) ∧ (∀ ad, a = some ad → ∀ j v, old[j]? = some v → w.cell? (ad.add j) = some v) ∧ (∀ i y, ((l.drop off).take len)[i]? = some y → ∃ c, RelT g.F w t y c ∧ ∀ j v, c[j]? = some v → old[i * t.size + j]? = some v) := by
        cases a with
        | none =>
          have : len = 0 := by
            rcases Nat.eq_zero_or_pos len with e | e
            · exact e
            · obtain ⟨ad, h, _⟩ := hcell 0 _ (List.getElem?_eq_getElem (by omega)); cases h
          subst this
          exact ⟨[], by simp, fun h => absurd rfl h, (fun ad h => by cases h), (fun i y h => by simp at h)⟩
        | some ad =>
          obtain ⟨vs, v1, v2, v3, v4⟩ := list_cells (F := g.F) (w := w) (t := t) (l := (l.drop off).take len) (ad := ad) (fun i y hy => by
            obtain ⟨ad', e, c, a1, a2⟩ := hcell i y hy
            cases e; exact ⟨c, a1, a2⟩)
          exact ⟨vs, by rw [v1, hll], fun _ => ⟨ad, rfl⟩, fun ad' e => by cases e; exact v2, v3⟩
      obtain ⟨old, o1, o2, o3, o4⟩ := hold
      obtain ⟨nc, rest, w', g1, g2, g3, genv, g4⟩ := run_append_grow (P := P) (ty := ty) (a := a) (sLen := len) (sCap := cap) (n := m.length) (xa := xa) (xc := xc) (old := old) (new := new) ht hxt hi hb hz hzs (by rw [o1, hsz]) (by rw [n1, hsz]) o2 o3 n2 n3 (by omega) (by simpa using hmax)
      refine ⟨_, w', g4, ?_⟩
      obtain ⟨g', x1, x2, x3, x4, x5⟩ := newArr_went (cap := nc) (t := t) (l := (l.drop off).take len ++ m) (vs := old ++ new ++ rest) hr hnb g3 (by rw [List.length_append, hll]; omega) (by
          simp only [List.length_append, o1, n1, g2, hsz]
          rw [← Nat.add_mul, ← Nat.add_mul]; exact Nat.mul_le_mul_right _ (by omega))
        (chunk_app (F := g.F) (w := w) (t := t) (l := (l.drop off).take len) (m := m) (old := old) (new := new) (rest := rest) (by rw [o1, hll]) n1 o4 n4)
      exact ⟨g', x1, x2, by
        have := ownOk (w' := w') x4 (by rw [List.length_append, hll]; omega : ((l.drop off).take len ++ m).length ≤ nc) (.inr ⟨_, x5, rfl⟩)
        rw [List.length_append, hll] at this; exact this, x3⟩
  | _ => cases h
end Go.VI
