/- Loops: the rounds of a loop are right. -/
import Derived.Test.YtfifgcaielmbiaaVIu
namespace Go.VI
set_option linter.unusedVariables false
set_option linter.unusedSimpArgs false
variable {R : Type} {P : Program}

section
variable {g : Gh} {bl : List (Nat × BPat)} {K n0 : Nat} {w : World} {H1 : Hp}

theorem val_head {t : Ty} {v : AV} {x : t.den} {u : Value} (h : t.decV v = some x) (hv : RelV g w v u) : RelV (g.head bl K n0) w (t.val x) u :=
  val_sound (g := g.head bl K n0) (show RelTV g.F w t x u from decV_sound h hv)

theorem caps_head : ∀ {ts : List Ty} {cs : List AV} {x : Tup ts}, decCaps ts cs = some x → (cloCaps ts x).length = cs.length ∧ ∀ (j : Nat) (c c' : AV) (u : Value), cs[j]? = some c → (cloCaps ts x)[j]? = some c' → RelV g w c u → RelV (g.head bl K n0) w c' u
  | [], cs, x, h => by
    cases cs with
    | nil => exact ⟨rfl, fun j c c' u h1 => by simp at h1⟩
    | cons => cases h
  | t :: ts, cs, x, h => by
    cases cs with
    | nil => cases h
    | cons c0 cs =>
      simp only [decCaps] at h
      split at h <;> try (cases h; done)
      rename_i ds
      split at h <;> try (cases h; done)
      rename_i y hy
      split at h <;> try (cases h; done)
      rename_i z hz
      cases h
      obtain ⟨h1, h2⟩ := caps_head (ts := ts) hz
      refine ⟨by simp only [cloCaps, List.length_cons]; rw [h1], fun j c c' u hc hc' hv => ?_⟩
      cases j with
      | succ j => exact h2 j c c' u (by simpa using hc) (by simpa [cloCaps] using hc') hv
      | zero =>
        cases (show some (AV.cptr ds) = some c from hc)
        cases (show some (AV.cptr (t.enc y)) = some c' from hc')
        cases hv with
        | cptr _ ad f k1 k2 =>
          have hR : RelC g w ds ((List.range ds.length).map f) := ⟨by simp, fun j c v e1 e2 => by
            have hj : j < ds.length := (List.getElem?_eq_some_iff.1 e1).1
            rw [List.getElem?_map, List.getElem?_range hj] at e2
            cases e2
            exact k2 j c e1⟩
          obtain ⟨v1, v2, e, r1, r2⟩ := dec_sound t hy hR
          have hv2 : v2 = [] := by have := r2.1; simpa using this
          subst hv2
          rw [List.append_nil] at e
          subst e
          have hE := enc_sound (g := g.head bl K n0) t r1
          have hlen : ds.length = (t.enc y).length := by have := hE.1; simpa using this
          refine .cptr _ ad f (fun j c e1 => ?_) fun j c e1 => ?_
          · have hj : j < ds.length := by rw [hlen]; exact (List.getElem?_eq_some_iff.1 e1).1
            exact k1 j _ (List.getElem?_eq_getElem hj)
          · have hj : j < ds.length := by rw [hlen]; exact (List.getElem?_eq_some_iff.1 e1).1
            exact hE.2 j c (f j) e1 (by rw [List.getElem?_map, List.getElem?_range hj]; rfl)
theorem clo_head {f : FuncId} {ts : List Ty} {v : AV} {x : Tup ts} {u : Value} (h : decClo f ts v = some x) (hv : RelV g w v u) : RelV (g.head bl K n0) w (cloAV f ts x) u := by
  unfold decClo at h
  split at h <;> try (cases h; done)
  rename_i f' cs
  obtain ⟨hf, hd⟩ := br_none h
  clear h
  cases Nat.eq_of_beq_eq_true hf
  obtain ⟨h1, h2⟩ := caps_head (g := g) (bl := bl) (K := K) (n0 := n0) (w := w) hd
  cases hv with
  | fn _ _ _ vs us fx fy k1 k2 k3 k4 k5 k6 =>
    have get : ∀ {j : Nat} {c : AV}, (cloCaps ts x)[j]? = some c → ∃ c0, cs[j]? = some c0 := fun {j c} hc => by
      have hj : j < cs.length := by rw [← h1]; exact (List.getElem?_eq_some_iff.1 hc).1
      exact ⟨_, List.getElem?_eq_getElem hj⟩
    refine .fn _ _ _ vs us fx fy k1 (by rw [h1]; exact k2) k3 (fun j c hc => by simp at hc) (fun j c hc => ?_) fun j c hc => ?_
    · obtain ⟨c0, hc0⟩ := get hc
      exact k5 j c0 hc0
    · obtain ⟨c0, hc0⟩ := get hc
      exact h2 j c0 c _ hc0 hc (k6 j c0 hc0)

theorem cells_head (hr : HRel g H1 w) (hlt : ∀ b, b ∈ bl.map (·.1) → b < n0) : ∀ {ps : List Pat} {cs : List AV} {z : denL ps} {us : List Value}, ps.all (patOk bl n0) = true → decL H1 ps cs = some z → RelC g w cs us → RelC (g.head bl K n0) w (encL K ps z) us
  | [], cs, z, us, _, h, hc => by
    cases cs with
    | cons => cases h
    | nil =>
      have : us = [] := by have := hc.1; simpa using this
      subst this; exact .nil
  | .val t :: ps, cs, z, us, ho, h, hc => by
    obtain ⟨_, ho⟩ := and_spec (show (patOk bl n0 (.val t) && ps.all (patOk bl n0)) = true from ho)
    simp only [decL] at h
    split at h <;> try (cases h; done)
    rename_i x r hx
    split at h <;> try (cases h; done)
    rename_i y hy
    cases h
    obtain ⟨v1, v2, rfl, h1, h2⟩ := dec_sound t hx hc
    exact (enc_sound (g := g.head bl K n0) t h1).append (cells_head hr hlt ho hy h2)
  | .own b :: ps, cs, z, us, ho, h, hc => by
    obtain ⟨ho1, ho⟩ := and_spec (show (patOk bl n0 (.own b) && ps.all (patOk bl n0)) = true from ho)
    cases cs with
    | nil => cases h
    | cons c cs =>
      obtain ⟨h1, h⟩ := br_none (show br (ownIs H1 b c) (decL H1 ps cs) none = some z from h)
      obtain ⟨v, r, rfl, hv, hcs⟩ := hc.uncons
      exact .cons (own_head hr h1 (hlt b (isArr_mem ho1)) ho1 hv) (cells_head hr hlt ho h hcs)
  | .cst v0 :: ps, cs, z, us, ho, h, hc => by
    obtain ⟨ho1, ho⟩ := and_spec (show (patOk bl n0 (.cst v0) && ps.all (patOk bl n0)) = true from ho)
    cases cs with
    | nil => cases h
    | cons c cs =>
      obtain ⟨h1, h⟩ := br_none (show br (avEq v0 c) (decL H1 ps cs) none = some z from h)
      obtain ⟨v, r, rfl, hv, hcs⟩ := hc.uncons
      exact .cons (cst_head h1 ho1 hv) (cells_head hr hlt ho h hcs)
  | .clo f ts :: ps, cs, z, us, ho, h, hc => by
    obtain ⟨ho1, ho⟩ := and_spec (show (patOk bl n0 (.clo f ts) && ps.all (patOk bl n0)) = true from ho)
    cases cs with
    | nil => cases h
    | cons c cs =>
      simp only [decL] at h
      split at h <;> try (cases h; done)
      rename_i x hx
      split at h <;> try (cases h; done)
      rename_i y hy
      cases h
      obtain ⟨v, r, rfl, hv, hcs⟩ := hc.uncons
      exact .cons (clo_head hx hv) (cells_head hr hlt ho hy hcs)

theorem slots_head (hr : HRel g H1 w) (hlt : ∀ b, b ∈ bl.map (·.1) → b < n0) {tm : Nat → AV} {us : Nat → Value} (htm : ∀ i, RelV g w (tm i) (us i)) : ∀ {sl : List (Nat × Pat)} {s : denS sl}, (sl.all fun p => patOk bl n0 p.2) = true → decS tm H1 sl = some s → ∀ i, RelV (g.head bl K n0) w (tmS K sl s i) (us i)
  | [], s, _, h, i => .undef _
  | (c, .val t) :: sl, s, ho, h, i => by
    obtain ⟨_, ho⟩ := and_spec (show (patOk bl n0 (.val t) && (sl.all fun p => patOk bl n0 p.2)) = true from ho)
    simp only [decS] at h
    split at h <;> try (cases h; done)
    rename_i x hx
    split at h <;> try (cases h; done)
    rename_i y hy
    cases h
    show RelV _ w (upd (tmS K sl y) c (t.val x) i) _
    by_cases e : i = c
    · subst e; rw [upd_same]; exact val_head hx (htm i)
    · rw [upd_ne _ _ e]; exact slots_head hr hlt htm ho hy i
  | (c, .own b) :: sl, s, ho, h, i => by
    obtain ⟨ho1, ho⟩ := and_spec (show (patOk bl n0 (.own b) && (sl.all fun p => patOk bl n0 p.2)) = true from ho)
    obtain ⟨h1, h⟩ := br_none (show br (ownIs H1 b (tm c)) (decS tm H1 sl) none = some s from h)
    show RelV _ w (upd (tmS K sl s) c (.own b K) i) _
    by_cases e : i = c
    · subst e; rw [upd_same]; exact own_head hr h1 (hlt b (isArr_mem ho1)) ho1 (htm i)
    · rw [upd_ne _ _ e]; exact slots_head hr hlt htm ho h i
  | (c, .cst v) :: sl, s, ho, h, i => by
    obtain ⟨ho1, ho⟩ := and_spec (show (patOk bl n0 (.cst v) && (sl.all fun p => patOk bl n0 p.2)) = true from ho)
    obtain ⟨h1, h⟩ := br_none (show br (avEq v (tm c)) (decS tm H1 sl) none = some s from h)
    show RelV _ w (upd (tmS K sl s) c v i) _
    by_cases e : i = c
    · subst e; rw [upd_same]; exact cst_head h1 ho1 (htm i)
    · rw [upd_ne _ _ e]; exact slots_head hr hlt htm ho h i
  | (c, .clo f ts) :: sl, s, ho, h, i => by
    obtain ⟨ho1, ho⟩ := and_spec (show (patOk bl n0 (.clo f ts) && (sl.all fun p => patOk bl n0 p.2)) = true from ho)
    simp only [decS] at h
    split at h <;> try (cases h; done)
    rename_i x hx
    split at h <;> try (cases h; done)
    rename_i y hy
    cases h
    show RelV _ w (upd (tmS K sl y) c (cloAV f ts x) i) _
    by_cases e : i = c
    · subst e; rw [upd_same]; exact clo_head hx (htm i)
    · rw [upd_ne _ _ e]; exact slots_head hr hlt htm ho hy i

/-- From the state behind a round to a head. -/
theorem reset {g0 : Gh} {H0 : Hp} {w0 : World} {Dx : List Nat} {Hx : Hp} {lo nt : Nat} {tm1 : Nat → AV} {a : Act} {sl : List (Nat × Pat)} {s : denS sl} {y : denB bl} {d : List Nat}
    (hr0 : HRel g0 H0 w0) (hfr0 : ∀ b, n0 ≤ b → g0.G b = .none) (hbl : (bl.all fun p => (Nat.blt p.1 n0).and (blkOk bl n0 p.2)) = true) (hst : startOk K H0 bl = true) (hsl : (sl.all fun p => patOk bl n0 p.2) = true)
    (T : Ext g0 H0 w0 Dx g Hx w) (hDx : ∀ b ∈ Dx, g0.G b ≠ .none → b ∈ bl.map (·.1)) (hr : HRel g H1 w) (htm : ∀ i, RelV g w (tm1 i) (a.tmps.getD i Go.undef)) (hnt : a.tmps.size = nt) (hdf : a.defers = [])
    (hnew : ∀ b, g0.G b = .none → g.G b ≠ .none → lo ≤ b) (h1 : decS tm1 H1 sl = some s) (h2 : decB H1 bl = some y) :
    Rel (g.head bl K n0) ⟨nt, tmS K sl s, hpB K H0 bl y, n0, d⟩ a w ∧ Ext g0 H0 w0 (bl.map (·.1)) (g.head bl K n0) (hpB K H0 bl y) w ∧ ∀ b, g0.G b = .none → (g.head bl K n0).G b ≠ .none → lo ≤ b := by
  have hlt : ∀ b, b ∈ bl.map (·.1) → b < n0 := fun b hb => by
    obtain ⟨p, hp, rfl⟩ := List.mem_map.1 hb
    exact Nat.le_of_ble_eq_true (and_spec (List.all_eq_true.1 hbl p hp)).1
  have l0 : ∀ b, g0.G b ≠ .none → b < n0 := fun b hb => by
    rcases Nat.lt_or_ge b n0 with h | h
    · exact h
    · exact absurd (hfr0 b h) hb
  have look := lookB (H := H0) (K := K) h2
  have un : ∀ b, b ∉ bl.map (·.1) → isArr bl b = false := fun b hb => by
    cases e : isArr bl b with
    | false => rfl
    | true => exact absurd (isArr_mem e) hb
  have gone : ∀ {x : Blk}, (∃ t l k, x = .arr t l k) ∨ (∃ cs, x = .box cs) → x ≠ .gone := by
    rintro x (⟨t, l, k, rfl⟩ | ⟨cs, rfl⟩) h <;> cases h
  -- what there was, unlisted, is as it was
  have keep : ∀ b, g0.G b ≠ .none → b ∉ bl.map (·.1) → (g.head bl K n0).G b = g0.G b ∧ g.i b = g0.i b := fun b hn hb => by
    have := T.same b hn fun h => hb (hDx b h hn)
    exact ⟨by rw [head_same (l0 b hn) (un b hb)]; exact this.1, this.2.1⟩
  -- a block of cells does not turn into another thing, nor does an iterator
  have kinds : ∀ b, g0.G b ≠ .none → g.G b ≠ g0.G b → (g0.G b = .box ∨ g0.G b = .siter) → g.G b ≠ .dead → False := fun b hn hne hk hd => by
    by_cases hbD : b ∈ Dx
    · rcases T.turn b hbD hn with e | ⟨e, e', _⟩ | ⟨e, e', _⟩ | ⟨t', k', n', e, _⟩ | ⟨t', k', n', k2, n2, e, _⟩ | ⟨kt, vt, k', k2, e, _⟩
      · exact hd e
      · exact hne (e'.trans e.symm)
      · exact hne (e'.trans e.symm)
      · rcases hk with h | h <;> rw [h] at e <;> cases e
      · rcases hk with h | h <;> rw [h] at e <;> cases e
      · rcases hk with h | h <;> rw [h] at e <;> cases e
    · exact hne (T.same b hn hbD).1
  have E2 : Ext g0 H0 w0 (bl.map (·.1)) (g.head bl K n0) (hpB K H0 bl y) w := by
    refine ⟨T.mono, fun r hF => ?_, T.size, fun r hlt' hb => T.frame r hlt' fun b hbD hn => hb b (hDx b hbD hn) hn, fun b hb hn => ?_, fun b hn hb => ?_, fun b hb hn r c hi => ?_, fun b hb hn => ?_, fun b r c h h' hi => ?_, T.env⟩
    · rcases T.more r hF with h | ⟨b, hb, hn, hc⟩ | h
      · exact .inl h
      · exact .inr (.inl ⟨b, hDx b hb hn, hn, hc⟩)
      · exact .inr (.inr h)
    · rcases startLook hst b hb with ⟨_, t, l, k, e, _⟩ | ⟨_, cs, e⟩ | ⟨_, s', p', e⟩ | ⟨_, kt, vt, es, k, e, _⟩ <;> rw [e] <;> exact fun h => by cases h
    · refine ⟨(keep b hn hb).1, (keep b hn hb).2, ?_⟩
      rcases look b with ⟨_, _, h⟩ | ⟨h, _⟩ | ⟨h, _⟩ | ⟨h, _⟩ | ⟨h, _⟩
      · exact h
      · exact absurd h hb
      · exact absurd h hb
      · exact absurd h hb
      · exact absurd h hb
    · by_cases hbD : b ∈ Dx
      · exact T.moved b hbD hn r c hi
      · rw [show (g.head bl K n0).i b = g.i b from rfl, (T.same b hn hbD).2.1] at hi
        exact .inl ⟨c, hi⟩
    · rcases startLook hst b hb with ⟨ha, t0, l0', k0, e0, hk⟩ | ⟨ha, cs0, e0⟩ | ⟨ha, s0, p0, e0⟩ | ⟨ha, kt0, vt0, es0, k0, e0, hk⟩
      · have hG0 : g0.G b = .arr t0 k0 l0'.length := by rw [hr0.kd b (fun e => by rw [e0] at e; cases e), e0]; rfl
        rcases look b with ⟨h, _⟩ | ⟨_, _, t, l, k, e1, _⟩ | ⟨_, h, _⟩ | ⟨_, h, _⟩ | ⟨_, _, kt, vt, es, k, e1, _⟩
        · exact absurd hb h
        · have hG1 : g.G b = .arr t k l.length := by rw [hr.kd b (fun e => by rw [e1] at e; cases e), e1]; rfl
          have hG2 := head_arr (K := K) (hlt b hb) ha hG1
          have ht : t = t0 := by
            by_cases hbD : b ∈ Dx
            · rcases T.turn b hbD hn with e | ⟨e, _⟩ | ⟨e, _⟩ | ⟨t', k', n', e, e', _⟩ | ⟨t', k', n', k2, n2, e, e', _⟩ | ⟨kt, vt, k', k2, e, _⟩
              · rw [hG1] at e; cases e
              · rw [hG0] at e; cases e
              · rw [hG0] at e; cases e
              · have a1 := hG0.symm.trans e; have a2 := hG1.symm.trans e'
                injection a1 with a1; injection a2 with a2; rw [a1, a2]
              · have a1 := hG0.symm.trans e; have a2 := hG1.symm.trans e'
                injection a1 with a1; injection a2 with a2; rw [a1, a2]
              · rw [hG0] at e; cases e
            · have := (T.same b hn hbD).1
              rw [hG1, hG0] at this
              injection this
          subst ht
          exact .inr (.inr (.inr (.inr (.inl ⟨t, k0, _, K, _, hG0, hG2, hk⟩))))
        · rw [ha] at h; cases h
        · rw [ha] at h; cases h
        · have hG1 : g.G b = .map kt vt k := by rw [hr.kd b (fun e => by rw [e1] at e; cases e), e1]; rfl
          exfalso
          by_cases hbD : b ∈ Dx
          · rcases T.turn b hbD hn with e | ⟨e, _⟩ | ⟨e, _⟩ | ⟨t', k', n', e, e', _⟩ | ⟨t', k', n', k2, n2, e, e', _⟩ | ⟨kt, vt, k', k2, e, _⟩
            · rw [hG1] at e; cases e
            · rw [hG0] at e; cases e
            · rw [hG0] at e; cases e
            · rw [hG1] at e'; cases e'
            · rw [hG1] at e'; cases e'
            · rw [hG0] at e; cases e
          · have := (T.same b hn hbD).1
            rw [hG1, hG0] at this
            cases this
      · have hG0 : g0.G b = .box := by rw [hr0.kd b (fun e => by rw [e0] at e; cases e), e0]; rfl
        rcases look b with ⟨h, _⟩ | ⟨_, h, _⟩ | ⟨_, _, ps, cs, z, _, e1, _⟩ | ⟨_, _, s', p', e1, _⟩ | ⟨_, h, _⟩
        · exact absurd hb h
        · rw [ha] at h; cases h
        · have hG1 : g.G b = .box := by rw [hr.kd b (fun e => by rw [e1] at e; cases e), e1]; rfl
          have hG2 : (g.head bl K n0).G b = .box := by rw [head_same (hlt b hb) ha]; exact hG1
          refine .inr (.inl ⟨hG0, hG2, ?_⟩)
          show g.i b = g0.i b
          by_cases hbD : b ∈ Dx
          · rcases T.turn b hbD hn with e | ⟨_, _, e⟩ | ⟨e, _⟩ | ⟨t', k', n', e, _⟩ | ⟨t', k', n', k2, n2, e, _⟩ | ⟨kt, vt, k', k2, e, _⟩
            · rw [hG1] at e; cases e
            · exact e
            · rw [hG0] at e; cases e
            · rw [hG0] at e; cases e
            · rw [hG0] at e; cases e
            · rw [hG0] at e; cases e
          · exact (T.same b hn hbD).2.1
        · have hG1 : g.G b = .siter := by rw [hr.kd b (fun e => by rw [e1] at e; cases e), e1]; rfl
          exact (kinds b hn (by rw [hG0, hG1]; exact fun h => by cases h) (by rw [hG0]; exact .inl rfl) (by rw [hG1]; exact fun h => by cases h)).elim
        · rw [ha] at h; cases h
      · have hG0 : g0.G b = .siter := by rw [hr0.kd b (fun e => by rw [e0] at e; cases e), e0]; rfl
        rcases look b with ⟨h, _⟩ | ⟨_, h, _⟩ | ⟨_, _, ps, cs, z, _, e1, _⟩ | ⟨_, _, s', p', e1, _⟩ | ⟨_, h, _⟩
        · exact absurd hb h
        · rw [ha] at h; cases h
        · have hG1 : g.G b = .box := by rw [hr.kd b (fun e => by rw [e1] at e; cases e), e1]; rfl
          exact (kinds b hn (by rw [hG0, hG1]; exact fun h => by cases h) (by rw [hG0]; exact .inr rfl) (by rw [hG1]; exact fun h => by cases h)).elim
        · have hG1 : g.G b = .siter := by rw [hr.kd b (fun e => by rw [e1] at e; cases e), e1]; rfl
          have hG2 : (g.head bl K n0).G b = .siter := by rw [head_same (hlt b hb) ha]; exact hG1
          refine .inr (.inr (.inl ⟨hG0, hG2, ?_⟩))
          show g.i b = g0.i b
          by_cases hbD : b ∈ Dx
          · rcases T.turn b hbD hn with e | ⟨e1', _, e⟩ | ⟨_, _, e⟩ | ⟨t', k', n', e, _⟩ | ⟨t', k', n', k2, n2, e, _⟩ | ⟨kt, vt, k', k2, e, _⟩
            · rw [hG1] at e; cases e
            · exact absurd (hG0.symm.trans e1') (fun h => by cases h)
            · exact e
            · rw [hG0] at e; cases e
            · rw [hG0] at e; cases e
            · rw [hG0] at e; cases e
          · exact (T.same b hn hbD).2.1
        · rw [ha] at h; cases h
      · have hG0 : g0.G b = .map kt0 vt0 k0 := by rw [hr0.kd b (fun e => by rw [e0] at e; cases e), e0]; rfl
        rcases look b with ⟨h, _⟩ | ⟨_, _, t, l, k, e1, _⟩ | ⟨_, h, _⟩ | ⟨_, h, _⟩ | ⟨_, _, kt, vt, es, k, e1, _⟩
        · exact absurd hb h
        · have hG1 : g.G b = .arr t k l.length := by rw [hr.kd b (fun e => by rw [e1] at e; cases e), e1]; rfl
          exfalso
          by_cases hbD : b ∈ Dx
          · rcases T.turn b hbD hn with e | ⟨e, _⟩ | ⟨e, _⟩ | ⟨t', k', n', e, e', _⟩ | ⟨t', k', n', k2, n2, e, e', _⟩ | ⟨kt, vt, k', k2, _, e', _⟩
            · rw [hG1] at e; cases e
            · rw [hG0] at e; cases e
            · rw [hG0] at e; cases e
            · rw [hG0] at e; cases e
            · rw [hG0] at e; cases e
            · rw [hG1] at e'; cases e'
          · have := (T.same b hn hbD).1
            rw [hG1, hG0] at this
            cases this
        · rw [ha] at h; cases h
        · rw [ha] at h; cases h
        · have hG1 : g.G b = .map kt vt k := by rw [hr.kd b (fun e => by rw [e1] at e; cases e), e1]; rfl
          have hG2 := head_map (K := K) (hlt b hb) ha hG1
          have ht : kt = kt0 ∧ vt = vt0 ∧ g.i b = g0.i b := by
            by_cases hbD : b ∈ Dx
            · rcases T.turn b hbD hn with e | ⟨e, _⟩ | ⟨e, _⟩ | ⟨t', k', n', e, e', _⟩ | ⟨t', k', n', k2, n2, e, e', _⟩ | ⟨kt', vt', k', k2, e, e', _, e''⟩
              · rw [hG1] at e; cases e
              · rw [hG0] at e; cases e
              · rw [hG0] at e; cases e
              · rw [hG0] at e; cases e
              · rw [hG0] at e; cases e
              · have a1 := hG0.symm.trans e; have a2 := hG1.symm.trans e'
                injection a1 with a1 b1; injection a2 with a2 b2; exact ⟨by rw [a1, a2], by rw [b1, b2], e''⟩
            · have := T.same b hn hbD
              have h3 := this.1
              rw [hG1, hG0] at h3
              injection h3 with a1 b1
              exact ⟨a1, b1, this.2.1⟩
          obtain ⟨rfl, rfl, hi⟩ := ht
          exact .inr (.inr (.inr (.inr (.inr ⟨kt, vt, k0, K, hG0, hG2, hk, hi⟩))))
    · exact T.fresh b r c h (head_live h').2 hi
  refine ⟨⟨slots_head hr hlt htm hsl h1, hnt, hdf, ⟨fun b => ?_, fun b hb => ?_, fun b b' r c c' k1 k2 k3 k4 k5 k6 => ?_, fun b r c k1 k2 k3 => ?_, hr.ex⟩, fun b hb => head_ge hb⟩, E2, fun b h h' => hnew b h (head_live h').2⟩
  · show RelB _ w b (hpB K H0 bl y b)
    rcases look b with ⟨hb, _, h⟩ | ⟨_, _, t, l, k, e1, e2⟩ | ⟨hb, _, ps, cs, z, hm, e1, hz, e2⟩ | ⟨_, _, s', p', e1, e2⟩ | ⟨_, _, kt, vt, es, k, e1, e2⟩
    · rw [h]
      by_cases hg : H0 b = .gone
      · rw [hg]; exact trivial
      · exact RelB.step E2 hr0 hg hb
    · rw [e2]
      have := hr.blk b
      rw [e1] at this
      exact this
    · rw [e2]
      have := hr.blk b
      rw [e1] at this
      obtain ⟨r, c, vs, e, f1, f2, f3⟩ := this
      exact ⟨r, c, vs, e, f1, f2, cells_head hr hlt (and_spec (List.all_eq_true.1 hbl _ hm)).2 hz f3⟩
    · rw [e2]
      have := hr.blk b
      rw [e1] at this
      exact this
    · rw [e2]
      have := hr.blk b
      rw [e1] at this
      exact this
  · show _ = kindOf (hpB K H0 bl y b)
    have hb : hpB K H0 bl y b = .gone → False := hb
    rcases look b with ⟨hm, hu, h⟩ | ⟨hm, ha, t, l, k, e1, e2⟩ | ⟨hm, ha, ps, cs, z, _, e1, hz, e2⟩ | ⟨hm, ha, s', p', e1, e2⟩ | ⟨hm, ha, kt, vt, es, k, e1, e2⟩
    · rw [h] at hb ⊢
      have hk := hr0.kd b hb
      rw [← hk]
      exact (keep b (by rw [hk]; exact kindOf_none) hm).1
    · rw [e2, head_arr (K := K) (hlt b hm) ha (by rw [hr.kd b (fun e => by rw [e1] at e; cases e), e1]; rfl : g.G b = .arr t k l.length)]; rfl
    · rw [e2, head_same (hlt b hm) ha, hr.kd b (fun e => by rw [e1] at e; cases e), e1]; rfl
    · rw [e2, head_same (hlt b hm) ha, hr.kd b (fun e => by rw [e1] at e; cases e), e1]
    · rw [e2, head_map (K := K) (hlt b hm) ha (by rw [hr.kd b (fun e => by rw [e1] at e; cases e), e1]; rfl : g.G b = .map kt vt k)]; rfl
  · exact hr.inj b b' r c c' k1 k2 (head_live k3).2 (head_dead k3 k4) (head_live k5).2 (head_dead k5 k6)
  · exact hr.disj b r c k1 (head_live k2).2 (head_dead k2 k3)
end
end Go.VI
