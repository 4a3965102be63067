/- Slices that are done with; a region in its own order. -/
import Derived.Test.YtfifgcaielmbiaaVIm
namespace Go.VI
set_option linter.unusedVariables false
set_option linter.unusedSimpArgs false
variable {R : Type} {P : Program}

theorem dropB_mem {H : Hp} {b : Nat} : ∀ {l : List Nat}, b ∈ l → dropB H l b = .gone
  | c :: l, h => by
    simp only [dropB]
    by_cases e : b = c
    · subst e; exact upd_same _ _ _
    · rw [upd_ne _ _ e]
      exact dropB_mem ((List.mem_cons.1 h).resolve_left e)
theorem dropB_ne {H : Hp} {b : Nat} : ∀ {l : List Nat}, b ∉ l → dropB H l b = H b
  | [], _ => rfl
  | c :: l, h => by
    simp only [dropB]
    have e : b ≠ c := fun e => h (e ▸ List.mem_cons_self)
    rw [upd_ne _ _ e]
    exact dropB_ne fun h' => h (List.mem_cons_of_mem _ h')

open Classical in
/-- What is known behind rows are given up. -/
noncomputable def Gh.dropN (g : Gh) (l : List Nat) : Gh := ⟨fun r => g.F r ∨ ∃ b ∈ l, g.G b ≠ .none ∧ ∃ c, g.i b = some (r, c), g.i, fun b => if b ∈ l ∧ g.G b ≠ .none then .dead else g.G b⟩

open Classical in
theorem drop_ext {g : Gh} {H : Hp} {w : World} {l : List Nat} (hr : HRel g H w) (hl : ∀ b ∈ l, H b ≠ .gone) :
    Ext g H w l (g.dropN l) (dropB H l) w ∧ HRel (g.dropN l) (dropB H l) w ∧ (∀ b, g.G b = .none → (g.dropN l).G b ≠ .none → False) := by
  have hG : ∀ b, b ∈ l → g.G b ≠ .none → (g.dropN l).G b = .dead := fun b hb hn => by
    show (if b ∈ l ∧ g.G b ≠ .none then Kd.dead else g.G b) = _
    rw [if_pos ⟨hb, hn⟩]
  have hG' : ∀ b, b ∉ l → (g.dropN l).G b = g.G b := fun b hb => by
    show (if b ∈ l ∧ g.G b ≠ .none then Kd.dead else g.G b) = _
    rw [if_neg fun h => hb h.1]
  have live : ∀ b, (g.dropN l).G b ≠ .none → (g.dropN l).G b ≠ .dead → b ∉ l ∧ g.G b ≠ .none ∧ g.G b ≠ .dead := fun b h1 h2 => by
    by_cases hb : b ∈ l
    · by_cases hn : g.G b = .none
      · exfalso
        have e : (g.dropN l).G b = g.G b := by
          show (if b ∈ l ∧ g.G b ≠ .none then Kd.dead else g.G b) = _
          rw [if_neg fun h => h.2 hn]
        exact h1 (by rw [e]; exact hn)
      · exact absurd (hG b hb hn) h2
    · rw [hG' b hb] at h1 h2; exact ⟨hb, h1, h2⟩
  have he : Ext g H w l (g.dropN l) (dropB H l) w :=
    ⟨fun r h => .inl h, fun r h => by
      rcases h with h | h
      · exact .inl h
      · exact .inr (.inl h), Nat.le_refl _, fun _ _ _ => rfl, fun b hb _ => hl b hb, fun b hn hb => ⟨hG' b hb, rfl, dropB_ne hb⟩, fun b hb hn r c h => .inl ⟨c, h⟩, fun b hb hn => .inl (hG b hb hn), (fun b r c h h' => by
        by_cases hb : b ∈ l
        · exact absurd h (live_of hr (hl b hb)).1
        · rw [hG' b hb] at h'; exact absurd h h'), .refl w⟩
  refine ⟨he, ⟨fun b => ?_, fun b hb => ?_, fun b b' r c c' h1 h2 h3 h4 h5 h6 => ?_, fun b r c h1 h2 h3 => ?_, fun r hF => ?_⟩, fun b h h' => ?_⟩
  · by_cases hb : b ∈ l
    · rw [dropB_mem hb]; exact trivial
    · rw [dropB_ne hb]
      by_cases hg : H b = .gone
      · rw [hg]; exact trivial
      · exact RelB.step he hr hg hb
  · by_cases hbl : b ∈ l
    · exact (hb (dropB_mem hbl)).elim
    · rw [hG' b hbl, dropB_ne hbl]
      exact hr.kd b (fun h => hb (by rw [dropB_ne hbl]; exact h))
  · obtain ⟨_, a1, a2⟩ := live b h3 h4
    obtain ⟨_, a3, a4⟩ := live b' h5 h6
    exact hr.inj b b' r c c' h1 h2 a1 a2 a3 a4
  · obtain ⟨hb, a1, a2⟩ := live b h2 h3
    have := hr.disj b r c h1 a1 a2
    refine ⟨fun hF => ?_, this.2⟩
    rcases hF with hF | ⟨b', hb', hn', c', hi'⟩
    · exact this.1 hF
    · have hl' := live_of hr (hl b' hb')
      have := hr.inj b b' r c c' h1 hi' a1 a2 hl'.1 hl'.2
      exact hb (this ▸ hb')
  · rcases hF with hF | ⟨b', hb', hn', c', hi'⟩
    · exact hr.ex r hF
    · have hl' := live_of hr (hl b' hb')
      exact (hr.disj b' r c' hi' hl'.1 hl'.2).2
  · by_cases hb : b ∈ l
    · exact (live_of hr (hl b hb)).1 h
    · rw [hG' b hb] at h'; exact h' h

theorem freeze1_sound {g g' : Gh} {H H' : Hp} {w : World} {D : List Nat} {v : AV} {u : Value} (hr : HRel g H w) (he : Ext g H w D g' H' w) (h : RelV g w v u) (hF : ∀ b ∈ frees1 v, g.G b ≠ .none → ∀ r c, g.i b = some (r, c) → g'.F r) : RelV g' w (borrow1 H v) u := by
  have hm : RelV g' w v u := h.step he hr
  have arr : ∀ {b k' : Nat} {t : Ty} {l : List t.den}, b ∈ frees1 v → H b = .arr t l k' → g.G b = .arr t k' l.length ∧ ∀ i y, l[i]? = some y → ∃ r c', g.i b = some (r, c') ∧ g'.F r ∧ ∃ c, RelT g'.F w t y c ∧ ∀ j v, c[j]? = some v → w.cell? ⟨r, i * t.size + j, none⟩ = some v := by
    intro b k' t l hbm hb
    have hs : H b ≠ .gone := by rw [hb]; exact fun h => by cases h
    obtain ⟨hn, hd⟩ := live_of hr hs
    have hG : g.G b = .arr t k' l.length := by rw [hr.kd b (fun e => hs e), hb]; rfl
    refine ⟨hG, fun i y hy => ?_⟩
    have hB := hr.blk b
    rw [hb] at hB
    rcases hB with ⟨_, rfl⟩ | ⟨r', cap', vs, e, h1, h2, h3, h4, h5⟩
    · simp at hy
    obtain ⟨c, a1, a2⟩ := h5 i y hy
    exact ⟨r', cap', h1, hF b hbm hn r' cap' h1, c, a1.mono he.mono (fun _ _ => rfl), fun j v hj => by rw [cell_at h2]; exact a2 j v hj⟩
  cases v <;> try exact hm
  · rename_i b k
    simp only [borrow1]
    split
    · rename_i t l k' hb
      cases hk : Nat.beq k k' with
      | false => exact .undef _
      | true =>
        have hk := Nat.eq_of_beq_eq_true hk
        obtain ⟨hG, hc⟩ := arr (List.mem_singleton.2 rfl) hb
        cases h with
        | own _ _ _ hn0 hs0 ha =>
          obtain ⟨a, cap, rfl, hle, hor⟩ := (ha _ _ _ hG).2 hk
          refine .vals _ _ _ ⟨a, cap, rfl, hle, fun i y hy => ?_⟩
          obtain ⟨r, c', h1, hF, c, c1, c2⟩ := hc i y hy
          rcases hor with ⟨h6, _⟩ | ⟨r2, h6, rfl⟩
          · rw [h1] at h6; cases h6
          rw [h1] at h6; cases h6
          exact ⟨_, rfl, hF, c, c1, fun j v hj => by rw [add_mk, Nat.zero_add]; exact c2 j v hj⟩
    · exact .undef _
  · rename_i b off len k lim
    simp only [borrow1]
    split
    · rename_i t l k' hb
      cases hk : Nat.beq k k' with
      | false => exact .undef _
      | true =>
        have hk := Nat.eq_of_beq_eq_true hk
        obtain ⟨hG, hc⟩ := arr (List.mem_singleton.2 rfl) hb
        cases h with
        | sref _ _ _ _ _ _ hn0 hs0 ha =>
          obtain ⟨hofl, a, cap, rfl, hle, _, hor⟩ := (ha _ _ _ hG).2 hk
          have hll : ((l.drop off).take len).length = len := by simp; omega
          refine .vals _ _ _ ⟨a, cap, by rw [hll], by rw [hll]; exact hle, fun i y hy => ?_⟩
          have hi : i < len := by
            have := (List.getElem?_eq_some_iff.1 hy).1
            rw [hll] at this; exact this
          rw [List.getElem?_take, if_pos hi, List.getElem?_drop] at hy
          obtain ⟨r, c', h1, hF, c, c1, c2⟩ := hc _ y hy
          obtain ⟨r2, c3, h6, rfl⟩ := hor (by omega)
          rw [h1] at h6; cases h6
          exact ⟨_, rfl, hF, c, c1, fun j v hj => by
            rw [add_mk]
            have := c2 j v hj
            rw [← this]; congr 2; rw [Nat.add_mul]; omega⟩
    · exact .undef _

theorem freezeA_sound {g g' : Gh} {H H' : Hp} {w : World} {D : List Nat} {cs : List AV} {us : List Value} (hr : HRel g H w) (he : Ext g H w D g' H' w) (h : RelC g w cs us) (hF : ∀ b ∈ cs.flatMap frees1, g.G b ≠ .none → ∀ r c, g.i b = some (r, c) → g'.F r) : RelC g' w (cs.map (borrow1 H)) us := by
  refine ⟨by simp [h.1], fun j c v h1 h2 => ?_⟩
  rw [List.getElem?_map] at h1
  cases hx : cs[j]? with
  | none => rw [hx] at h1; cases h1
  | some c0 =>
    rw [hx] at h1
    cases h1
    exact freeze1_sound hr he (h.2 j c0 v hx h2) fun b hb => hF b (List.mem_flatMap.2 ⟨c0, List.mem_of_getElem? hx, hb⟩)

/-- One value's blocks. -/
def freesP : AV → List Nat
  | .agg cs => cs.flatMap frees1
  | v => frees1 v
theorem freezeP_sound {g g' : Gh} {H H' : Hp} {w : World} {D : List Nat} {v : AV} {u : Value} (hr : HRel g H w) (he : Ext g H w D g' H' w) (h : RelV g w v u) (hF : ∀ b ∈ freesP v, g.G b ≠ .none → ∀ r c, g.i b = some (r, c) → g'.F r) : RelV g' w (borrow H v) u := by
  cases v <;> try exact freeze1_sound hr he h hF
  rename_i cs
  have e := h.isAgg rfl
  have := RelV.ofAgg (freezeA_sound hr he (h.cells rfl) hF)
  rw [Array.toArray_toList, ← e] at this
  exact this

theorem there1_spec {H : Hp} {v : AV} (h : there1 H v = true) : ∀ b ∈ frees1 v, H b ≠ .gone := by
  intro b hb
  cases v <;> simp only [frees1] at hb <;> try (cases hb; done)
  all_goals
    rw [List.mem_singleton] at hb; subst hb
    simp only [there1] at h
    split at h
    · rename_i e; rw [e]; exact fun h => by cases h
    · cases h

theorem freeze_went {g : Gh} {H : Hp} {w : World} {v : AV} {u : Value} (hr : HRel g H w) (hv : RelV g w v u) (ht : there H v = true) :
    ∃ g', Ext g H w (frees v) g' (dropB H (frees v)) w ∧ HRel g' (dropB H (frees v)) w ∧ RelV g' w (freezeV H v) u ∧ (∀ b, g.G b = .none → g'.G b ≠ .none → False) := by
  have hseen : ∀ b ∈ frees v, H b ≠ .gone := by
    intro b hb
    cases v <;> first
      | (simp [frees, frees1] at hb; done)
      | skip
    · exact there1_spec (v := .own _ _) ht b hb
    · rename_i b0 off len k lim
      exact there1_spec (v := .sref b0 off len k lim) ht b hb
    · rename_i cs
      have hb : b ∈ cs.flatMap frees1 := hb
      obtain ⟨c, hc, hb⟩ := List.mem_flatMap.1 hb
      exact there1_spec (List.all_eq_true.1 ht c hc) b hb
    · rename_i vs
      obtain ⟨c, hc, hb⟩ := List.mem_flatMap.1 (show b ∈ vs.flatMap _ from hb)
      have h1 := List.all_eq_true.1 ht c hc
      cases c <;> first
        | (simp [frees1] at hb; done)
        | skip
      · exact there1_spec (v := .own _ _) h1 b hb
      · rename_i b0 off len k lim
        exact there1_spec (v := .sref b0 off len k lim) h1 b hb
      · rename_i cs
        obtain ⟨c, hc, hb⟩ := List.mem_flatMap.1 (show b ∈ cs.flatMap frees1 from hb)
        exact there1_spec (List.all_eq_true.1 h1 c hc) b hb
  obtain ⟨he, h2, h3⟩ := drop_ext hr hseen
  refine ⟨_, he, h2, ?_, h3⟩
  have hF : ∀ b ∈ frees v, g.G b ≠ .none → ∀ r c, g.i b = some (r, c) → (g.dropN (frees v)).F r := fun b hb hn r c hi => .inr ⟨b, hb, hn, c, hi⟩
  cases v <;> try exact freezeP_sound hr he hv hF
  rename_i vs
  cases hv with
  | tup _ us f h1 h2' h3' =>
    simp only [freezeV]
    refine .tup _ _ f (by simp [h1]) (fun j c hj => ?_) (fun j c hj => ?_)
    · rw [List.getElem?_map] at hj
      cases hx : vs[j]? with
      | none => rw [hx] at hj; cases hj
      | some c0 => exact h2' j c0 hx
    · rw [List.getElem?_map] at hj
      cases hx : vs[j]? with
      | none => rw [hx] at hj; cases hj
      | some c0 =>
        rw [hx] at hj
        cases hj
        refine freezeP_sound hr he (h3' j c0 hx) fun b hb => hF b ?_
        refine List.mem_flatMap.2 ⟨c0, List.mem_of_getElem? hx, ?_⟩
        cases c0 <;> exact hb

theorem thawB_went {g : Gh} {w : World} {H : Hp} {b c nb n : Nat} {ty : Ty} {v : AV} {u : Value} {cs : List AV} (hr : HRel g H w) (hnb : g.G nb = .none) (hb : H b = .box cs) (hc : cs[c]? = some .nils) (hv : RelV g w v u) :
    ∃ g', Went g H w (fun b => b = nb ∨ (n ≤ b ∧ b < n)) v (upd (upd H nb (.arr ty [] 0)) b (.box (cs.set c (.own nb 0)))) [b] u w g' := by
  have hG : g.G b = .box := by rw [hr.kd b (fun e => by rw [hb] at e; cases e), hb]; rfl
  have hne : b ≠ nb := fun e => by rw [e, hnb] at hG; cases hG
  obtain ⟨x1, x2, x3⟩ := HRel.allocNil (t := ty) hr hnb (rfl : w.heap = w.heap)
  have hb1 : upd H nb (.arr ty [] 0) b = .box cs := by rw [upd_ne _ _ hne]; exact hb
  have hB := x2.blk b
  rw [hb1] at hB
  obtain ⟨r, k, vs, e, f1, f2, f3⟩ := hB
  have hG1 : (g.new nb (.arr ty 0 0) none).G b = .box := by show upd g.G nb _ b = _; rw [upd_ne _ _ hne]; exact hG
  obtain ⟨y1, y2, y3⟩ := HRel.write (w' := w) (blk := .box (cs.set c (.own nb 0))) x2 (by rw [hb1]; exact fun h => by cases h) f1 (fun h => by cases h) rfl (fun _ _ => rfl) (.inl ⟨hG1, rfl⟩) (fun he => by
    refine ⟨r, k, vs, e, f1, f2, ?_⟩
    have f4 : RelC _ w cs vs.toList := f3.step he x2
    refine ⟨by rw [f4.1, List.length_set], fun j x y hx hy => ?_⟩
    by_cases hj : c = j
    · subst hj
      have hlt := (List.getElem?_eq_some_iff.1 hc).1
      rw [List.getElem?_set_self hlt] at hx
      cases hx
      have h5 := f4.2 c _ y hc hy
      cases h5
      have hG2 : upd (g.new nb (.arr ty 0 0) none).G b (kindOf (.box (cs.set c (.own nb 0)))) nb = .arr ty 0 0 := by rw [upd_ne _ _ (Ne.symm hne)]; exact Gh.new_G ..
      refine .own _ _ _ (by show upd _ _ _ nb ≠ _; rw [hG2]; exact fun h => by cases h) ⟨_, _, _, rfl⟩ (fun t' k' n' hG' => ?_)
      have hG' : upd (g.new nb (.arr ty 0 0) none).G b (kindOf (.box (cs.set c (.own nb 0)))) nb = .arr t' k' n' := hG'
      rw [hG2] at hG'; cases hG'
      exact ⟨Nat.le_refl _, fun _ => ⟨_, _, rfl, Nat.le_refl _, .inl ⟨Gh.new_i (k := .arr ty 0 0) .., rfl, rfl⟩⟩⟩
    · rw [List.getElem?_set_ne hj] at hx
      exact f4.2 j x y hx hy)
  refine ⟨_, (x1.trans y1 x2), y2, (hv.step x1 hr).step y1 x2, fun b' h1 h2 => ?_⟩
  by_cases hn : (g.new nb (.arr ty 0 0) none).G b' = .none
  · exact (y3 b' hn h2).elim
  · exact .inl (x3 b' h1 hn)

theorem aopT_sound {E : FuncId → Option Entry} {inl : Inl R} (hE : ∀ f e, E f = some e → Holds P f e) (hI : InlOk P inl) {thaw : Bool} {o : Oper} {ρ : Operand → AV} {H : Hp} {nb n : Nat} {κ : KO R} {r : R}
    (h : aopT P E inl thaw o ρ H nb n κ = some r) : ∃ v H' n' D, κ v H' n' D = some r ∧ OpOk P o ρ H nb n n' v H' D := by
  unfold aopT at h
  rcases br_some h with ⟨_, h'⟩ | ⟨_, h'⟩ <;> clear h
  case inr => exact aop_sound hE hI h'
  obtain ⟨dst, op, ty, pos, aft, gd⟩ := o
  have core : ∀ (x : Operand), (∀ (a : Act) (w : World), (execOp a.eval ⟨dst, op, ty, pos, aft, gd⟩).run P w = .ok (.value (a.eval x)) w) → thawO P ty (ρ x) H nb n κ = some r → ∃ v H' n' D, κ v H' n' D = some r ∧ OpOk P ⟨dst, op, ty, pos, aft, gd⟩ ρ H nb n n' v H' D := by
    intro x hx h
    unfold thawO at h
    split at h
    · rename_i hv
      split at h <;> try (cases h; done)
      rename_i t ht
      refine ⟨_, _, _, _, h, Nat.le_refl _, fun g a w hr hρ hnb _ => ?_⟩
      have h1 := hρ x
      rw [hv] at h1
      unfold Gives
      rw [hx a w]
      generalize hu : a.eval x = u at h1
      cases h1
      obtain ⟨x1, x2, x3⟩ := HRel.allocNil (t := t) hr hnb (rfl : w.heap = w.heap)
      refine ⟨_, x1, x2, ?_, fun b h1 h2 => .inl (x3 b h1 h2)⟩
      refine .own _ _ _ (by rw [Gh.new_G]; exact fun h => by cases h) ⟨_, _, _, rfl⟩ (fun t' k' n' hG' => ?_)
      rw [Gh.new_G] at hG'; cases hG'
      exact ⟨Nat.le_refl _, fun _ => ⟨_, _, rfl, Nat.le_refl _, .inl ⟨Gh.new_i .., rfl, rfl⟩⟩⟩
    · rename_i b0 i0 o0 g0 hv
      have same : κ (.ptr b0 i0 o0 g0) H n [] = some r → ∃ v H' n' D, κ v H' n' D = some r ∧ OpOk P ⟨dst, op, ty, pos, aft, gd⟩ ρ H nb n n' v H' D := fun h => by
        refine ⟨_, _, _, _, h, Nat.le_refl _, fun g a w hr hρ _ _ => ?_⟩
        unfold Gives
        rw [hx a w, ← hv]
        exact ⟨g, Went.same hr (hρ x)⟩
      split at h
      · rename_i cs hb
        split at h
        · rename_i c ty' _
          unfold thawB at h
          split at h
          · rename_i hc
            refine ⟨_, _, _, _, h, Nat.le_refl _, fun g a w hr hρ hnb _ => ?_⟩
            unfold Gives
            rw [hx a w]
            have h1 := hρ x
            rw [hv] at h1
            exact thawB_went hr hnb hb hc h1
          · exact same h
        · exact same h
      · exact same h
    · refine ⟨_, _, _, _, h, Nat.le_refl _, fun g a w hr hρ _ _ => ?_⟩
      unfold Gives
      rw [hx a w]
      exact ⟨g, Went.same hr (hρ x)⟩
  cases op <;> simp only at h' <;> try (cases h'; done)
  · exact core _ (fun a w => rfl) h'
  · exact core _ (fun a w => rfl) h'

theorem freezeB_went {g : Gh} {H : Hp} {w : World} {b k : Nat} {cs : List AV} {u : Value} (hr : HRel g H w) (hb : H b = .box cs) (hv : RelV g w (.ptr b 0 0 k) u) :
    ∃ g', Ext g H w [b] g' (dropB H [b]) w ∧ HRel g' (dropB H [b]) w ∧ RelV g' w (.cptr cs) u ∧ (∀ b, g.G b = .none → g'.G b ≠ .none → False) := by
  have hG : g.G b = .box := by rw [hr.kd b (fun e => by rw [hb] at e; cases e), hb]; rfl
  obtain ⟨he, h2, h3⟩ := drop_ext (l := [b]) hr (fun b' h => by rw [List.mem_singleton.1 h, hb]; exact fun h => by cases h)
  refine ⟨_, he, h2, ?_, h3⟩
  have hB := hr.blk b
  rw [hb] at hB
  obtain ⟨r, c, vs, e, f1, f2, f3⟩ := hB
  cases hv with
  | ptr _ _ _ _ _ hn hp ha hbx hi =>
    obtain ⟨r', c', q1, rfl⟩ := hbx hG rfl
    rw [f1] at q1
    cases q1
    have f4 : RelC _ w cs vs.toList := f3.step he hr
    have at_ : ∀ j c, cs[j]? = some c → ∃ v, vs.toList[j]? = some v := fun j c hj => by
      have hlt := (List.getElem?_eq_some_iff.1 hj).1
      exact ⟨_, List.getElem?_eq_getElem (by rw [f4.1]; exact hlt)⟩
    refine .cptr _ _ (fun j => (vs.toList[j]?).getD Go.undef) (fun j c hj => ⟨.inr ⟨b, List.mem_singleton.2 rfl, hn, _, f1⟩, ?_⟩) (fun j c hj => ?_)
    · obtain ⟨v, hv⟩ := at_ j c hj
      rw [add_mk, cell_at f2, hv, Nat.zero_add, ← Array.getElem?_toList, hv]; rfl
    · obtain ⟨v, hv⟩ := at_ j c hj
      rw [hv]
      exact f4.2 j c v hj hv

theorem post_sound {o : Oper} {ρ : Operand → AV} {H H' : Hp} {nb n n' : Nat} {v : AV} {D : List Nat} {freeze : Bool} {κ : KO R} {r : R} (hk : post freeze κ v H' n' D = some r) (h : OpOk P o ρ H nb n n' v H' D) :
    ∃ v' H'' D', κ v' H'' n' D' = some r ∧ OpOk P o ρ H nb n n' v' H'' D' := by
  unfold post at hk
  rcases br_some hk with ⟨_, hk'⟩ | ⟨_, hk'⟩ <;> clear hk
  case inr => exact ⟨_, _, _, hk', h⟩
  split at hk'
  · rename_i b0 i0 o0 k0
    split at hk'
    · rename_i cs hb
      rcases br_some hk' with ⟨h1, hk⟩ | ⟨_, hk⟩
      · have h1 : (Nat.beq i0 0 && Nat.beq o0 0) = true := h1
        rw [Bool.and_eq_true] at h1
        have hi := Nat.eq_of_beq_eq_true h1.1
        have ho := Nat.eq_of_beq_eq_true h1.2
        subst hi ho
        refine ⟨_, _, _, hk, h.1, fun g a w hr hρ hnb hn => (h.2 g a w hr hρ hnb hn).mono fun u w' ⟨g', hw⟩ => ?_⟩
        obtain ⟨g2, e1, e2, e3, e4⟩ := freezeB_went hw.rel hb hw.val
        refine ⟨g2, hw.ext.trans e1 hw.rel, e2, e3, fun b h1 h2 => ?_⟩
        by_cases hb : g'.G b = .none
        · exact (e4 b hb h2).elim
        · exact hw.new b h1 hb
      · exact ⟨_, _, _, hk, h⟩
    · exact ⟨_, _, _, hk', h⟩
  obtain ⟨ht, hk⟩ := br_none hk'
  refine ⟨_, _, _, hk, h.1, fun g a w hr hρ hnb hn => (h.2 g a w hr hρ hnb hn).mono fun u w' ⟨g', hw⟩ => ?_⟩
  obtain ⟨g2, e1, e2, e3, e4⟩ := freeze_went hw.rel hw.val ht
  refine ⟨g2, hw.ext.trans e1 hw.rel, e2, e3, fun b h1 h2 => ?_⟩
  by_cases hb : g'.G b = .none
  · exact (e4 b hb h2).elim
  · exact hw.new b h1 hb

theorem step_sound {E : FuncId → Option Entry} {inl : Inl R} (hE : ∀ f e, E f = some e → Holds P f e) (hI : InlOk P inl) {thaw freeze : Bool} {o : Oper} {ρ : Operand → AV} {H : Hp} {nb n : Nat} {κ : KO R} {r : R}
    (h : aopT P E inl thaw o ρ H nb n (post freeze κ) = some r) : ∃ v H' n' D, κ v H' n' D = some r ∧ OpOk P o ρ H nb n n' v H' D := by
  obtain ⟨v, H', n', D, hk, ho⟩ := aopT_sound hE hI h
  obtain ⟨v', H'', D', hk', ho'⟩ := post_sound hk ho
  exact ⟨v', H'', n', D', hk', ho'⟩

/-- A state, and the machine's. -/
structure Rel (g : Gh) (st : St) (a : Act) (w : World) : Prop where
  tm : ∀ i, RelV g w (st.tm i) (a.tmps.getD i Go.undef)
  nt : a.tmps.size = st.nt
  df : a.defers = []
  hp : HRel g st.hp w
  fr : ∀ b, st.n ≤ b → g.G b = .none

theorem Rel.eval {g : Gh} {st : St} {a : Act} {w : World} (h : Rel g st a w) (x : Operand) : RelV g w (evalO st.tm x) (a.eval x) := by
  cases x with
  | tmp t => exact h.tm t
  | const v => exact const_sound v
  | func f => exact .fn _ _ _ _ _ (fun _ => Go.undef) (fun _ => Go.undef) rfl rfl (fun j c h => by simp at h) (fun j c h => by simp at h) (fun j c h => by simp at h) (fun j c h => by simp at h)
  | global i => exact .undef _

theorem put_tm {g : Gh} {w : World} {tm : Nat → AV} {a : Act} {dst : Option Tmp} {v : AV} {u : Value} {nt : Nat} (h : ∀ i, RelV g w (tm i) (a.tmps.getD i Go.undef)) (hnt : a.tmps.size = nt) (hd : dstOk nt dst = true) (hv : RelV g w v u) :
    ∀ i, RelV g w (setDst dst tm v i) ((a.put dst u).tmps.getD i Go.undef) := by
  intro i
  cases dst with
  | none => exact h i
  | some d =>
    have hd : d < nt := by
      have : Nat.blt d nt = true := hd
      exact Nat.le_of_ble_eq_true this
    simp only [setDst, Act.put]
    by_cases e : i = d
    · subst e
      rw [upd_same]
      have : (a.tmps.setIfInBounds i u).getD i Go.undef = u := by simp [Array.getD, hnt, hd]
      rw [this]; exact hv
    · rw [upd_ne _ _ e]
      have : (a.tmps.setIfInBounds d u).getD i Go.undef = a.tmps.getD i Go.undef := by
        simp [Array.getD_eq_getD_getElem?, Array.getElem?_setIfInBounds_ne (Ne.symm e)]
      rw [this]; exact h i
theorem put_size (a : Act) (dst : Option Tmp) (u : Value) : (a.put dst u).tmps.size = a.tmps.size := by cases dst <;> simp [Act.put]
theorem put_defers (a : Act) (dst : Option Tmp) (u : Value) : (a.put dst u).defers = a.defers := by cases dst <;> rfl

/-- From one state to another: what is written is told, new numbers come from lo on. -/
structure Goes (lo : Nat) (g : Gh) (st : St) (w : World) (g' : Gh) (st' : St) (w' : World) : Prop where
  ext : ∃ D, st'.dirty = D ++ st.dirty ∧ Ext g st.hp w D g' st'.hp w'
  new : ∀ b, g.G b = .none → g'.G b ≠ .none → lo ≤ b
  le : st.n ≤ st'.n
  nt : st'.nt = st.nt

theorem Goes.trans {lo : Nat} {g g1 g2 : Gh} {st st1 st2 : St} {w w1 w2 : World} (h : Goes lo g st w g1 st1 w1) (h1 : Goes lo g1 st1 w1 g2 st2 w2) (hr : HRel g1 st1.hp w1) : Goes lo g st w g2 st2 w2 := by
  obtain ⟨D, e, x⟩ := h.ext
  obtain ⟨D1, e1, x1⟩ := h1.ext
  refine ⟨⟨D1 ++ D, by rw [e1, e, List.append_assoc], x.trans x1 hr⟩, fun b hb hb2 => ?_, Nat.le_trans h.le h1.le, by rw [h1.nt, h.nt]⟩
  by_cases hb1 : g1.G b = .none
  · exact h1.new b hb1 hb2
  · exact h.new b hb hb1
theorem Goes.low {lo lo' : Nat} {g g' : Gh} {st st' : St} {w w' : World} (h : Goes lo g st w g' st' w') (hl : lo' ≤ lo) : Goes lo' g st w g' st' w' :=
  ⟨h.ext, fun b h1 h2 => Nat.le_trans hl (h.new b h1 h2), h.le, h.nt⟩
end Go.VI
