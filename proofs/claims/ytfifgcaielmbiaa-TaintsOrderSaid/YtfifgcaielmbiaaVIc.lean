/- How the heap's relation goes on: a new block, a block written, a block that moves, blocks that are done with. -/
import Derived.Test.YtfifgcaielmbiaaVIb
namespace Go.VI
set_option linter.unusedVariables false

theorem upd_same {α : Type} (f : Nat → α) (i : Nat) (v : α) : upd f i v i = v := by
  unfold upd
  rw [show Nat.beq i i = true from Nat.beq_refl i]; rfl
theorem upd_ne {α : Type} (f : Nat → α) {i j : Nat} (v : α) (h : j ≠ i) : upd f i v j = f j := by
  unfold upd
  rw [show Nat.beq j i = false from by
    cases e : Nat.beq j i with
    | false => rfl
    | true => exact absurd (Nat.eq_of_beq_eq_true e) h]; rfl

theorem br_some {α : Type} {b : Bool} {x y : Option α} {r : α} (h : br b x y = some r) : (b = true ∧ x = some r) ∨ (b = false ∧ y = some r) := by
  cases b
  · exact .inr ⟨rfl, h⟩
  · exact .inl ⟨rfl, h⟩
theorem br_none {α : Type} {b : Bool} {x : Option α} {r : α} (h : br b x none = some r) : b = true ∧ x = some r := by
  cases b
  · cases h
  · exact ⟨rfl, h⟩
theorem none_br {α : Type} {b : Bool} {x : Option α} {r : α} (h : br b none x = some r) : b = false ∧ x = some r := by
  cases b
  · exact ⟨rfl, h⟩
  · cases h

/-- Is a block of the heap in use? -/
theorem live_of {g : Gh} {H : Hp} {w : World} (hr : HRel g H w) {b : Nat} (h : H b ≠ .gone) : g.G b ≠ .none ∧ g.G b ≠ .dead := by
  have hk := hr.kd b (fun e => h e)
  exact ⟨by rw [hk]; exact kindOf_none, by rw [hk]; exact fun e => h (kindOf_dead e)⟩

/-- A block's memory that is not written stays. -/
theorem Ext.off {g g' : Gh} {H H' : Hp} {w w' : World} {D : List Nat} (h : Ext g H w D g' H' w') (hr : HRel g H w) {b r c : Nat} (hn : g.G b ≠ .none) (hd : g.G b ≠ .dead) (hb : b ∉ D) (hi : g.i b = some (r, c)) :
    w'.heap[r]? = w.heap[r]? := by
  refine h.frame r (hr.disj b r c hi hn hd).2 fun b' hb' h3 c' hi' => ?_
  obtain ⟨_, h4⟩ := live_of hr (h.seen b' hb' h3)
  have := hr.inj b b' r c c' hi hi' hn hd h3 h4
  exact hb (this ▸ hb')

theorem RelC.step {g g' : Gh} {H H' : Hp} {w w' : World} {D : List Nat} (h : Ext g H w D g' H' w') (hr : HRel g H w) {cs : List AV} {vs : List Value} (hc : RelC g w cs vs) : RelC g' w' cs vs :=
  ⟨hc.1, fun j c v h1 h2 => (hc.2 j c v h1 h2).step h hr⟩

theorem RelB.step {g g' : Gh} {H H' : Hp} {w w' : World} {D : List Nat} (h : Ext g H w D g' H' w') (hr : HRel g H w) {b : Nat} (hg : H b ≠ .gone) (hb : b ∉ D) : RelB g' w' b (H b) := by
  obtain ⟨hn, hd⟩ := live_of hr hg
  have hB := hr.blk b
  obtain ⟨_, ei, _⟩ := h.same b hn hb
  have hoff : ∀ r c, g.i b = some (r, c) → w'.heap[r]? = w.heap[r]? := fun r c hi => h.off hr hn hd hb hi
  cases hk : H b with
  | gone => exact trivial
  | box cs =>
    rw [hk] at hB
    obtain ⟨r, c, vs, e, h1, h2, h4⟩ := hB
    exact ⟨r, c, vs, e, by rw [ei, h1], by rw [hoff r c h1, h2], h4.step h hr⟩
  | arr t l k =>
    rw [hk] at hB
    rcases hB with ⟨h1, h2⟩ | ⟨r, cap, vs, e, h1, h2, h4, h5, h6⟩
    · exact .inl ⟨by rw [ei, h1], h2⟩
    · refine .inr ⟨r, cap, vs, e, by rw [ei, h1], by rw [hoff r cap h1, h2], h4, h5, fun i x hx => ?_⟩
      obtain ⟨c, hc, hv⟩ := h6 i x hx
      exact ⟨c, hc.mono h.mono (h.keepF hr), hv⟩
  | map kt vt es k =>
    rw [hk] at hB
    obtain ⟨r, c, ms, clock, h1, h2, h3, h4, h5⟩ := hB
    refine ⟨r, c, ms, clock, by rw [ei, h1], by rw [hoff r c h1, h2], h3, fun i e m he hm => ?_, h5⟩
    obtain ⟨a1, a2, a3⟩ := h4 i e m he hm
    exact ⟨a1.mono h.mono (h.keepF hr), a2.mono h.mono (h.keepF hr), a3⟩
  | siter s pos =>
    rw [hk] at hB
    obtain ⟨r, c, h1, h2⟩ := hB
    exact ⟨r, c, by rw [ei, h1], by rw [hoff r c h1, h2]⟩

/-- What comes of a step, and which numbers are new. -/
structure Went (g : Gh) (H : Hp) (w : World) (N : Nat → Prop) (v : AV) (H' : Hp) (D : List Nat) (u : Value) (w' : World) (g' : Gh) : Prop where
  ext : Ext g H w D g' H' w'
  rel : HRel g' H' w'
  val : RelV g' w' v u
  new : ∀ b, g.G b = .none → g'.G b ≠ .none → N b

theorem Went.same {g : Gh} {H : Hp} {w : World} {N : Nat → Prop} {v : AV} {u : Value} (hr : HRel g H w) (hv : RelV g w v u) : Went g H w N v H [] u w g :=
  ⟨.refl g H w, hr, hv, fun b h h' => absurd h h'⟩

/-- Only draws. -/
theorem HRel.heap {g : Gh} {H : Hp} {w w' : World} (h : w'.heap = w.heap) (hr : HRel g H w) (henv : Env w w' := by first | exact ⟨rfl, rfl, rfl⟩ | assumption) : Ext g H w [] g H w' ∧ HRel g H w' := by
  have he : Ext g H w [] g H w' := ⟨fun _ h => h, fun _ h => .inl h, by rw [h]; exact Nat.le_refl _, fun _ _ _ => by rw [h], (fun _ h => by cases h), fun _ _ _ => ⟨rfl, rfl, rfl⟩, (fun _ h => by cases h), (fun _ h => by cases h), fun b r c h h' _ => absurd h h', henv⟩
  refine ⟨he, fun b => ?_, hr.kd, hr.inj, fun b r c h1 h2 h3 => ?_, fun r hF => ?_⟩
  · by_cases hg : H b = .gone
    · rw [hg]; exact trivial
    · exact RelB.step he hr hg (fun h => by cases h)
  · rw [h]; exact hr.disj b r c h1 h2 h3
  · rw [h]; exact hr.ex r hF

/-- A new block of the heap, at the number nb. -/
def Gh.new (g : Gh) (nb : Nat) (k : Kd) (at_ : Option (Nat × Nat)) : Gh := ⟨g.F, upd g.i nb at_, upd g.G nb k⟩

theorem HRel.alloc {g : Gh} {H : Hp} {w w' : World} {nb cap : Nat} {o : Obj} {blk : Blk} (hr : HRel g H w) (hnb : g.G nb = .none) (hw : w'.heap = w.heap.push o) (hk : blk ≠ .gone)
    (hB : Ext g H w [] (g.new nb (kindOf blk) (some (w.heap.size, cap))) (upd H nb blk) w' → RelB (g.new nb (kindOf blk) (some (w.heap.size, cap))) w' nb blk) (henv : Env w w' := by first | exact ⟨rfl, rfl, rfl⟩ | assumption) :
    Ext g H w [] (g.new nb (kindOf blk) (some (w.heap.size, cap))) (upd H nb blk) w' ∧ HRel (g.new nb (kindOf blk) (some (w.heap.size, cap))) (upd H nb blk) w' ∧ (∀ b, g.G b = .none → (g.new nb (kindOf blk) (some (w.heap.size, cap))).G b ≠ .none → b = nb) := by
  have hne : ∀ b, g.G b ≠ .none → b ≠ nb := fun b hb e => hb (e ▸ hnb)
  have he : Ext g H w [] (g.new nb (kindOf blk) (some (w.heap.size, cap))) (upd H nb blk) w' := by
    refine ⟨fun _ h => h, fun _ h => .inl h, by rw [hw]; simp, fun r hlt _ => ?_, (fun _ h => by cases h), fun b hb _ => ?_, (fun _ h => by cases h), (fun _ h => by cases h), fun b r c h h' hi => ?_, henv⟩
    · rw [hw, Array.getElem?_push]
      rw [if_neg (by omega)]
    · exact ⟨upd_ne _ _ (hne b hb), upd_ne _ _ (hne b hb), upd_ne _ _ (hne b hb)⟩
    · by_cases e : b = nb
      · subst e
        have hi' : upd g.i b (some (w.heap.size, cap)) b = some (r, c) := hi
        rw [upd_same] at hi'
        cases hi'; exact Nat.le_refl _
      · have h2 : upd g.G nb (kindOf blk) b ≠ .none := h'
        rw [upd_ne _ _ e] at h2
        exact absurd h h2
  refine ⟨he, ⟨fun b => ?_, fun b hb => ?_, fun b b' r c c' h1 h2 h3 h4 h5 h6 => ?_, fun b r c h1 h2 h3 => ?_, fun r hF => ?_⟩, fun b h h' => ?_⟩
  · by_cases e : b = nb
    · subst e; rw [upd_same]; exact hB he
    · rw [upd_ne _ _ e]
      by_cases hg : H b = .gone
      · rw [hg]; exact trivial
      · exact RelB.step he hr hg (fun h => by cases h)
  · show upd g.G nb (kindOf blk) b = _
    by_cases e : b = nb
    · subst e; rw [upd_same, upd_same]
    · rw [upd_ne _ _ e, upd_ne _ _ e]
      exact hr.kd b (fun h => hb (by rw [upd_ne _ _ e]; exact h))
  · have h1' : upd g.i nb (some (w.heap.size, cap)) b = some (r, c) := h1
    have h2' : upd g.i nb (some (w.heap.size, cap)) b' = some (r, c') := h2
    have k3 : upd g.G nb (kindOf blk) b ≠ .none := h3
    have k4 : upd g.G nb (kindOf blk) b ≠ .dead := h4
    have k5 : upd g.G nb (kindOf blk) b' ≠ .none := h5
    have k6 : upd g.G nb (kindOf blk) b' ≠ .dead := h6
    by_cases e : b = nb
    · by_cases e' : b' = nb
      · rw [e, e']
      · subst e
        rw [upd_same] at h1'; rw [upd_ne _ _ e'] at h2' k5 k6
        cases h1'
        have := (hr.disj b' _ _ h2' k5 k6).2
        omega
    · by_cases e' : b' = nb
      · subst e'
        rw [upd_same] at h2'; rw [upd_ne _ _ e] at h1' k3 k4
        cases h2'
        have := (hr.disj b _ _ h1' k3 k4).2
        omega
      · rw [upd_ne _ _ e] at h1' k3 k4; rw [upd_ne _ _ e'] at h2' k5 k6
        exact hr.inj b b' r c c' h1' h2' k3 k4 k5 k6
  · have h1' : upd g.i nb (some (w.heap.size, cap)) b = some (r, c) := h1
    have k3 : upd g.G nb (kindOf blk) b ≠ .none := h2
    have k4 : upd g.G nb (kindOf blk) b ≠ .dead := h3
    show ¬ g.F r ∧ _
    rw [hw]; simp only [Array.size_push]
    by_cases e : b = nb
    · subst e
      rw [upd_same] at h1'; cases h1'
      exact ⟨fun hF => by have := hr.ex _ hF; omega, by omega⟩
    · rw [upd_ne _ _ e] at h1' k3 k4
      have := hr.disj b r c h1' k3 k4
      exact ⟨this.1, by omega⟩
  · have : g.F r := hF
    have := hr.ex r this
    rw [hw]; simp only [Array.size_push]; omega
  · have h' : upd g.G nb (kindOf blk) b ≠ .none := h'
    by_cases e : b = nb
    · exact e
    · rw [upd_ne _ _ e] at h'; exact absurd h h'

/-- A new block that has no memory yet. -/
theorem HRel.allocNil {g : Gh} {H : Hp} {w w' : World} {nb : Nat} {t : Ty} (hr : HRel g H w) (hnb : g.G nb = .none) (hw : w'.heap = w.heap) (henv : Env w w' := by first | exact ⟨rfl, rfl, rfl⟩ | assumption) :
    Ext g H w [] (g.new nb (.arr t 0 0) none) (upd H nb (.arr t [] 0)) w' ∧ HRel (g.new nb (.arr t 0 0) none) (upd H nb (.arr t [] 0)) w' ∧ (∀ b, g.G b = .none → (g.new nb (.arr t 0 0) none).G b ≠ .none → b = nb) := by
  have hne : ∀ b, g.G b ≠ .none → b ≠ nb := fun b hb e => hb (e ▸ hnb)
  have he : Ext g H w [] (g.new nb (.arr t 0 0) none) (upd H nb (.arr t [] 0)) w' := by
    refine ⟨fun _ h => h, fun _ h => .inl h, by rw [hw]; simp, fun r hlt _ => by rw [hw], (fun _ h => by cases h), fun b hb _ => ?_, (fun _ h => by cases h), (fun _ h => by cases h), fun b r c h h' hi => ?_, henv⟩
    · exact ⟨upd_ne _ _ (hne b hb), upd_ne _ _ (hne b hb), upd_ne _ _ (hne b hb)⟩
    · by_cases e : b = nb
      · subst e
        have hi' : upd g.i b none b = some (r, c) := hi
        rw [upd_same] at hi'
        cases hi'
      · have h2 : upd g.G nb (.arr t 0 0) b ≠ .none := h'
        rw [upd_ne _ _ e] at h2
        exact absurd h h2
  refine ⟨he, ⟨fun b => ?_, fun b hb => ?_, fun b b' r c c' h1 h2 h3 h4 h5 h6 => ?_, fun b r c h1 h2 h3 => ?_, fun r hF => ?_⟩, fun b h h' => ?_⟩
  · by_cases e : b = nb
    · subst e; rw [upd_same]; exact .inl ⟨upd_same _ _ _, rfl⟩
    · rw [upd_ne _ _ e]
      by_cases hg : H b = .gone
      · rw [hg]; exact trivial
      · exact RelB.step he hr hg (fun h => by cases h)
  · show upd g.G nb (.arr t 0 0) b = _
    by_cases e : b = nb
    · subst e; rw [upd_same, upd_same]; rfl
    · rw [upd_ne _ _ e, upd_ne _ _ e]
      exact hr.kd b (fun h => hb (by rw [upd_ne _ _ e]; exact h))
  · have h1' : upd g.i nb none b = some (r, c) := h1
    have h2' : upd g.i nb none b' = some (r, c') := h2
    have k3 : upd g.G nb (.arr t 0 0) b ≠ .none := h3
    have k4 : upd g.G nb (.arr t 0 0) b ≠ .dead := h4
    have k5 : upd g.G nb (.arr t 0 0) b' ≠ .none := h5
    have k6 : upd g.G nb (.arr t 0 0) b' ≠ .dead := h6
    by_cases e : b = nb
    · subst e; rw [upd_same] at h1'; cases h1'
    · by_cases e' : b' = nb
      · subst e'; rw [upd_same] at h2'; cases h2'
      · rw [upd_ne _ _ e] at h1' k3 k4; rw [upd_ne _ _ e'] at h2' k5 k6
        exact hr.inj b b' r c c' h1' h2' k3 k4 k5 k6
  · have h1' : upd g.i nb none b = some (r, c) := h1
    have k3 : upd g.G nb (.arr t 0 0) b ≠ .none := h2
    have k4 : upd g.G nb (.arr t 0 0) b ≠ .dead := h3
    show ¬ g.F r ∧ _
    rw [hw]
    by_cases e : b = nb
    · subst e; rw [upd_same] at h1'; cases h1'
    · rw [upd_ne _ _ e] at h1' k3 k4
      exact hr.disj b r c h1' k3 k4
  · have : g.F r := hF
    rw [hw]; exact hr.ex r this
  · have h' : upd g.G nb (.arr t 0 0) b ≠ .none := h'
    by_cases e : b = nb
    · exact e
    · rw [upd_ne _ _ e] at h'; exact absurd h h'

/-- Block b is written, where it lies. -/
theorem HRel.write {g : Gh} {H : Hp} {w w' : World} {b r c : Nat} {blk : Blk} (hr : HRel g H w) (hs : H b ≠ .gone) (hi : g.i b = some (r, c)) (hk : blk ≠ .gone)
    (hsz : w'.heap.size = w.heap.size) (hoff : ∀ r', r' ≠ r → w'.heap[r']? = w.heap[r']?)
    (hturn : (g.G b = .box ∧ kindOf blk = .box) ∨ (g.G b = .siter ∧ kindOf blk = .siter) ∨ (∃ t k n, g.G b = .arr t k n ∧ kindOf blk = .arr t k n) ∨ (∃ t k n k' n', g.G b = .arr t k n ∧ kindOf blk = .arr t k' n' ∧ k < k') ∨ (∃ kt vt k k', g.G b = .map kt vt k ∧ kindOf blk = .map kt vt k' ∧ k < k'))
    (hB : Ext g H w [b] ⟨g.F, g.i, upd g.G b (kindOf blk)⟩ (upd H b blk) w' → RelB ⟨g.F, g.i, upd g.G b (kindOf blk)⟩ w' b blk) (henv : Env w w' := by first | exact ⟨rfl, rfl, rfl⟩ | assumption) :
    Ext g H w [b] ⟨g.F, g.i, upd g.G b (kindOf blk)⟩ (upd H b blk) w' ∧ HRel ⟨g.F, g.i, upd g.G b (kindOf blk)⟩ (upd H b blk) w' ∧ (∀ b', g.G b' = .none → (⟨g.F, g.i, upd g.G b (kindOf blk)⟩ : Gh).G b' ≠ .none → False) := by
  obtain ⟨hn, hd⟩ := live_of hr hs
  have hG : ∀ b', (upd g.G b (kindOf blk) b' ≠ .none ∧ upd g.G b (kindOf blk) b' ≠ .dead) → g.G b' ≠ .none ∧ g.G b' ≠ .dead := fun b' h => by
    by_cases e : b' = b
    · subst e; exact ⟨hn, hd⟩
    · rw [upd_ne _ _ e] at h; exact h
  have he : Ext g H w [b] ⟨g.F, g.i, upd g.G b (kindOf blk)⟩ (upd H b blk) w' := by
    refine ⟨fun _ h => h, fun _ h => .inl h, by omega, fun r' _ h => ?_, fun b' hb' _ => ?_, fun b' hb' hm => ?_, fun b' hb' _ r' c' h => .inl ⟨c', h⟩, fun b' hb' _ => ?_, fun b' r' c' h h' hi' => ?_, henv⟩
    · refine hoff r' fun e => h b (List.mem_singleton.2 rfl) hn c ?_
      rw [e]; exact hi
    · rw [List.mem_singleton] at hb'; subst hb'; exact hs
    · have e : b' ≠ b := fun e => hm (List.mem_singleton.2 e)
      exact ⟨upd_ne _ _ e, rfl, upd_ne _ _ e⟩
    · rw [List.mem_singleton] at hb'; subst hb'
      have e0 : ∀ {k : Kd}, kindOf blk = k → upd g.G b' (kindOf blk) b' = k := fun h => (upd_same _ _ _).trans h
      rcases hturn with ⟨a1, a2⟩ | ⟨a1, a2⟩ | ⟨t, k, n, a1, a2⟩ | ⟨t, k, n, k', n', a1, a2, a3⟩ | ⟨kt, vt, k, k', a1, a2, a3⟩
      · exact .inr (.inl ⟨a1, e0 a2, rfl⟩)
      · exact .inr (.inr (.inl ⟨a1, e0 a2, rfl⟩))
      · exact .inr (.inr (.inr (.inl ⟨t, k, n, a1, e0 a2, rfl⟩)))
      · exact .inr (.inr (.inr (.inr (.inl ⟨t, k, n, k', n', a1, e0 a2, a3⟩))))
      · exact .inr (.inr (.inr (.inr (.inr ⟨kt, vt, k, k', a1, e0 a2, a3, rfl⟩))))
    · have h' : upd g.G b (kindOf blk) b' ≠ .none := h'
      by_cases e : b' = b
      · subst e; exact absurd h hn
      · rw [upd_ne _ _ e] at h'; exact absurd h h'
  refine ⟨he, ⟨fun b' => ?_, fun b' hb => ?_, fun b1 b2 r1 c1 c2 h1 h2 h3 h4 h5 h6 => ?_, fun b1 r1 c1 h1 h2 h3 => ?_, fun r' hF => ?_⟩, fun b' h h' => ?_⟩
  · by_cases e : b' = b
    · subst e; rw [upd_same]; exact hB he
    · rw [upd_ne _ _ e]
      by_cases hg : H b' = .gone
      · rw [hg]; exact trivial
      · exact RelB.step he hr hg (fun h => e (List.mem_singleton.1 h))
  · show upd g.G b (kindOf blk) b' = _
    by_cases e : b' = b
    · subst e; rw [upd_same, upd_same]
    · rw [upd_ne _ _ e, upd_ne _ _ e]
      exact hr.kd b' (fun h => hb (by rw [upd_ne _ _ e]; exact h))
  · obtain ⟨k3, k4⟩ := hG b1 ⟨h3, h4⟩
    obtain ⟨k5, k6⟩ := hG b2 ⟨h5, h6⟩
    exact hr.inj b1 b2 r1 c1 c2 h1 h2 k3 k4 k5 k6
  · obtain ⟨k3, k4⟩ := hG b1 ⟨h2, h3⟩
    have := hr.disj b1 r1 c1 h1 k3 k4
    exact ⟨this.1, by omega⟩
  · have : g.F r' := hF
    have := hr.ex r' this
    omega
  · have h' : upd g.G b (kindOf blk) b' ≠ .none := h'
    by_cases e : b' = b
    · subst e; exact hn h
    · rw [upd_ne _ _ e] at h'; exact h' h

/-- Row b moves to a new block. -/
theorem HRel.move {g : Gh} {H : Hp} {w w' : World} {b cap : Nat} {o : Obj} {t : Ty} {l l' : List t.den} {k k' : Nat} (hr : HRel g H w) (hs : H b = .arr t l k) (hw : w'.heap = w.heap.push o) (hlt : k < k')
    (hB : Ext g H w [b] ⟨g.F, upd g.i b (some (w.heap.size, cap)), upd g.G b (.arr t k' l'.length)⟩ (upd H b (.arr t l' k')) w' → RelB ⟨g.F, upd g.i b (some (w.heap.size, cap)), upd g.G b (.arr t k' l'.length)⟩ w' b (.arr t l' k')) (henv : Env w w' := by first | exact ⟨rfl, rfl, rfl⟩ | assumption) :
    Ext g H w [b] ⟨g.F, upd g.i b (some (w.heap.size, cap)), upd g.G b (.arr t k' l'.length)⟩ (upd H b (.arr t l' k')) w' ∧ HRel ⟨g.F, upd g.i b (some (w.heap.size, cap)), upd g.G b (.arr t k' l'.length)⟩ (upd H b (.arr t l' k')) w' ∧
      (∀ b', g.G b' = .none → (⟨g.F, upd g.i b (some (w.heap.size, cap)), upd g.G b (.arr t k' l'.length)⟩ : Gh).G b' ≠ .none → False) := by
  have hs' : H b ≠ .gone := by rw [hs]; exact fun h => by cases h
  obtain ⟨hn, hd⟩ := live_of hr hs'
  have hGb : g.G b = .arr t k l.length := by rw [hr.kd b (fun e => hs' e), hs]; rfl
  have hG : ∀ b', (upd g.G b (.arr t k' l'.length) b' ≠ .none ∧ upd g.G b (.arr t k' l'.length) b' ≠ .dead) → g.G b' ≠ .none ∧ g.G b' ≠ .dead := fun b' h => by
    by_cases e : b' = b
    · subst e; exact ⟨hn, hd⟩
    · rw [upd_ne _ _ e] at h; exact h
  have he : Ext g H w [b] ⟨g.F, upd g.i b (some (w.heap.size, cap)), upd g.G b (.arr t k' l'.length)⟩ (upd H b (.arr t l' k')) w' := by
    refine ⟨fun _ h => h, fun _ h => .inl h, by rw [hw]; simp, fun r' hlt' h => ?_, fun b' hb' _ => ?_, fun b' hb' hm => ?_, fun b' hb' _ r' c' h => ?_, fun b' hb' _ => ?_, fun b' r' c' h h' hi' => ?_, henv⟩
    · rw [hw, Array.getElem?_push, if_neg (by omega)]
    · rw [List.mem_singleton] at hb'; subst hb'; exact hs'
    · have e : b' ≠ b := fun e => hm (List.mem_singleton.2 e)
      exact ⟨upd_ne _ _ e, upd_ne _ _ e, upd_ne _ _ e⟩
    · rw [List.mem_singleton] at hb'; subst hb'
      have h : upd g.i b' (some (w.heap.size, cap)) b' = some (r', c') := h
      rw [upd_same] at h; cases h
      exact .inr (Nat.le_refl _)
    · rw [List.mem_singleton] at hb'; subst hb'
      exact .inr (.inr (.inr (.inr (.inl ⟨t, k, l.length, k', l'.length, hGb, upd_same _ _ _, hlt⟩))))
    · have h' : upd g.G b (.arr t k' l'.length) b' ≠ .none := h'
      by_cases e : b' = b
      · subst e; exact absurd h hn
      · rw [upd_ne _ _ e] at h'; exact absurd h h'
  refine ⟨he, ⟨fun b' => ?_, fun b' hb => ?_, fun b1 b2 r1 c1 c2 h1 h2 h3 h4 h5 h6 => ?_, fun b1 r1 c1 h1 h2 h3 => ?_, fun r' hF => ?_⟩, fun b' h h' => ?_⟩
  · by_cases e : b' = b
    · subst e; rw [upd_same]; exact hB he
    · rw [upd_ne _ _ e]
      by_cases hg : H b' = .gone
      · rw [hg]; exact trivial
      · exact RelB.step he hr hg (fun h => e (List.mem_singleton.1 h))
  · show upd g.G b (.arr t k' l'.length) b' = _
    by_cases e : b' = b
    · subst e; rw [upd_same, upd_same]; rfl
    · rw [upd_ne _ _ e, upd_ne _ _ e]
      exact hr.kd b' (fun h => hb (by rw [upd_ne _ _ e]; exact h))
  · obtain ⟨k3, k4⟩ := hG b1 ⟨h3, h4⟩
    obtain ⟨k5, k6⟩ := hG b2 ⟨h5, h6⟩
    have h1' : upd g.i b (some (w.heap.size, cap)) b1 = some (r1, c1) := h1
    have h2' : upd g.i b (some (w.heap.size, cap)) b2 = some (r1, c2) := h2
    by_cases e : b1 = b
    · by_cases e' : b2 = b
      · rw [e, e']
      · subst e
        rw [upd_same] at h1'; rw [upd_ne _ _ e'] at h2'
        cases h1'
        have := (hr.disj b2 _ _ h2' k5 k6).2
        omega
    · by_cases e' : b2 = b
      · subst e'
        rw [upd_same] at h2'; rw [upd_ne _ _ e] at h1'
        cases h2'
        have := (hr.disj b1 _ _ h1' k3 k4).2
        omega
      · rw [upd_ne _ _ e] at h1'; rw [upd_ne _ _ e'] at h2'
        exact hr.inj b1 b2 r1 c1 c2 h1' h2' k3 k4 k5 k6
  · obtain ⟨k3, k4⟩ := hG b1 ⟨h2, h3⟩
    have h1' : upd g.i b (some (w.heap.size, cap)) b1 = some (r1, c1) := h1
    show ¬ g.F r1 ∧ _
    rw [hw]; simp only [Array.size_push]
    by_cases e : b1 = b
    · subst e
      rw [upd_same] at h1'; cases h1'
      exact ⟨fun hF => by have := hr.ex _ hF; omega, by omega⟩
    · rw [upd_ne _ _ e] at h1'
      have := hr.disj b1 r1 c1 h1' k3 k4
      exact ⟨this.1, by omega⟩
  · have : g.F r' := hF
    have := hr.ex r' this
    rw [hw]; simp only [Array.size_push]; omega
  · have h' : upd g.G b (.arr t k' l'.length) b' ≠ .none := h'
    by_cases e : b' = b
    · subst e; exact hn h
    · rw [upd_ne _ _ e] at h'; exact h' h


theorem Ext.trans {g g1 g2 : Gh} {H H1 H2 : Hp} {w w1 w2 : World} {D D1 : List Nat} (h : Ext g H w D g1 H1 w1) (h1 : Ext g1 H1 w1 D1 g2 H2 w2) (hr1 : HRel g1 H1 w1) : Ext g H w (D1 ++ D) g2 H2 w2 := by
  have back : ∀ b r c, g1.G b ≠ .none → g1.i b = some (r, c) → (g.G b ≠ .none ∧ ∃ c', g.i b = some (r, c')) ∨ w.heap.size ≤ r := by
    intro b r c hb hi
    by_cases hn : g.G b = .none
    · exact .inr (h.fresh b r c hn hb hi)
    · by_cases hd : b ∈ D
      · rcases h.moved b hd hn r c hi with e | e
        · exact .inl ⟨hn, e⟩
        · exact .inr e
      · rw [(h.same b hn hd).2.1] at hi
        exact .inl ⟨hn, c, hi⟩
  refine ⟨fun r hF => h1.mono r (h.mono r hF), fun r hF => ?_, Nat.le_trans h.size h1.size, fun r hlt hd => ?_, fun b hb hn => ?_, fun b hn hd => ?_, fun b hb hn r c hi => ?_, fun b hb hn => ?_, fun b r c hn hb hi => ?_, h.env.trans h1.env⟩
  · rcases h1.more r hF with hF | ⟨b, hb, hn, c, hi⟩ | hle
    · rcases h.more r hF with hF | ⟨b, hb, hn, c, hi⟩ | hle
      · exact .inl hF
      · exact .inr (.inl ⟨b, List.mem_append.2 (.inr hb), hn, c, hi⟩)
      · exact .inr (.inr hle)
    · rcases back b r c hn hi with ⟨hn', c', hi'⟩ | hle
      · exact .inr (.inl ⟨b, List.mem_append.2 (.inl hb), hn', c', hi'⟩)
      · exact .inr (.inr hle)
    · exact .inr (.inr (Nat.le_trans h.size hle))
  · rw [← h.frame r hlt (fun b hb hn c hi => hd b (List.mem_append.2 (.inr hb)) hn c hi)]
    refine h1.frame r (Nat.lt_of_lt_of_le hlt h.size) fun b hb hn c hi => ?_
    rcases back b r c hn hi with ⟨hn', c', hi'⟩ | hle
    · exact hd b (List.mem_append.2 (.inl hb)) hn' c' hi'
    · omega
  · by_cases hD : b ∈ D
    · exact h.seen b hD hn
    · rcases List.mem_append.1 hb with hb | hb
      · have := h1.seen b hb (h.live hn)
        rw [(h.same b hn hD).2.2] at this; exact this
      · exact absurd hb hD
  · have e1 := h.same b hn (fun hb => hd (List.mem_append.2 (.inr hb)))
    have e2 := h1.same b (h.live hn) (fun hb => hd (List.mem_append.2 (.inl hb)))
    exact ⟨by rw [e2.1, e1.1], by rw [e2.2.1, e1.2.1], by rw [e2.2.2, e1.2.2]⟩
  · by_cases hD1 : b ∈ D1
    · rcases h1.moved b hD1 (h.live hn) r c hi with ⟨c', hi'⟩ | hle
      · rcases back b r c' (h.live hn) hi' with ⟨_, e⟩ | hle
        · exact .inl e
        · exact .inr hle
      · exact .inr (Nat.le_trans h.size hle)
    · rw [(h1.same b (h.live hn) hD1).2.1] at hi
      rcases back b r c (h.live hn) hi with ⟨_, e⟩ | hle
      · exact .inl e
      · exact .inr hle
  · by_cases hD : b ∈ D
    · by_cases hD1 : b ∈ D1
      · have t1 := h.turn b hD hn
        have t2 := h1.turn b hD1 (h.live hn)
        have hs := h1.seen b hD1 (h.live hn)
        have hk := hr1.kd b (fun e => hs e)
        have hnd : g1.G b ≠ .dead := by rw [hk]; exact fun e => hs (kindOf_dead e)
        rcases t2 with e | ⟨e0, e, ei⟩ | ⟨e0, e, ei⟩ | ⟨t', k2, n', e0, e, ei⟩ | ⟨t', k2, n', k3, n3, e0, e, hlt⟩ | ⟨kt, vt, k, k', e0, e, hlt, ei⟩
        · exact .inl e
        all_goals rcases t1 with f | ⟨f0, f, fi⟩ | ⟨f0, f, fi⟩ | ⟨t1, q2, m', f0, f, fi⟩ | ⟨t1, q2, m', q3, m3, f0, f, flt⟩ | ⟨kt1, vt1, q, q', f0, f, flt, fi⟩
        all_goals first
          | (exact absurd f hnd)
          | (rw [f] at e0; cases e0; done)
          | skip
        · exact .inr (.inl ⟨f0, e, by rw [ei, fi]⟩)
        · exact .inr (.inr (.inl ⟨f0, e, by rw [ei, fi]⟩))
        · rw [f] at e0; cases e0; exact .inr (.inr (.inr (.inl ⟨_, _, _, f0, e, by rw [ei, fi]⟩)))
        · rw [f] at e0; cases e0; exact .inr (.inr (.inr (.inr (.inl ⟨_, _, _, _, _, f0, e, flt⟩))))
        · rw [f] at e0; cases e0; exact .inr (.inr (.inr (.inr (.inl ⟨_, _, _, _, _, f0, e, hlt⟩))))
        · rw [f] at e0; cases e0; exact .inr (.inr (.inr (.inr (.inl ⟨_, _, _, _, _, f0, e, Nat.lt_trans flt hlt⟩))))
        · rw [f] at e0; cases e0; exact .inr (.inr (.inr (.inr (.inr ⟨_, _, _, _, f0, e, Nat.lt_trans flt hlt, by rw [ei, fi]⟩))))
      · have e2 := h1.same b (h.live hn) hD1
        have t1 := h.turn b hD hn
        rw [e2.1, e2.2.1]; exact t1
    · have hD1 : b ∈ D1 := by
        rcases List.mem_append.1 hb with hb | hb
        · exact hb
        · exact absurd hb hD
      have e1 := h.same b hn hD
      have t2 := h1.turn b hD1 (h.live hn)
      rw [e1.1, e1.2.1] at t2; exact t2
  · by_cases hn1 : g1.G b = .none
    · exact Nat.le_trans h.size (h1.fresh b r c hn1 hb hi)
    · by_cases hD1 : b ∈ D1
      · rcases h1.moved b hD1 hn1 r c hi with ⟨c', hi'⟩ | hle
        · exact h.fresh b r c' hn hn1 hi'
        · exact Nat.le_trans h.size hle
      · rw [(h1.same b hn1 hD1).2.1] at hi
        exact h.fresh b r c hn hn1 hi

end Go.VI
