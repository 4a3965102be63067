/- Loops: from one head to the next one. -/
import Derived.Test.YtfifgcaielmbiaaVIt
namespace Go.VI
set_option linter.unusedVariables false
set_option linter.unusedSimpArgs false
variable {R : Type} {P : Program}

theorem isArr_mem : ∀ {bl : List (Nat × BPat)} {b : Nat}, isArr bl b = true → b ∈ bl.map (·.1)
  | [], _, h => by cases h
  | (c, .arr t) :: l, b, h => by
    rcases br_some' h with ⟨h1, _⟩ | ⟨_, h2⟩
    · rw [Nat.eq_of_beq_eq_true h1]; exact List.mem_cons_self
    · exact List.mem_cons_of_mem _ (isArr_mem h2)
  | (c, .box ps) :: l, b, h => by
    rcases br_some' h with ⟨_, h1⟩ | ⟨_, h2⟩
    · cases h1
    · exact List.mem_cons_of_mem _ (isArr_mem h2)
  | (c, .siter) :: l, b, h => by
    rcases br_some' h with ⟨_, h1⟩ | ⟨_, h2⟩
    · cases h1
    · exact List.mem_cons_of_mem _ (isArr_mem h2)
  | (c, .map _ _) :: l, b, h => by
    rcases br_some' h with ⟨h1, _⟩ | ⟨_, h2⟩
    · rw [Nat.eq_of_beq_eq_true h1]; exact List.mem_cons_self
    · exact List.mem_cons_of_mem _ (isArr_mem h2)
where
  br_some' {b x y : Bool} (h : br b x y = true) : (b = true ∧ x = true) ∨ (b = false ∧ y = true) := by cases b <;> simp_all [br]

theorem castL_spec {a b : Ty} {l : List a.den} {m : List b.den} (h : castL a b l = some m) : ∃ e : a = b, m = e ▸ l := by
  unfold castL at h
  split at h
  · rename_i e
    cases h
    exact ⟨Ty.eq_of_beq e, rfl⟩
  · cases h

theorem castM_spec {a b c d : Ty} {l : List (a.den × b.den)} {m : List (c.den × d.den)} (h : castM a b c d l = some m) : ∃ (e : a = c) (e' : b = d), m = e ▸ e' ▸ l := by
  unfold castM at h
  split at h
  · rename_i e
    cases h
    exact ⟨Ty.eq_of_beq (and_spec e).1, Ty.eq_of_beq (and_spec e).2, rfl⟩
  · cases h

theorem lookB {H1 H : Hp} {K : Nat} : ∀ {bl : List (Nat × BPat)} {y : denB bl}, decB H1 bl = some y → ∀ b, (b ∉ bl.map (·.1) ∧ isArr bl b = false ∧ hpB K H bl y b = H b) ∨
    (b ∈ bl.map (·.1) ∧ isArr bl b = true ∧ ∃ t l k, H1 b = .arr t l k ∧ hpB K H bl y b = .arr t l K) ∨
    (b ∈ bl.map (·.1) ∧ isArr bl b = false ∧ ∃ ps cs z, (b, BPat.box ps) ∈ bl ∧ H1 b = .box cs ∧ decL H1 ps cs = some z ∧ hpB K H bl y b = .box (encL K ps z)) ∨
    (b ∈ bl.map (·.1) ∧ isArr bl b = false ∧ ∃ s p, H1 b = .siter s p ∧ hpB K H bl y b = .siter s p) ∨
    (b ∈ bl.map (·.1) ∧ isArr bl b = true ∧ ∃ kt vt es k, H1 b = .map kt vt es k ∧ hpB K H bl y b = .map kt vt es K)
  | [], y, h, b => .inl ⟨by simp, rfl, rfl⟩
  | (c, .arr t) :: l, y, h, b => by
    simp only [decB] at h
    split at h <;> try (cases h; done)
    rename_i t' xs k hc
    split at h <;> try (cases h; done)
    rename_i ys hys
    split at h <;> try (cases h; done)
    rename_i y' hy'
    cases h
    obtain ⟨e, he⟩ := castL_spec hys
    subst e
    have he : ys = xs := he
    subst he
    by_cases hb : b = c
    · subst hb
      refine .inr (.inl ⟨List.mem_cons_self, ?_, t', ys, k, hc, ?_⟩)
      · show br (Nat.beq b b) true _ = true
        rw [Nat.beq_refl]; rfl
      · exact upd_same _ _ _
    · have hf : Nat.beq b c = false := by
        cases e : Nat.beq b c with
        | false => rfl
        | true => exact absurd (Nat.eq_of_beq_eq_true e) hb
      have e1 : isArr ((c, .arr t') :: l) b = isArr l b := by
        show br (Nat.beq b c) true _ = _
        rw [hf]; rfl
      have e2 : hpB K H ((c, .arr t') :: l) (ys, y') b = hpB K H l y' b := upd_ne _ _ hb
      have e3 : b ∈ ((c, BPat.arr t') :: l).map (·.1) ↔ b ∈ l.map (·.1) := by simp [hb]
      rw [e1, e2, e3]
      rcases lookB (H := H) (K := K) hy' b with h | h | ⟨h1, h2, ps, cs, z, h3, h4⟩ | h | h
      · exact .inl h
      · exact .inr (.inl h)
      · exact .inr (.inr (.inl ⟨h1, h2, ps, cs, z, List.mem_cons_of_mem _ h3, h4⟩))
      · exact .inr (.inr (.inr (.inl h)))
      · exact .inr (.inr (.inr (.inr h)))
  | (c, .box ps) :: l, y, h, b => by
    simp only [decB] at h
    split at h <;> try (cases h; done)
    rename_i cs hc
    split at h <;> try (cases h; done)
    rename_i z hz
    split at h <;> try (cases h; done)
    rename_i y' hy'
    cases h
    by_cases hb : b = c
    · subst hb
      refine .inr (.inr (.inl ⟨List.mem_cons_self, ?_, ps, cs, z, List.mem_cons_self, hc, hz, ?_⟩))
      · show br (Nat.beq b b) false _ = false
        rw [Nat.beq_refl]; rfl
      · exact upd_same _ _ _
    · have hf : Nat.beq b c = false := by
        cases e : Nat.beq b c with
        | false => rfl
        | true => exact absurd (Nat.eq_of_beq_eq_true e) hb
      have e1 : isArr ((c, .box ps) :: l) b = isArr l b := by
        show br (Nat.beq b c) false _ = _
        rw [hf]; rfl
      have e2 : hpB K H ((c, .box ps) :: l) (z, y') b = hpB K H l y' b := upd_ne _ _ hb
      have e3 : b ∈ ((c, BPat.box ps) :: l).map (·.1) ↔ b ∈ l.map (·.1) := by simp [hb]
      rw [e1, e2, e3]
      rcases lookB (H := H) (K := K) hy' b with h | h | ⟨h1, h2, ps', cs', z', h3, h4⟩ | h | h
      · exact .inl h
      · exact .inr (.inl h)
      · exact .inr (.inr (.inl ⟨h1, h2, ps', cs', z', List.mem_cons_of_mem _ h3, h4⟩))
      · exact .inr (.inr (.inr (.inl h)))
      · exact .inr (.inr (.inr (.inr h)))
  | (c, .siter) :: l, y, h, b => by
    simp only [decB] at h
    split at h <;> try (cases h; done)
    rename_i s p hc
    split at h <;> try (cases h; done)
    rename_i y' hy'
    cases h
    by_cases hb : b = c
    · subst hb
      refine .inr (.inr (.inr (.inl ⟨List.mem_cons_self, ?_, s, p, hc, ?_⟩)))
      · show br (Nat.beq b b) false _ = false
        rw [Nat.beq_refl]; rfl
      · exact upd_same _ _ _
    · have hf : Nat.beq b c = false := by
        cases e : Nat.beq b c with
        | false => rfl
        | true => exact absurd (Nat.eq_of_beq_eq_true e) hb
      have e1 : isArr ((c, .siter) :: l) b = isArr l b := by
        show br (Nat.beq b c) false _ = _
        rw [hf]; rfl
      have e2 : hpB K H ((c, .siter) :: l) ((s, p), y') b = hpB K H l y' b := upd_ne _ _ hb
      have e3 : b ∈ ((c, BPat.siter) :: l).map (·.1) ↔ b ∈ l.map (·.1) := by simp [hb]
      rw [e1, e2, e3]
      rcases lookB (H := H) (K := K) hy' b with h | h | ⟨h1, h2, ps', cs', z', h3, h4⟩ | h | h
      · exact .inl h
      · exact .inr (.inl h)
      · exact .inr (.inr (.inl ⟨h1, h2, ps', cs', z', List.mem_cons_of_mem _ h3, h4⟩))
      · exact .inr (.inr (.inr (.inl h)))
      · exact .inr (.inr (.inr (.inr h)))
  | (c, .map kt vt) :: l, y, h, b => by
    simp only [decB] at h
    split at h <;> try (cases h; done)
    rename_i kt' vt' xs k hc
    split at h <;> try (cases h; done)
    rename_i ys hys
    split at h <;> try (cases h; done)
    rename_i y' hy'
    cases h
    obtain ⟨e, e', he⟩ := castM_spec hys
    subst e e'
    have he : ys = xs := he
    subst he
    by_cases hb : b = c
    · subst hb
      refine .inr (.inr (.inr (.inr ⟨List.mem_cons_self, ?_, kt', vt', ys, k, hc, ?_⟩)))
      · show br (Nat.beq b b) true _ = true
        rw [Nat.beq_refl]; rfl
      · exact upd_same _ _ _
    · have hf : Nat.beq b c = false := by
        cases e : Nat.beq b c with
        | false => rfl
        | true => exact absurd (Nat.eq_of_beq_eq_true e) hb
      have e1 : isArr ((c, .map kt' vt') :: l) b = isArr l b := by
        show br (Nat.beq b c) true _ = _
        rw [hf]; rfl
      have e2 : hpB K H ((c, .map kt' vt') :: l) (ys, y') b = hpB K H l y' b := upd_ne _ _ hb
      have e3 : b ∈ ((c, BPat.map kt' vt') :: l).map (·.1) ↔ b ∈ l.map (·.1) := by simp [hb]
      rw [e1, e2, e3]
      rcases lookB (H := H) (K := K) hy' b with h | h | ⟨h1, h2, ps, cs, z, h3, h4⟩ | h | h
      · exact .inl h
      · exact .inr (.inl h)
      · exact .inr (.inr (.inl ⟨h1, h2, ps, cs, z, List.mem_cons_of_mem _ h3, h4⟩))
      · exact .inr (.inr (.inr (.inl h)))
      · exact .inr (.inr (.inr (.inr h)))

theorem startLook {K : Nat} {H : Hp} : ∀ {bl : List (Nat × BPat)}, startOk K H bl = true → ∀ b, b ∈ bl.map (·.1) → (isArr bl b = true ∧ ∃ t l k, H b = .arr t l k ∧ k < K) ∨ (isArr bl b = false ∧ ∃ cs, H b = .box cs) ∨ (isArr bl b = false ∧ ∃ s p, H b = .siter s p) ∨ (isArr bl b = true ∧ ∃ kt vt es k, H b = .map kt vt es k ∧ k < K)
  | [], _, b, hb => by simp at hb
  | (c, .arr t) :: l, h, b, hb => by
    obtain ⟨h1, h2⟩ := and_spec h
    by_cases e : b = c
    · subst e
      left
      refine ⟨by show br (Nat.beq b b) true _ = true; rw [Nat.beq_refl]; rfl, ?_⟩
      split at h1
      · rename_i t' l' k hc
        exact ⟨_, _, _, hc, Nat.le_of_ble_eq_true (and_spec h1).2⟩
      · cases h1
    · have hf : Nat.beq b c = false := by
        cases e' : Nat.beq b c with
        | false => rfl
        | true => exact absurd (Nat.eq_of_beq_eq_true e') e
      have e1 : isArr ((c, .arr t) :: l) b = isArr l b := by
        show br (Nat.beq b c) true _ = _
        rw [hf]; rfl
      rw [e1]
      exact startLook h2 b (by simpa [e] using hb)
  | (c, .box ps) :: l, h, b, hb => by
    obtain ⟨h1, h2⟩ := and_spec h
    by_cases e : b = c
    · subst e
      right; left
      refine ⟨by show br (Nat.beq b b) false _ = false; rw [Nat.beq_refl]; rfl, ?_⟩
      split at h1
      · rename_i cs hc
        exact ⟨_, hc⟩
      · cases h1
    · have hf : Nat.beq b c = false := by
        cases e' : Nat.beq b c with
        | false => rfl
        | true => exact absurd (Nat.eq_of_beq_eq_true e') e
      have e1 : isArr ((c, .box ps) :: l) b = isArr l b := by
        show br (Nat.beq b c) false _ = _
        rw [hf]; rfl
      rw [e1]
      exact startLook h2 b (by simpa [e] using hb)
  | (c, .siter) :: l, h, b, hb => by
    obtain ⟨h1, h2⟩ := and_spec h
    by_cases e : b = c
    · subst e
      right; right; left
      refine ⟨by show br (Nat.beq b b) false _ = false; rw [Nat.beq_refl]; rfl, ?_⟩
      split at h1
      · rename_i t p hc
        exact ⟨_, _, hc⟩
      · cases h1
    · have hf : Nat.beq b c = false := by
        cases e' : Nat.beq b c with
        | false => rfl
        | true => exact absurd (Nat.eq_of_beq_eq_true e') e
      have e1 : isArr ((c, .siter) :: l) b = isArr l b := by
        show br (Nat.beq b c) false _ = _
        rw [hf]; rfl
      rw [e1]
      exact startLook h2 b (by simpa [e] using hb)
  | (c, .map kt vt) :: l, h, b, hb => by
    obtain ⟨h1, h2⟩ := and_spec h
    by_cases e : b = c
    · subst e
      right; right; right
      refine ⟨by show br (Nat.beq b b) true _ = true; rw [Nat.beq_refl]; rfl, ?_⟩
      split at h1
      · rename_i kt' vt' l' k hc
        exact ⟨_, _, _, _, hc, Nat.le_of_ble_eq_true (and_spec h1).2⟩
      · cases h1
    · have hf : Nat.beq b c = false := by
        cases e' : Nat.beq b c with
        | false => rfl
        | true => exact absurd (Nat.eq_of_beq_eq_true e') e
      have e1 : isArr ((c, .map kt vt) :: l) b = isArr l b := by
        show br (Nat.beq b c) true _ = _
        rw [hf]; rfl
      rw [e1]
      exact startLook h2 b (by simpa [e] using hb)

/-- What is known at a head: numbers from n0 on are forgotten, listed rows have the generation K. -/
def Gh.head (g : Gh) (bl : List (Nat × BPat)) (K n0 : Nat) : Gh := ⟨g.F, g.i, fun b => if b < n0 then (if isArr bl b = true then (match g.G b with
  | .arr t _ n => .arr t K n
  | .map kt vt _ => .map kt vt K
  | x => x) else g.G b) else .none⟩

section
variable {g : Gh} {bl : List (Nat × BPat)} {K n0 : Nat}
theorem head_ge {b : Nat} (h : n0 ≤ b) : (g.head bl K n0).G b = .none := if_neg (by omega)
theorem head_same {b : Nat} (h : b < n0) (ha : isArr bl b = false) : (g.head bl K n0).G b = g.G b := by
  show (if b < n0 then _ else _) = _
  rw [if_pos h, if_neg (by rw [ha]; decide)]
theorem head_arr {b k n : Nat} {t : Ty} (h : b < n0) (ha : isArr bl b = true) (hg : g.G b = .arr t k n) : (g.head bl K n0).G b = .arr t K n := by
  show (if b < n0 then _ else _) = _
  rw [if_pos h, if_pos ha, hg]
theorem head_map {b k : Nat} {kt vt : Ty} (h : b < n0) (ha : isArr bl b = true) (hg : g.G b = .map kt vt k) : (g.head bl K n0).G b = .map kt vt K := by
  show (if b < n0 then _ else _) = _
  rw [if_pos h, if_pos ha, hg]
theorem head_map' {b : Nat} {kt vt : Ty} {k : Nat} (hg : (g.head bl K n0).G b = .map kt vt k) : ∃ k0, g.G b = .map kt vt k0 := by
  have hg : (if b < n0 then (if isArr bl b = true then (match g.G b with
    | .arr t _ n => Kd.arr t K n
    | .map kt vt _ => .map kt vt K
    | x => x) else g.G b) else .none) = .map kt vt k := hg
  split at hg
  · split at hg
    · split at hg
      · cases hg
      · rename_i hq; cases hg; exact ⟨_, hq⟩
      · exact ⟨_, hg⟩
    · exact ⟨_, hg⟩
  · cases hg
theorem head_live {b : Nat} (h : (g.head bl K n0).G b ≠ .none) : b < n0 ∧ g.G b ≠ .none := by
  have hb : b < n0 := by
    rcases Nat.lt_or_ge b n0 with h' | h'
    · exact h'
    · exact absurd (head_ge h') h
  refine ⟨hb, fun e => h ?_⟩
  show (if b < n0 then _ else _) = _
  rw [if_pos hb]
  split
  · rw [e]
  · exact e
theorem head_keeps {b : Nat} (h : b < n0) (hn : g.G b ≠ .none) : (g.head bl K n0).G b ≠ .none := by
  show (if b < n0 then _ else _) ≠ _
  rw [if_pos h]
  split
  · split <;> first | exact (fun h => by cases h) | exact hn
  · exact hn
theorem head_dead {b : Nat} (h : (g.head bl K n0).G b ≠ .none) (h' : (g.head bl K n0).G b ≠ .dead) : g.G b ≠ .dead := fun e => h' (by
  show (if b < n0 then _ else _) = _
  rw [if_pos (head_live h).1]
  split
  · rw [e]
  · exact e)

theorem avAll_get {f : AV → AV → Bool} : ∀ {as bs : List AV}, avAll f as bs = true → as.length = bs.length ∧ ∀ (j : Nat) (a : AV), as[j]? = some a → ∃ b, bs[j]? = some b ∧ f a b = true
  | [], [], _ => ⟨rfl, fun j a h => by simp at h⟩
  | a :: as, b :: bs, h => by
    obtain ⟨h1, h2⟩ := and_spec (show ((f a b).and (avAll f as bs)) = true from h)
    obtain ⟨h3, h4⟩ := avAll_get h2
    refine ⟨by simp [h3], fun j x hx => ?_⟩
    cases j with
    | zero => cases (show some a = some x from hx); exact ⟨b, rfl, h1⟩
    | succ j => exact h4 j x (by simpa using hx)
  | [], _ :: _, h => by cases h
  | _ :: _, [], h => by cases h

/-- What stays says the same at a head. -/
theorem cst_headD {w : World} : ∀ (d : Nat) {v v' : AV} {u : Value}, avEqD d v v' = true → cstOk bl n0 d v = true → RelV g w v' u → RelV (g.head bl K n0) w v u
  | 0, _, _, _, he, _, _ => by cases he
  | d + 1, v, v', u, he, ho, h => by
    unfold avEqD at he
    split at he
    · rename_i b i o k b' i' o' k'
      obtain ⟨e1, he⟩ := and_spec he
      obtain ⟨e2, he⟩ := and_spec he
      obtain ⟨e3, e4⟩ := and_spec he
      cases Nat.eq_of_beq_eq_true e1; cases Nat.eq_of_beq_eq_true e2; cases Nat.eq_of_beq_eq_true e3; cases Nat.eq_of_beq_eq_true e4
      obtain ⟨o1, o2⟩ := and_spec (show ((Nat.blt b n0).and (isArr bl b).not) = true from ho)
      have o2 : isArr bl b = false := by simpa using o2
      have hs := head_same (g := g) (bl := bl) (K := K) (Nat.le_of_ble_eq_true o1) o2
      cases h with
      | ptr _ _ _ _ _ hn hp ha hb hi =>
        exact .ptr _ _ _ _ _ (by rw [hs]; exact hn) hp (by rw [hs]; exact ha) (by rw [hs]; exact hb) (by rw [hs]; exact hi)
    · cases h; exact .nilp
    · rename_i b b'
      cases Nat.eq_of_beq_eq_true he
      have o1 : b < n0 := Nat.le_of_ble_eq_true (show Nat.blt b n0 = true from ho)
      cases h with
      | map _ _ hn hp ha =>
        refine .map _ _ (head_keeps o1 hn) hp fun kt vt k hg => ?_
        obtain ⟨k0, hg⟩ := head_map' hg
        exact ha kt vt k0 hg
    · cases h; exact .nilmap
    · cases h; exact .nilfn
    · cases h; exact .nili
    · cases h; exact .nils
    · rename_i i xs ys j xs' ys'
      obtain ⟨e1, he⟩ := and_spec he
      obtain ⟨e2, e3⟩ := and_spec he
      cases Nat.eq_of_beq_eq_true e1
      obtain ⟨o1, o2⟩ := and_spec (show ((xs.all (cstOk bl n0 d)).and (ys.all (cstOk bl n0 d))) = true from ho)
      obtain ⟨l1, g1⟩ := avAll_get e2
      obtain ⟨l2, g2⟩ := avAll_get e3
      cases h with
      | fn _ _ _ vs us fx fy h1 h2 h3 h4 h5 h6 =>
        refine .fn _ _ _ vs us fx fy (by omega) (by omega) (fun j c hc => ?_) (fun j c hc => ?_) (fun j c hc => ?_) (fun j c hc => ?_)
        · obtain ⟨c', hc', _⟩ := g1 j c hc; exact h3 j c' hc'
        · obtain ⟨c', hc', hq⟩ := g1 j c hc
          exact cst_headD d hq (List.all_eq_true.1 o1 c (List.mem_of_getElem? hc)) (h4 j c' hc')
        · obtain ⟨c', hc', _⟩ := g2 j c hc; exact h5 j c' hc'
        · obtain ⟨c', hc', hq⟩ := g2 j c hc
          exact cst_headD d hq (List.all_eq_true.1 o2 c (List.mem_of_getElem? hc)) (h6 j c' hc')
    · rename_i t x t' x'
      obtain ⟨e1, e2⟩ := and_spec he
      cases Nat.eq_of_beq_eq_true e1
      cases h with
      | iface _ _ v h => exact .iface _ _ _ (cst_headD d e2 ho h)
    · cases he
theorem cst_head {w : World} {v v' : AV} {u : Value} (he : avEq v v' = true) (ho : patOk bl n0 (.cst v) = true) (h : RelV g w v' u) : RelV (g.head bl K n0) w v u := cst_headD 4 he ho h

theorem own_head {w : World} {H1 : Hp} {b : Nat} {v : AV} {u : Value} (hr : HRel g H1 w) (he : ownIs H1 b v = true) (hb : b < n0) (ha : isArr bl b = true) (h : RelV g w v u) : RelV (g.head bl K n0) w (.own b K) u := by
  unfold ownIs at he
  split at he
  · rename_i b' k
    obtain ⟨e1, e2⟩ := and_spec he
    cases Nat.eq_of_beq_eq_true e1
    unfold genIs at e2
    split at e2
    · rename_i t l k' hc
      cases Nat.eq_of_beq_eq_true e2
      have hG : g.G b = .arr t k l.length := by rw [hr.kd b (fun e => by rw [hc] at e; cases e), hc]; rfl
      have hG2 := head_arr (g := g) (K := K) hb ha hG
      cases h with
      | own _ _ _ hn hs hh =>
        refine .own _ _ _ (by rw [hG2]; exact fun h => by cases h) hs fun t' k' n' hg => ?_
        rw [hG2] at hg; cases hg
        exact ⟨Nat.le_refl _, fun _ => (hh _ _ _ hG).2 rfl⟩
    · cases e2
  · cases he
end
end Go.VI
