/- Loops: a loop's entry is right. -/
import Derived.Test.YtfifgcaielmbiaaVIv
namespace Go.VI
set_option linter.unusedVariables false
set_option linter.unusedSimpArgs false
variable {R : Type} {P : Program}

theorem hpB_base {K : Nat} {H : Hp} : ∀ {bl : List (Nat × BPat)} {y : denB bl} {b : Nat}, hpB K (fun _ => .gone) bl y b = .gone ∨ (b ∈ bl.map (·.1) ∧ hpB K (fun _ => .gone) bl y b = hpB K H bl y b)
  | [], _, _ => .inl rfl
  | (c, .arr t) :: l, y, b => by
    show upd (hpB K (fun _ => .gone) l y.2) c (.arr t y.1 K) b = _ ∨ _ ∧ upd (hpB K (fun _ => .gone) l y.2) c (.arr t y.1 K) b = upd (hpB K H l y.2) c (.arr t y.1 K) b
    by_cases e : b = c
    · subst e; rw [upd_same, upd_same]; exact .inr ⟨List.mem_cons_self, rfl⟩
    · rw [upd_ne _ _ e, upd_ne _ _ e]
      exact (hpB_base (bl := l)).imp id fun h => ⟨List.mem_cons_of_mem _ h.1, h.2⟩
  | (c, .box ps) :: l, y, b => by
    show upd (hpB K (fun _ => .gone) l y.2) c (.box (encL K ps y.1)) b = _ ∨ _ ∧ upd (hpB K (fun _ => .gone) l y.2) c (.box (encL K ps y.1)) b = upd (hpB K H l y.2) c (.box (encL K ps y.1)) b
    by_cases e : b = c
    · subst e; rw [upd_same, upd_same]; exact .inr ⟨List.mem_cons_self, rfl⟩
    · rw [upd_ne _ _ e, upd_ne _ _ e]
      exact (hpB_base (bl := l)).imp id fun h => ⟨List.mem_cons_of_mem _ h.1, h.2⟩
  | (c, .siter) :: l, y, b => by
    show upd (hpB K (fun _ => .gone) l y.2) c (.siter y.1.1 y.1.2) b = _ ∨ _ ∧ upd (hpB K (fun _ => .gone) l y.2) c (.siter y.1.1 y.1.2) b = upd (hpB K H l y.2) c (.siter y.1.1 y.1.2) b
    by_cases e : b = c
    · subst e; rw [upd_same, upd_same]; exact .inr ⟨List.mem_cons_self, rfl⟩
    · rw [upd_ne _ _ e, upd_ne _ _ e]
      exact (hpB_base (bl := l)).imp id fun h => ⟨List.mem_cons_of_mem _ h.1, h.2⟩
  | (c, .map kt vt) :: l, y, b => by
    show upd (hpB K (fun _ => .gone) l y.2) c (.map kt vt y.1 K) b = _ ∨ _ ∧ upd (hpB K (fun _ => .gone) l y.2) c (.map kt vt y.1 K) b = upd (hpB K H l y.2) c (.map kt vt y.1 K) b
    by_cases e : b = c
    · subst e; rw [upd_same, upd_same]; exact .inr ⟨List.mem_cons_self, rfl⟩
    · rw [upd_ne _ _ e, upd_ne _ _ e]
      exact (hpB_base (bl := l)).imp id fun h => ⟨List.mem_cons_of_mem _ h.1, h.2⟩

theorem dec_spec {L : LoopP} {sl : List (Nat × Pat)} {st : St} {x : denS sl × denB L.bl} (h : L.dec sl st = some x) : decS st.tm st.hp sl = some x.1 ∧ decB st.hp L.bl = some x.2 := by
  unfold LoopP.dec at h
  split at h <;> try (cases h; done)
  rename_i s hs
  split at h <;> try (cases h; done)
  rename_i y hy
  cases h
  exact ⟨hs, hy⟩

/-- How a loop is left. -/
def LoopP.ex (L : LoopP) : L.Out → Ex
  | .inl _ => .exit L.id
  | .inr _ => .ret
def LoopP.out (L : LoopP) (st : St) : L.Out → St
  | .inl y => L.st st.nt st.n st.hp (L.bl.map (·.1) ++ st.dirty) L.s1 y
  | .inr y => L.st st.nt st.n st.hp (L.bl.map (·.1) ++ st.dirty) L.s2 y

theorem LoopP.run_sound {E : FuncId → Option Entry} {L : LoopP} {inl : Inl L.Out} {H : Hints} {LH : Nat → Option (LoopEntry L.Out)} {body : Code} (hB : CodeOk P body (code P E inl H LH body))
    {st : St} {g0 : Gh} {w0 : World} {lo : Nat} (hok : L.ok st.n st.hp = true) (hr0 : HRel g0 st.hp w0) (hfr0 : ∀ b, st.n ≤ b → g0.G b = .none) (hlo : lo ≤ st.n) :
    ∀ (m : Nat) (x : denS L.sl × denB L.bl) (res : L.Out), LoopP.run P E L inl H LH body st.nt st.n m x = some res → ∀ (g : Gh) (a : Act) (w : World) (d : List Nat),
      Rel g (L.st st.nt st.n st.hp d L.sl x) a w → Ext g0 st.hp w0 (L.bl.map (·.1)) g (hpB L.K st.hp L.bl x.2) w → (∀ b, g0.G b = .none → g.G b ≠ .none → lo ≤ b) → ∀ (b : Frame) (k : List Item) (cs : List Frame),
      ∃ e a' w', EndsC lo g0 st w0 (L.ex res) (L.out st res) e a' w' ∧ Arrives P (lone (b.at a (.code body :: .inLoop body :: k)) cs w) b k cs e a' w'
  | 0, x, res, h => by cases h
  | m + 1, x, res, h => by
    intro g a w d hrel hext hnew b k cs
    unfold LoopP.run at h
    obtain ⟨ex, st1, hk, hle, hwp⟩ := hB _ _ _ h
    obtain ⟨o1, o2⟩ := and_spec hok
    obtain ⟨o1, o3⟩ := and_spec o1
    obtain ⟨o1, _⟩ := and_spec o1
    obtain ⟨s0, o2⟩ := and_spec o2
    obtain ⟨s1, s2⟩ := and_spec o2
    have hfull : HRel g (hpB L.K st.hp L.bl x.2) w := hrel.hp
    have hhead : Rel g (L.st st.nt st.n (fun _ => .gone) [] L.sl x) a w := ⟨hrel.tm, hrel.nt, hrel.df, hfull.less fun b => hpB_base.imp (fun h => h) And.right, hrel.fr⟩
    obtain ⟨e, a', w', ⟨he, g1, hr1, hg⟩, harr⟩ := hwp g a w st.n (Nat.le_refl _) hhead b (.inLoop body :: k) cs
    obtain ⟨D, _, hx⟩ := hg.ext
    have hx : Ext g (hpB L.K (fun _ => .gone) L.bl x.2) w D g1 st1.hp w' := hx
    have hx2 : Ext g (hpB L.K st.hp L.bl x.2) w D g1 (hpB L.K st.hp L.bl x.2) w' := hx.rebase (fun b hn hb hg => by
      rcases hpB_base (K := L.K) (H := st.hp) (bl := L.bl) (y := x.2) (b := b) with h | ⟨_, h⟩
      · exact absurd h hg
      · rw [← h]; exact hg) fun b _ _ _ => rfl
    have T := hext.trans hx2 hfull
    have hDx : ∀ b ∈ D ++ L.bl.map (·.1), g0.G b ≠ .none → b ∈ L.bl.map (·.1) := fun b hb hn => by
      rcases List.mem_append.1 hb with hb | hb
      · have hs := hx.seen b hb (hext.live hn)
        rcases hpB_base (K := L.K) (H := st.hp) (bl := L.bl) (y := x.2) (b := b) with h | ⟨h, _⟩
        · exact absurd h hs
        · exact h
      · exact hb
    have hnew1 : ∀ b, g0.G b = .none → g1.G b ≠ .none → lo ≤ b := fun b h1 h2 => by
      by_cases h3 : g.G b = .none
      · exact Nat.le_trans hlo (hg.new b h3 h2)
      · exact hnew b h1 h3
    have hnt : a'.tmps.size = st.nt := by rw [hr1.nt, hg.nt]; rfl
    cases ex with
    | normal =>
      simp only at hk
      split at hk <;> try (cases hk; done)
      rename_i x' hx'
      obtain ⟨d1, d2⟩ := dec_spec hx'
      obtain ⟨r1, r2, r3⟩ := reset (K := L.K) (n0 := st.n) (d := L.bl.map (·.1) ++ st.dirty) hr0 hfr0 o1 o3 s0 T hDx hr1.hp hr1.tm hnt hr1.df hnew1 d1 d2
      cases e <;> cases he
      obtain ⟨e2, a2, w2, hq2, harr2⟩ := LoopP.run_sound hB hok hr0 hfr0 hlo m x' res hk _ a' w' _ r1 r2 r3 b k cs
      exact ⟨e2, a2, w2, hq2, .of_steps (Steps.trans harr (.one step_inLoop)) harr2⟩
    | exit i =>
      obtain ⟨hi, hk⟩ := br_none hk
      split at hk <;> try (cases hk; done)
      rename_i x' hx'
      cases hk
      obtain ⟨d1, d2⟩ := dec_spec hx'
      obtain ⟨r1, r2, r3⟩ := reset (K := L.K) (n0 := st.n) (d := L.bl.map (·.1) ++ st.dirty) hr0 hfr0 o1 o3 s1 T hDx hr1.hp hr1.tm hnt hr1.df hnew1 d1 d2
      have hi := Nat.eq_of_beq_eq_true hi
      subst hi
      cases e <;> cases he
      exact ⟨_, a', w', ⟨rfl, _, r1, ⟨⟨L.bl.map (·.1), rfl, r2⟩, r3, Nat.le_refl _, rfl⟩⟩, .pass (x := .inLoop body) rfl (fun _ _ => .inl (by simp)) harr⟩
    | ret =>
      simp only at hk
      split at hk <;> try (cases hk; done)
      rename_i x' hx'
      cases hk
      obtain ⟨d1, d2⟩ := dec_spec hx'
      obtain ⟨r1, r2, r3⟩ := reset (K := L.K) (n0 := st.n) (d := L.bl.map (·.1) ++ st.dirty) hr0 hfr0 o1 o3 s2 T hDx hr1.hp hr1.tm hnt hr1.df hnew1 d1 d2
      cases e <;> cases he
      exact ⟨_, a', w', ⟨rfl, _, r1, ⟨⟨L.bl.map (·.1), rfl, r2⟩, r3, Nat.le_refl _, rfl⟩⟩, .pass (x := .inLoop body) rfl (fun _ _ => .inl (by simp)) harr⟩

/-- A loop's entry is right. -/
theorem LoopP.entry_ok {E : FuncId → Option Entry} {L : LoopP} {inl : Inl L.Out} {H : Hints} {LH : Nat → Option (LoopEntry L.Out)} {body : Code} {N : Nat} (hB : CodeOk P body (code P E inl H LH body)) :
    LoopOk P body (LoopP.entry (R := R) P E L inl H LH body N) := by
  intro st κ r h
  obtain ⟨hok, h⟩ := br_none (show br (L.ok st.n st.hp) (match L.dec L.sl st with
    | some x => match LoopP.run P E L inl H LH body st.nt st.n N x with
      | some (.inl y) => κ (.exit L.id) (L.st st.nt st.n st.hp (L.bl.map (·.1) ++ st.dirty) L.s1 y)
      | some (.inr y) => κ .ret (L.st st.nt st.n st.hp (L.bl.map (·.1) ++ st.dirty) L.s2 y)
      | none => none
    | none => none) none = some r from h)
  split at h <;> try (cases h; done)
  rename_i x hx
  have key : ∀ res, LoopP.run P E L inl H LH body st.nt st.n N x = some res → κ (L.ex res) (L.out st res) = some r → ∃ x st', κ x st' = some r ∧ st.n ≤ st'.n ∧ ∀ (g : Gh) (a : Act) (w : World) (lo : Nat), lo ≤ st.n → Rel g st a w → ∀ (b : Frame) (k : List Item) (cs : List Frame),
      ∃ e a' w', EndsC lo g st w x st' e a' w' ∧ Arrives P (lone (b.at a (.code body :: .inLoop body :: k)) cs w) b k cs e a' w' := by
    intro res hres hk
    refine ⟨_, _, hk, by cases res <;> exact Nat.le_refl _, fun g a w lo hlo hr b k cs => ?_⟩
    obtain ⟨o1, o2⟩ := and_spec hok
    obtain ⟨o1, o3⟩ := and_spec o1
    obtain ⟨o1, _⟩ := and_spec o1
    obtain ⟨s0, _⟩ := and_spec o2
    obtain ⟨d1, d2⟩ := dec_spec hx
    obtain ⟨r1, r2, r3⟩ := reset (K := L.K) (n0 := st.n) (lo := lo) (d := L.bl.map (·.1) ++ st.dirty) hr.hp hr.fr o1 o3 s0 (Ext.refl g st.hp w) (fun b hb => by cases hb) hr.hp hr.tm hr.nt hr.df (fun b h1 h2 => absurd h1 h2) d1 d2
    exact LoopP.run_sound hB hok hr.hp hr.fr hlo N x res hres _ a w _ r1 r2 r3 b k cs
  split at h
  · rename_i y hy
    exact key (.inl y) hy h
  · rename_i y hy
    exact key (.inr y) hy h
  · cases h
end Go.VI
