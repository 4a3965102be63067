/- The code, and a function. -/
import Derived.Test.YtfifgcaielmbiaaVIpc
namespace Go.VI
set_option linter.unusedVariables false
set_option linter.unusedSimpArgs false
variable {R : Type} {P : Program}

/-- How the machine leaves code, and how the interpreter does. -/
def exOf : Exit → Option Ex
  | .normal => some .normal
  | .exit id => some (.exit id)
  | .ret => some .ret
  | _ => none

/-- What code comes to. -/
def EndsC (lo : Nat) (g : Gh) (st : St) (w : World) (x : Ex) (st' : St) : Exit → Act → World → Prop := fun e a' w' =>
  exOf e = some x ∧ ∃ g', Rel g' st' a' w' ∧ Goes lo g st w g' st' w'

/-- The interpreter is right about code. -/
def CodeOk (P : Program) (c : Code) (f : St → KC R → Option R) : Prop :=
  ∀ st κ r, f st κ = some r → ∃ x st', κ x st' = some r ∧ st.n ≤ st'.n ∧ ∀ (g : Gh) (a : Act) (w : World) (lo : Nat), lo ≤ st.n → Rel g st a w → c.wp P (EndsC lo g st w x st') a w

theorem EndsC.pre {lo : Nat} {g g1 : Gh} {st st1 st' : St} {x : Ex} {w w1 : World} {e : Exit} {a' : Act} {w' : World} (hg : Goes lo g st w g1 st1 w1) (hr : HRel g1 st1.hp w1) (h : EndsC lo g1 st1 w1 x st' e a' w') : EndsC lo g st w x st' e a' w' := by
  obtain ⟨h1, g', h3, h4⟩ := h
  exact ⟨h1, g', h3, hg.trans h4 hr⟩

/-- The same of a loop, from where a round begins. -/
def RoundOk (P : Program) (body : Code) (f : St → KC R → Option R) : Prop :=
  ∀ st κ r, f st κ = some r → ∃ x st', κ x st' = some r ∧ st.n ≤ st'.n ∧ ∀ (g : Gh) (a : Act) (w : World) (lo : Nat), lo ≤ st.n → Rel g st a w → ∀ (b : Frame) (k : List Item) (cs : List Frame),
    ∃ e a' w', EndsC lo g st w x st' e a' w' ∧ Arrives P (lone (b.at a (.code body :: .inLoop body :: k)) cs w) b k cs e a' w'
/-- A loop's entry is right about its body. -/
def LoopOk (P : Program) (body : Code) : LoopEntry R → Prop
  | .unroll _ => True
  | .run f => RoundOk P body f

theorem RoundOk.loop {body : Code} {f : St → KC R → Option R} (h : RoundOk P body f) : CodeOk P (.loop body) f := by
  intro st κ r hf
  obtain ⟨x, st', h1, h2, h3⟩ := h st κ r hf
  refine ⟨x, st', h1, h2, fun g a w lo hlo hr b k cs => ?_⟩
  obtain ⟨e, a', w', hq, harr⟩ := h3 g a w lo hlo hr b k cs
  exact ⟨e, a', w', hq, .of_steps (.one step_loop) harr⟩
/-- One round, and what comes behind it. -/
theorem round_sound {body : Code} {f rest : St → KC R → Option R} (hb : CodeOk P body f) {st : St} {κ : KC R} {r : R}
    (h : f st (fun e st' => match e with
      | .normal => rest st' κ
      | e => κ e st') = some r)
    (hrest : ∀ (st' : St), rest st' κ = some r → ∃ x st2, κ x st2 = some r ∧ st'.n ≤ st2.n ∧ ∀ (g : Gh) (a : Act) (w : World) (lo : Nat), lo ≤ st'.n → Rel g st' a w → ∀ (b : Frame) (k : List Item) (cs : List Frame), ∃ e a' w', EndsC lo g st' w x st2 e a' w' ∧ Arrives P (lone (b.at a (.code body :: .inLoop body :: k)) cs w) b k cs e a' w') :
    ∃ x st', κ x st' = some r ∧ st.n ≤ st'.n ∧ ∀ (g : Gh) (a : Act) (w : World) (lo : Nat), lo ≤ st.n → Rel g st a w → ∀ (b : Frame) (k : List Item) (cs : List Frame),
      ∃ e a' w', EndsC lo g st w x st' e a' w' ∧ Arrives P (lone (b.at a (.code body :: .inLoop body :: k)) cs w) b k cs e a' w' := by
  obtain ⟨x, st1, hk, hle, hwp⟩ := hb st _ r h
  cases x with
  | normal =>
    obtain ⟨x2, st2, h1, h2, h3⟩ := hrest st1 hk
    refine ⟨x2, st2, h1, Nat.le_trans hle h2, fun g a w lo hlo hr b k cs => ?_⟩
    obtain ⟨e, a', w', ⟨he, g', hr', hg⟩, harr⟩ := hwp g a w lo hlo hr b (.inLoop body :: k) cs
    cases e <;> cases he
    obtain ⟨e2, a2, w2, hq2, harr2⟩ := h3 g' a' w' lo (Nat.le_trans hlo hg.le) hr' b k cs
    exact ⟨e2, a2, w2, hq2.pre hg hr'.hp, .of_steps (Steps.trans harr (.one step_inLoop)) harr2⟩
  | exit i =>
    refine ⟨_, st1, hk, hle, fun g a w lo hlo hr b k cs => ?_⟩
    obtain ⟨e, a', w', ⟨he, g', hr', hg⟩, harr⟩ := hwp g a w lo hlo hr b (.inLoop body :: k) cs
    cases e <;> cases he
    exact ⟨_, a', w', ⟨rfl, g', hr', hg⟩, .pass (x := .inLoop body) rfl (fun _ _ => .inl (by simp)) harr⟩
  | ret =>
    refine ⟨_, st1, hk, hle, fun g a w lo hlo hr b k cs => ?_⟩
    obtain ⟨e, a', w', ⟨he, g', hr', hg⟩, harr⟩ := hwp g a w lo hlo hr b (.inLoop body :: k) cs
    cases e <;> cases he
    exact ⟨_, a', w', ⟨rfl, g', hr', hg⟩, .pass (x := .inLoop body) rfl (fun _ _ => .inl (by simp)) harr⟩
theorem iterU_round {body : Code} {f : St → KC R → Option R} (hb : CodeOk P body f) : ∀ n, RoundOk P body (iterU f n)
  | 0 => fun st κ r h => by cases h
  | n + 1 => fun st κ r h => round_sound (rest := iterU f n) hb h (fun st' hk => iterU_round hb n st' κ r hk)

/-- What is asked of loops, loop by loop. -/
def LoopsOk (P : Program) (LH : Nat → Option (LoopEntry R)) : Code → Prop
  | .seq a b => LoopsOk P LH a ∧ LoopsOk P LH b
  | .cond _ a b => LoopsOk P LH a ∧ LoopsOk P LH b
  | .block _ c => LoopsOk P LH c
  | .loop c => (∀ le, LH (firstR c) = some le → LoopOk P c le) ∧ LoopsOk P LH c
  | _ => True

theorem fzO_sound : ∀ {l : List Nat} {st : St} {κ : St → Option R} {r : R}, fzO l st κ = some r → ∃ st1, κ st1 = some r ∧ st1.n = st.n ∧ ∀ (g : Gh) (a : Act) (w : World) (lo : Nat), Rel g st a w → ∃ g1, Rel g1 st1 a w ∧ Goes lo g st w g1 st1 w
  | [], st, κ, r, h => ⟨st, h, rfl, fun g a w lo hr => ⟨g, hr, Goes.refl lo g st w⟩⟩
  | s :: l, st, κ, r, h => by
    obtain ⟨ht, h⟩ := br_none (show br (there st.hp (st.tm s)) (fzO l { st with tm := upd st.tm s (freezeV st.hp (st.tm s)), hp := dropB st.hp (frees (st.tm s)), dirty := frees (st.tm s) ++ st.dirty } κ) none = some r from h)
    obtain ⟨st1, h1, h2, h3⟩ := fzO_sound h
    refine ⟨st1, h1, h2, fun g a w lo hr => ?_⟩
    obtain ⟨g2, e1, e2, e3, e4⟩ := freeze_went hr.hp (hr.tm s) ht
    have hr2 : Rel g2 { st with tm := upd st.tm s (freezeV st.hp (st.tm s)), hp := dropB st.hp (frees (st.tm s)), dirty := frees (st.tm s) ++ st.dirty } a w := by
      refine ⟨fun i => ?_, hr.nt, hr.df, e2, fun b hb => ?_⟩
      · by_cases e : i = s
        · subst e
          show RelV g2 w (upd st.tm i (freezeV st.hp (st.tm i)) i) _
          rw [upd_same]; exact e3
        · show RelV g2 w (upd st.tm s (freezeV st.hp (st.tm s)) i) _
          rw [upd_ne _ _ e]; exact (hr.tm i).step e1 hr.hp
      · by_cases hb' : g2.G b = .none
        · exact hb'
        · exact (e4 b (hr.fr b hb) hb').elim
    obtain ⟨g3, f1, f2⟩ := h3 g2 a w lo hr2
    have hg : Goes lo g st w g2 { st with tm := upd st.tm s (freezeV st.hp (st.tm s)), hp := dropB st.hp (frees (st.tm s)), dirty := frees (st.tm s) ++ st.dirty } w := ⟨⟨_, rfl, e1⟩, fun b k1 k2 => (e4 b k1 k2).elim, Nat.le_refl _, rfl⟩
    exact ⟨g3, f1, hg.trans f2 hr2.hp⟩

theorem code_sound {E : FuncId → Option Entry} {inl : Inl R} (hm : P.follows .mixedOrders = true) (hE : ∀ f e, E f = some e → Holds P f e) (hI : InlOk P inl) {H : Hints} {LH : Nat → Option (LoopEntry R)} :
    ∀ c : Code, LoopsOk P LH c → CodeOk P c (code P E inl H LH c)
  | .skip, hL => fun st κ r h => ⟨.normal, st, h, Nat.le_refl _, fun g a w lo hlo hr => wp_skip ⟨rfl, g, hr, Goes.refl lo g st w⟩⟩
  | .region id ops draw, hL => by
    intro st κ r h
    have h : fzO (H.fz id) st (fun st1 => regionO P E inl H id ops.toList draw st1 κ) = some r := h
    obtain ⟨st1, h, hn, hfz⟩ := fzO_sound h
    cases draw with
    | false =>
      obtain ⟨st', h1, h2, h3⟩ := region_seq hE hI h
      refine ⟨.normal, st', h1, by rw [hn] at h2; exact h2, fun g a w lo hlo hr => ?_⟩
      obtain ⟨g1, hr1, hg1⟩ := hfz g a w lo hr
      have := h3 g1 a w (EndsC lo g1 st1 w .normal st') hr1 (fun a' w' g' h1 h2 => ⟨rfl, g', h1, h2.low (by rw [hn]; exact hlo)⟩)
      rw [Array.toArray_toList] at this
      exact wp_mono (wp_region this) fun e a' w' hq => hq.pre hg1 hr1.hp
    | true =>
      obtain ⟨st', h1, h2, h3⟩ := region_any hE hI h
      refine ⟨.normal, st', h1, by rw [hn] at h2; exact h2, fun g a w lo hlo hr => ?_⟩
      obtain ⟨g1, hr1, hg1⟩ := hfz g a w lo hr
      have := h3 g1 a w (EndsC lo g1 st1 w .normal st') hr1 (fun a' w' g' h1 h2 => ⟨rfl, g', h1, h2.low (by rw [hn]; exact hlo)⟩)
      rw [Array.toArray_toList] at this
      exact wp_mono (wp_region_any hm this) fun e a' w' hq => hq.pre hg1 hr1.hp
  | .seq x y, hL => by
    intro st κ r h
    obtain ⟨ex, st1, hk, hle, hwp⟩ := code_sound hm hE hI x hL.1 st _ r h
    cases ex with
    | normal =>
      obtain ⟨x2, st2, h1, h2, h3⟩ := code_sound hm hE hI y hL.2 st1 κ r hk
      refine ⟨x2, st2, h1, Nat.le_trans hle h2, fun g a w lo hlo hr => wp_seq (wp_mono (hwp g a w lo hlo hr) ?_)⟩
      rintro e a' w' ⟨he, g', hr', hg⟩
      cases e <;> cases he
      exact wp_mono (h3 g' a' w' lo (Nat.le_trans hlo hle) hr') fun e a2 w2 hq => hq.pre hg hr'.hp
    | exit id =>
      refine ⟨_, st1, hk, hle, fun g a w lo hlo hr => wp_seq (wp_mono (hwp g a w lo hlo hr) ?_)⟩
      rintro e a' w' ⟨he, g', hr', hg⟩
      cases e <;> cases he
      exact ⟨rfl, g', hr', hg⟩
    | ret =>
      refine ⟨_, st1, hk, hle, fun g a w lo hlo hr => wp_seq (wp_mono (hwp g a w lo hlo hr) ?_)⟩
      rintro e a' w' ⟨he, g', hr', hg⟩
      cases e <;> cases he
      exact ⟨rfl, g', hr', hg⟩
  | .cond c x y, hL => by
    intro st κ r h
    cases c with
    | tmp t =>
      have h1 : ∀ z, st.tm t = z → (match z with
        | .bool b => br b (code P E inl H LH x { st with tm := upd st.tm t (.bool true) } κ) (code P E inl H LH y { st with tm := upd st.tm t (.bool false) } κ)
        | _ => none) = some r := fun z hz => by subst hz; exact h
      have h2 := h1 _ rfl
      split at h2 <;> try (cases h2; done)
      rename_i b hb
      have hv : ∀ {g : Gh} {a : Act} {w : World}, Rel g st a w → a.eval (.tmp t) = .bool b := by
        intro g a w hr
        have htm := hr.tm t
        rw [hb] at htm
        show a.tmps.getD t Go.undef = _
        generalize a.tmps.getD t Go.undef = v at htm
        cases htm; rfl
      have e0 : upd st.tm t (.bool b) = st.tm := upd_eq hb
      cases b
      · have h3 : code P E inl H LH y { st with tm := upd st.tm t (.bool false) } κ = some r := h2
        rw [e0] at h3
        obtain ⟨ex, st1, hk, hle, hwp⟩ := code_sound hm hE hI y hL.2 st κ r h3
        exact ⟨ex, st1, hk, hle, fun g a w lo hlo hr => wp_cond_false (hv hr) (hwp g a w lo hlo hr)⟩
      · have h3 : code P E inl H LH x { st with tm := upd st.tm t (.bool true) } κ = some r := h2
        rw [e0] at h3
        obtain ⟨ex, st1, hk, hle, hwp⟩ := code_sound hm hE hI x hL.1 st κ r h3
        exact ⟨ex, st1, hk, hle, fun g a w lo hlo hr => wp_cond_true (hv hr) (hwp g a w lo hlo hr)⟩
    | const v =>
      cases v with
      | bool b =>
        cases b
        · obtain ⟨ex, st1, hk, hle, hwp⟩ := code_sound hm hE hI y hL.2 st κ r h
          exact ⟨ex, st1, hk, hle, fun g a w lo hlo hr => wp_cond_false rfl (hwp g a w lo hlo hr)⟩
        · obtain ⟨ex, st1, hk, hle, hwp⟩ := code_sound hm hE hI x hL.1 st κ r h
          exact ⟨ex, st1, hk, hle, fun g a w lo hlo hr => wp_cond_true rfl (hwp g a w lo hlo hr)⟩
      | _ => cases h
    | global _ => cases h
    | func _ => cases h
  | .block id c, hL => by
    intro st κ r h
    obtain ⟨ex, st1, hk, hle, hwp⟩ := code_sound hm hE hI c hL st _ r h
    cases ex with
    | normal =>
      refine ⟨_, st1, hk, hle, fun g a w lo hlo hr => wp_block (wp_mono (hwp g a w lo hlo hr) ?_)⟩
      rintro e a' w' ⟨he, g', hr', hg⟩
      cases e <;> cases he
      exact ⟨rfl, g', hr', hg⟩
    | exit i =>
      rcases br_some hk with ⟨hb, hk⟩ | ⟨hb, hk⟩
      · refine ⟨_, st1, hk, hle, fun g a w lo hlo hr => wp_block (wp_mono (hwp g a w lo hlo hr) ?_)⟩
        rintro e a' w' ⟨he, g', hr', hg⟩
        cases e <;> cases he
        simp only [Exit.inBlock]
        rw [if_pos (Nat.eq_of_beq_eq_true hb)]; exact ⟨rfl, g', hr', hg⟩
      · refine ⟨_, st1, hk, hle, fun g a w lo hlo hr => wp_block (wp_mono (hwp g a w lo hlo hr) ?_)⟩
        rintro e a' w' ⟨he, g', hr', hg⟩
        cases e <;> cases he
        simp only [Exit.inBlock]
        rw [if_neg (fun e => by rw [e, Nat.beq_refl] at hb; cases hb)]; exact ⟨rfl, g', hr', hg⟩
    | ret =>
      refine ⟨_, st1, hk, hle, fun g a w lo hlo hr => wp_block (wp_mono (hwp g a w lo hlo hr) ?_)⟩
      rintro e a' w' ⟨he, g', hr', hg⟩
      cases e <;> cases he
      exact ⟨rfl, g', hr', hg⟩
  | .loop body, hL => by
    intro st κ r h
    have h : (match LH (firstR body) with
      | some (.unroll n) => iterU (code P E inl H LH body) n st κ
      | some (.run f) => f st κ
      | none => none) = some r := h
    split at h
    · exact (iterU_round (code_sound hm hE hI body hL.2) _).loop st κ r h
    · rename_i f hf
      exact RoundOk.loop (hL.1 _ hf) st κ r h
    · cases h
  | .rangeFunc _ _ _ _, hL => fun st κ r h => by cases h
  | .exit id, hL => fun st κ r h => ⟨.exit id, st, h, Nat.le_refl _, fun g a w lo hlo hr => wp_exit ⟨rfl, g, hr, Goes.refl lo g st w⟩⟩
  | .scope _, hL => fun st κ r h => by cases h
  | .label l, hL => fun st κ r h => ⟨.normal, st, h, Nat.le_refl _, fun g a w lo hlo hr => wp_label ⟨rfl, g, hr, Goes.refl lo g st w⟩⟩
  | .goto _, hL => fun st κ r h => by cases h
  | .ret, hL => fun st κ r h => ⟨.ret, st, h, Nat.le_refl _, fun g a w lo hlo hr => wp_ret ⟨rfl, g, hr, Goes.refl lo g st w⟩⟩
  | .refuse _, hL => fun st κ r h => by cases h
end Go.VI
