/- An interpreter of the model's code on abstract values, proved right: part VIC. -/
import Derived.Test.YtiiiipdnodgkmaaVIB
import Derived.OpenShut
import Derived.ChangeArms
import Derived.SizedLaws
import Derived.ChangeSlices
import Derived.DataElems
import Derived.ChangeOld
import Derived.Carry
section
/- The code, and a function. -/
namespace Go.VI
set_option linter.unusedVariables false
set_option linter.unusedSimpArgs false
variable {R : Type} {P : Program}

/-- How the machine leaves code, and how the interpreter does. -/
def exOf : Exit → Option Ex
  | .normal => some .normal
  | .exit id => some (.exit id)
  | .ret => some .ret
  | _ => none

/-- What code comes to. -/
def EndsC (lo : Nat) (g : Gh) (st : St) (w : World) (x : Ex) (st' : St) : Exit → Act → World → Prop := fun e a' w' =>
  exOf e = some x ∧ ∃ g', Rel g' st' a' w' ∧ Goes lo g st w g' st' w'

/-- The interpreter is right about code. -/
def CodeOk (P : Program) (c : Code) (f : St → KC R → Option R) : Prop :=
  ∀ st κ r, f st κ = some r → ∃ x st', κ x st' = some r ∧ st.n ≤ st'.n ∧ ∀ (g : Gh) (a : Act) (w : World) (lo : Nat), lo ≤ st.n → Rel g st a w → c.wp P (EndsC lo g st w x st') a w

theorem EndsC.pre {lo : Nat} {g g1 : Gh} {st st1 st' : St} {x : Ex} {w w1 : World} {e : Exit} {a' : Act} {w' : World} (hg : Goes lo g st w g1 st1 w1) (hr : HRel g1 st1.hp w1) (h : EndsC lo g1 st1 w1 x st' e a' w') : EndsC lo g st w x st' e a' w' := by
  obtain ⟨h1, g', h3, h4⟩ := h
  exact ⟨h1, g', h3, hg.trans h4 hr⟩

/-- The same of a loop, from where a round begins. -/
def RoundOk (P : Program) (body : Code) (f : St → KC R → Option R) : Prop :=
  ∀ st κ r, f st κ = some r → ∃ x st', κ x st' = some r ∧ st.n ≤ st'.n ∧ ∀ (g : Gh) (a : Act) (w : World) (lo : Nat), lo ≤ st.n → Rel g st a w → ∀ (b : Frame) (k : List Item) (cs : List Frame),
    ∃ e a' w', EndsC lo g st w x st' e a' w' ∧ Arrives P (lone (b.at a (.code body :: .inLoop body :: k)) cs w) b k cs e a' w'
/-- A loop's entry is right about its body. -/
def LoopOk (P : Program) (body : Code) : LoopEntry R → Prop
  | .unroll _ => True
  | .run f => RoundOk P body f

theorem RoundOk.loop {body : Code} {f : St → KC R → Option R} (h : RoundOk P body f) : CodeOk P (.loop body) f := by
  intro st κ r hf
  obtain ⟨x, st', h1, h2, h3⟩ := h st κ r hf
  refine ⟨x, st', h1, h2, fun g a w lo hlo hr b k cs => ?_⟩
  obtain ⟨e, a', w', hq, harr⟩ := h3 g a w lo hlo hr b k cs
  exact ⟨e, a', w', hq, .of_steps (.one step_loop) harr⟩
/-- One round, and what comes behind it. -/
theorem round_sound {body : Code} {f rest : St → KC R → Option R} (hb : CodeOk P body f) {st : St} {κ : KC R} {r : R}
    (h : f st (fun e st' => match e with
      | .normal => rest st' κ
      | e => κ e st') = some r)
    (hrest : ∀ (st' : St), rest st' κ = some r → ∃ x st2, κ x st2 = some r ∧ st'.n ≤ st2.n ∧ ∀ (g : Gh) (a : Act) (w : World) (lo : Nat), lo ≤ st'.n → Rel g st' a w → ∀ (b : Frame) (k : List Item) (cs : List Frame), ∃ e a' w', EndsC lo g st' w x st2 e a' w' ∧ Arrives P (lone (b.at a (.code body :: .inLoop body :: k)) cs w) b k cs e a' w') :
    ∃ x st', κ x st' = some r ∧ st.n ≤ st'.n ∧ ∀ (g : Gh) (a : Act) (w : World) (lo : Nat), lo ≤ st.n → Rel g st a w → ∀ (b : Frame) (k : List Item) (cs : List Frame),
      ∃ e a' w', EndsC lo g st w x st' e a' w' ∧ Arrives P (lone (b.at a (.code body :: .inLoop body :: k)) cs w) b k cs e a' w' := by
  obtain ⟨x, st1, hk, hle, hwp⟩ := hb st _ r h
  cases x with
  | normal =>
    obtain ⟨x2, st2, h1, h2, h3⟩ := hrest st1 hk
    refine ⟨x2, st2, h1, Nat.le_trans hle h2, fun g a w lo hlo hr b k cs => ?_⟩
    obtain ⟨e, a', w', ⟨he, g', hr', hg⟩, harr⟩ := hwp g a w lo hlo hr b (.inLoop body :: k) cs
    cases e <;> cases he
    obtain ⟨e2, a2, w2, hq2, harr2⟩ := h3 g' a' w' lo (Nat.le_trans hlo hg.le) hr' b k cs
    exact ⟨e2, a2, w2, hq2.pre hg hr'.hp, .of_steps (Steps.trans harr (.one step_inLoop)) harr2⟩
  | exit i =>
    refine ⟨_, st1, hk, hle, fun g a w lo hlo hr b k cs => ?_⟩
    obtain ⟨e, a', w', ⟨he, g', hr', hg⟩, harr⟩ := hwp g a w lo hlo hr b (.inLoop body :: k) cs
    cases e <;> cases he
    exact ⟨_, a', w', ⟨rfl, g', hr', hg⟩, .pass (x := .inLoop body) rfl (fun _ _ => .inl (by simp)) harr⟩
  | ret =>
    refine ⟨_, st1, hk, hle, fun g a w lo hlo hr b k cs => ?_⟩
    obtain ⟨e, a', w', ⟨he, g', hr', hg⟩, harr⟩ := hwp g a w lo hlo hr b (.inLoop body :: k) cs
    cases e <;> cases he
    exact ⟨_, a', w', ⟨rfl, g', hr', hg⟩, .pass (x := .inLoop body) rfl (fun _ _ => .inl (by simp)) harr⟩
theorem iterU_round {body : Code} {f : St → KC R → Option R} (hb : CodeOk P body f) : ∀ n, RoundOk P body (iterU f n)
  | 0 => fun st κ r h => by cases h
  | n + 1 => fun st κ r h => round_sound (rest := iterU f n) hb h (fun st' hk => iterU_round hb n st' κ r hk)

/-- A block's entry is right. -/
def BlkOk (P : Program) (id : Nat) (c : Code) : LoopEntry R → Prop
  | .unroll _ => True
  | .run f => CodeOk P (.block id c) f
/-- What is asked of loops, loop by loop (and of blocks that are told by what they come to). -/
def LoopsOk (P : Program) (LH : Nat → Option (LoopEntry R)) : Code → Prop
  | .seq a b => LoopsOk P LH a ∧ LoopsOk P LH b
  | .cond _ a b => LoopsOk P LH a ∧ LoopsOk P LH b
  | .block id c => (∀ le, LH (1000000 + id) = some le → BlkOk P id c le) ∧ LoopsOk P LH c
  | .loop c => (∀ le, LH (firstR c) = some le → LoopOk P c le) ∧ LoopsOk P LH c
  | _ => True

theorem fz1_sound {s : Nat} {st : St} {κ : St → Option R} {r : R} (h : fz1 s st κ = some r) : ∃ st1, κ st1 = some r ∧ st1.n = st.n ∧ ∀ (g : Gh) (a : Act) (w : World) (lo : Nat), Rel g st a w → ∃ g1, Rel g1 st1 a w ∧ Goes lo g st w g1 st1 w := by
  have key : ∀ (v : AV) (D : List Nat), (∀ (g : Gh) (a : Act) (w : World), Rel g st a w → ∃ g', Ext g st.hp w D g' (dropB st.hp D) w ∧ HRel g' (dropB st.hp D) w ∧ RelV g' w v (a.tmps.getD s Go.undef) ∧ (∀ b, g.G b = .none → g'.G b ≠ .none → False)) →
      κ ⟨st.nt, upd st.tm s v, dropB st.hp D, st.n, D ++ st.dirty⟩ = some r → ∃ st1, κ st1 = some r ∧ st1.n = st.n ∧ ∀ (g : Gh) (a : Act) (w : World) (lo : Nat), Rel g st a w → ∃ g1, Rel g1 st1 a w ∧ Goes lo g st w g1 st1 w := by
    intro v D hv hk
    refine ⟨_, hk, rfl, fun g a w lo hr => ?_⟩
    obtain ⟨g2, e1, e2, e3, e4⟩ := hv g a w hr
    refine ⟨g2, ⟨fun i => ?_, hr.nt, hr.df, e2, fun b hb => ?_⟩, ⟨⟨D, rfl, e1⟩, fun b k1 k2 => (e4 b k1 k2).elim, Nat.le_refl _, rfl⟩⟩
    · by_cases e : i = s
      · subst e
        show RelV g2 w (upd st.tm i v i) _
        rw [upd_same]; exact e3
      · show RelV g2 w (upd st.tm s v i) _
        rw [upd_ne _ _ e]; exact (hr.tm i).step e1 hr.hp
    · by_cases hb' : g2.G b = .none
      · exact hb'
      · exact (e4 b (hr.fr b hb) hb').elim
  have stay : κ st = some r → ∃ st1, κ st1 = some r ∧ st1.n = st.n ∧ ∀ (g : Gh) (a : Act) (w : World) (lo : Nat), Rel g st a w → ∃ g1, Rel g1 st1 a w ∧ Goes lo g st w g1 st1 w :=
    fun h => ⟨st, h, rfl, fun g a w lo hr => ⟨g, hr, Goes.refl lo g st w⟩⟩
  unfold fz1 at h
  split at h
  · rename_i b i o k hv
    split at h
    · rename_i cs hb
      rcases br_some h with ⟨h1, h⟩ | ⟨_, h⟩
      · obtain ⟨h1, h2⟩ := and_spec h1
        cases Nat.eq_of_beq_eq_true h1; cases Nat.eq_of_beq_eq_true h2
        exact key _ _ (fun g a w hr => freezeB_went hr.hp hb (by have := hr.tm s; rw [hv] at this; exact this)) h
      · exact stay h
    · exact stay h
  · obtain ⟨ht, h⟩ := br_none h
    exact key _ _ (fun g a w hr => freeze_went hr.hp (hr.tm s) ht) h
theorem fzO_sound : ∀ {l : List Nat} {st : St} {κ : St → Option R} {r : R}, fzO l st κ = some r → ∃ st1, κ st1 = some r ∧ st1.n = st.n ∧ ∀ (g : Gh) (a : Act) (w : World) (lo : Nat), Rel g st a w → ∃ g1, Rel g1 st1 a w ∧ Goes lo g st w g1 st1 w
  | [], st, κ, r, h => ⟨st, h, rfl, fun g a w lo hr => ⟨g, hr, Goes.refl lo g st w⟩⟩
  | s :: l, st, κ, r, h => by
    obtain ⟨st1, h1, h2, h3⟩ := fz1_sound (show fz1 s st (fun st' => fzO l st' κ) = some r from h)
    obtain ⟨st2, k1, k2, k3⟩ := fzO_sound h1
    refine ⟨st2, k1, k2.trans h2, fun g a w lo hr => ?_⟩
    obtain ⟨g1, e1, e2⟩ := h3 g a w lo hr
    obtain ⟨g2, f1, f2⟩ := k3 g1 a w lo e1
    exact ⟨g2, f1, e2.trans f2 e1.hp⟩

theorem nbO_sound {k : Nat} {st : St} {κ : St → Option R} {r : R} (h : nbO k st κ = some r) : ∃ st1, κ st1 = some r ∧ st.n ≤ st1.n ∧ ∀ (g : Gh) (a : Act) (w : World) (lo : Nat), Rel g st a w → ∃ g1, Rel g1 st1 a w ∧ Goes lo g st w g1 st1 w := by
  unfold nbO at h
  rcases br_some h with ⟨_, h'⟩ | ⟨_, h'⟩ <;> clear h
  · exact ⟨st, h', Nat.le_refl _, fun g a w lo hr => ⟨g, hr, Goes.refl lo g st w⟩⟩
  · obtain ⟨hle, h⟩ := br_none h'
    have hle := Nat.le_of_ble_eq_true hle
    refine ⟨_, h, hle, fun g a w lo hr => ⟨g, ⟨hr.tm, hr.nt, hr.df, hr.hp, fun b hb => hr.fr b (Nat.le_trans hle hb)⟩, ?_⟩⟩
    have := Goes.refl lo g st w
    exact ⟨this.ext, this.new, hle, rfl⟩
theorem preO_sound {k : Nat} {l : List Nat} {st : St} {κ : St → Option R} {r : R} (h : (nbO k st fun st0 => fzO l st0 κ) = some r) : ∃ st1, κ st1 = some r ∧ st.n ≤ st1.n ∧ ∀ (g : Gh) (a : Act) (w : World) (lo : Nat), Rel g st a w → ∃ g1, Rel g1 st1 a w ∧ Goes lo g st w g1 st1 w := by
  obtain ⟨st0, h1, h2, h3⟩ := nbO_sound h
  obtain ⟨st1, k1, k2, k3⟩ := fzO_sound h1
  refine ⟨st1, k1, by rw [k2]; exact h2, fun g a w lo hr => ?_⟩
  obtain ⟨g0, q1, q2⟩ := h3 g a w lo hr
  obtain ⟨g1, r1, r2⟩ := k3 g0 a w lo q1
  exact ⟨g1, r1, q2.trans r2 q1.hp⟩
theorem code_sound {E : FuncId → Option Entry} {inl : Inl R} (hm : P.follows .mixedOrders = true) (hE : ∀ f e, E f = some e → Holds P f e) (hI : InlOk P inl) {H : Hints} {LH : Nat → Option (LoopEntry R)} :
    ∀ c : Code, LoopsOk P LH c → CodeOk P c (code P E inl H LH c)
  | .skip, hL => fun st κ r h => ⟨.normal, st, h, Nat.le_refl _, fun g a w lo hlo hr => wp_skip ⟨rfl, g, hr, Goes.refl lo g st w⟩⟩
  | .region id ops draw, hL => by
    intro st κ r h
    have h : (nbO (H.nb id) st fun st0 => fzO (H.fz id) st0 fun st1 => regionO P E inl H id ops.toList draw st1 κ) = some r := h
    obtain ⟨st1, h, hn, hfz⟩ := preO_sound h
    cases draw with
    | false =>
      obtain ⟨st', h1, h2, h3⟩ := region_seq hE hI h
      refine ⟨.normal, st', h1, Nat.le_trans hn h2, fun g a w lo hlo hr => ?_⟩
      obtain ⟨g1, hr1, hg1⟩ := hfz g a w lo hr
      have := h3 g1 a w (EndsC lo g1 st1 w .normal st') hr1 (fun a' w' g' h1 h2 => ⟨rfl, g', h1, h2.low (Nat.le_trans hlo hn)⟩)
      rw [Array.toArray_toList] at this
      exact wp_mono (wp_region this) fun e a' w' hq => hq.pre hg1 hr1.hp
    | true =>
      obtain ⟨st', h1, h2, h3⟩ := region_any hE hI h
      refine ⟨.normal, st', h1, Nat.le_trans hn h2, fun g a w lo hlo hr => ?_⟩
      obtain ⟨g1, hr1, hg1⟩ := hfz g a w lo hr
      have := h3 g1 a w (EndsC lo g1 st1 w .normal st') hr1 (fun a' w' g' h1 h2 => ⟨rfl, g', h1, h2.low (Nat.le_trans hlo hn)⟩)
      rw [Array.toArray_toList] at this
      exact wp_mono (wp_region_any hm this) fun e a' w' hq => hq.pre hg1 hr1.hp
  | .seq x y, hL => by
    intro st κ r h
    obtain ⟨ex, st1, hk, hle, hwp⟩ := code_sound hm hE hI x hL.1 st _ r h
    cases ex with
    | normal =>
      obtain ⟨x2, st2, h1, h2, h3⟩ := code_sound hm hE hI y hL.2 st1 κ r hk
      refine ⟨x2, st2, h1, Nat.le_trans hle h2, fun g a w lo hlo hr => wp_seq (wp_mono (hwp g a w lo hlo hr) ?_)⟩
      rintro e a' w' ⟨he, g', hr', hg⟩
      cases e <;> cases he
      exact wp_mono (h3 g' a' w' lo (Nat.le_trans hlo hle) hr') fun e a2 w2 hq => hq.pre hg hr'.hp
    | exit id =>
      refine ⟨_, st1, hk, hle, fun g a w lo hlo hr => wp_seq (wp_mono (hwp g a w lo hlo hr) ?_)⟩
      rintro e a' w' ⟨he, g', hr', hg⟩
      cases e <;> cases he
      exact ⟨rfl, g', hr', hg⟩
    | ret =>
      refine ⟨_, st1, hk, hle, fun g a w lo hlo hr => wp_seq (wp_mono (hwp g a w lo hlo hr) ?_)⟩
      rintro e a' w' ⟨he, g', hr', hg⟩
      cases e <;> cases he
      exact ⟨rfl, g', hr', hg⟩
  | .cond c x y, hL => by
    intro st κ r h
    cases c with
    | tmp t =>
      have h1 : ∀ z, st.tm t = z → (match z with
        | .bool b => br b (code P E inl H LH x { st with tm := upd st.tm t (.bool true) } κ) (code P E inl H LH y { st with tm := upd st.tm t (.bool false) } κ)
        | _ => none) = some r := fun z hz => by subst hz; exact h
      have h2 := h1 _ rfl
      split at h2 <;> try (cases h2; done)
      rename_i b hb
      have hv : ∀ {g : Gh} {a : Act} {w : World}, Rel g st a w → a.eval (.tmp t) = .bool b := by
        intro g a w hr
        have htm := hr.tm t
        rw [hb] at htm
        show a.tmps.getD t Go.undef = _
        generalize a.tmps.getD t Go.undef = v at htm
        cases htm; rfl
      have e0 : upd st.tm t (.bool b) = st.tm := upd_eq hb
      cases b
      · have h3 : code P E inl H LH y { st with tm := upd st.tm t (.bool false) } κ = some r := h2
        rw [e0] at h3
        obtain ⟨ex, st1, hk, hle, hwp⟩ := code_sound hm hE hI y hL.2 st κ r h3
        exact ⟨ex, st1, hk, hle, fun g a w lo hlo hr => wp_cond_false (hv hr) (hwp g a w lo hlo hr)⟩
      · have h3 : code P E inl H LH x { st with tm := upd st.tm t (.bool true) } κ = some r := h2
        rw [e0] at h3
        obtain ⟨ex, st1, hk, hle, hwp⟩ := code_sound hm hE hI x hL.1 st κ r h3
        exact ⟨ex, st1, hk, hle, fun g a w lo hlo hr => wp_cond_true (hv hr) (hwp g a w lo hlo hr)⟩
    | const v =>
      cases v with
      | bool b =>
        cases b
        · obtain ⟨ex, st1, hk, hle, hwp⟩ := code_sound hm hE hI y hL.2 st κ r h
          exact ⟨ex, st1, hk, hle, fun g a w lo hlo hr => wp_cond_false rfl (hwp g a w lo hlo hr)⟩
        · obtain ⟨ex, st1, hk, hle, hwp⟩ := code_sound hm hE hI x hL.1 st κ r h
          exact ⟨ex, st1, hk, hle, fun g a w lo hlo hr => wp_cond_true rfl (hwp g a w lo hlo hr)⟩
      | _ => cases h
    | global _ => cases h
    | func _ => cases h
  | .block id c, hL => by
    intro st κ r h
    have h : (match LH (1000000 + id) with
      | some (.run f) => f st κ
      | _ => code P E inl H LH c st fun e st' => match e with
        | .exit i => br (Nat.beq i id) (κ .normal st') (κ (.exit i) st')
        | e => κ e st') = some r := h
    split at h
    · rename_i f hf
      exact hL.1 _ hf st κ r h
    obtain ⟨ex, st1, hk, hle, hwp⟩ := code_sound hm hE hI c hL.2 st _ r h
    cases ex with
    | normal =>
      refine ⟨_, st1, hk, hle, fun g a w lo hlo hr => wp_block (wp_mono (hwp g a w lo hlo hr) ?_)⟩
      rintro e a' w' ⟨he, g', hr', hg⟩
      cases e <;> cases he
      exact ⟨rfl, g', hr', hg⟩
    | exit i =>
      rcases br_some hk with ⟨hb, hk⟩ | ⟨hb, hk⟩
      · refine ⟨_, st1, hk, hle, fun g a w lo hlo hr => wp_block (wp_mono (hwp g a w lo hlo hr) ?_)⟩
        rintro e a' w' ⟨he, g', hr', hg⟩
        cases e <;> cases he
        simp only [Exit.inBlock]
        rw [if_pos (Nat.eq_of_beq_eq_true hb)]; exact ⟨rfl, g', hr', hg⟩
      · refine ⟨_, st1, hk, hle, fun g a w lo hlo hr => wp_block (wp_mono (hwp g a w lo hlo hr) ?_)⟩
        rintro e a' w' ⟨he, g', hr', hg⟩
        cases e <;> cases he
        simp only [Exit.inBlock]
        rw [if_neg (fun e => by rw [e, Nat.beq_refl] at hb; cases hb)]; exact ⟨rfl, g', hr', hg⟩
    | ret =>
      refine ⟨_, st1, hk, hle, fun g a w lo hlo hr => wp_block (wp_mono (hwp g a w lo hlo hr) ?_)⟩
      rintro e a' w' ⟨he, g', hr', hg⟩
      cases e <;> cases he
      exact ⟨rfl, g', hr', hg⟩
  | .loop body, hL => by
    intro st κ r h
    have h : (match LH (firstR body) with
      | some (.unroll n) => iterU (code P E inl H LH body) n st κ
      | some (.run f) => f st κ
      | none => none) = some r := h
    split at h
    · exact (iterU_round (code_sound hm hE hI body hL.2) _).loop st κ r h
    · rename_i f hf
      exact RoundOk.loop (hL.1 _ hf) st κ r h
    · cases h
  | .rangeFunc _ _ _ _, hL => fun st κ r h => by cases h
  | .exit id, hL => fun st κ r h => ⟨.exit id, st, h, Nat.le_refl _, fun g a w lo hlo hr => wp_exit ⟨rfl, g, hr, Goes.refl lo g st w⟩⟩
  | .scope _, hL => fun st κ r h => by cases h
  | .label l, hL => fun st κ r h => ⟨.normal, st, h, Nat.le_refl _, fun g a w lo hlo hr => wp_label ⟨rfl, g, hr, Goes.refl lo g st w⟩⟩
  | .goto _, hL => fun st κ r h => by cases h
  | .ret, hL => fun st κ r h => ⟨.ret, st, h, Nat.le_refl _, fun g a w lo hlo hr => wp_ret ⟨rfl, g, hr, Goes.refl lo g st w⟩⟩
  | .refuse _, hL => fun st κ r h => by cases h
end Go.VI

end
section
/- Functions: walked calls, and contracts. -/
namespace Go.VI
set_option linter.unusedVariables false
set_option linter.unusedSimpArgs false
variable {R : Type} {P : Program}

/-- The loops of code, by their numbers. -/
def loopIds : Code → List Nat
  | .seq a b => loopIds a ++ loopIds b
  | .cond _ a b => loopIds a ++ loopIds b
  | .block id c => (1000000 + id) :: loopIds c
  | .loop c => firstR c :: loopIds c
  | _ => []
def loopAt : Code → Nat → Option Code
  | .seq a b, i => match loopAt a i with
    | some c => some c
    | none => loopAt b i
  | .cond _ a b, i => match loopAt a i with
    | some c => some c
    | none => loopAt b i
  | .block id c, i => br (Nat.beq (1000000 + id) i) (some c) (loopAt c i)
  | .loop c, i => br (Nat.beq (firstR c) i) (some c) (loopAt c i)
  | _, _ => none

theorem loopAt_none : ∀ {c : Code} {i : Nat}, i ∉ loopIds c → loopAt c i = none
  | .seq a b, i, h => by
    simp only [loopIds, List.mem_append, not_or] at h
    simp only [loopAt, loopAt_none h.1, loopAt_none h.2]
  | .cond _ a b, i, h => by
    simp only [loopIds, List.mem_append, not_or] at h
    simp only [loopAt, loopAt_none h.1, loopAt_none h.2]
  | .block id c, i, h => by
    simp only [loopIds, List.mem_cons, not_or] at h
    simp only [loopAt]
    rw [show Nat.beq (1000000 + id) i = false from by
      cases e : Nat.beq (1000000 + id) i with
      | false => rfl
      | true => exact absurd (Nat.eq_of_beq_eq_true e).symm h.1]
    exact loopAt_none h.2
  | .loop c, i, h => by
    simp only [loopIds, List.mem_cons, not_or] at h
    simp only [loopAt]
    rw [show Nat.beq (firstR c) i = false from by
      cases e : Nat.beq (firstR c) i with
      | false => rfl
      | true => exact absurd (Nat.eq_of_beq_eq_true e).symm h.1]
    exact loopAt_none h.2
  | .skip, _, _ => rfl
  | .region _ _ _, _, _ => rfl
  | .rangeFunc _ _ _ _, _, _ => rfl
  | .exit _, _, _ => rfl
  | .scope _, _, _ => rfl
  | .label _, _, _ => rfl
  | .goto _, _, _ => rfl
  | .ret, _, _ => rfl
  | .refuse _, _, _ => rfl

def noDup : List Nat → Bool
  | [] => true
  | a :: l => (!memN l a).and (noDup l)
theorem memN_iff {l : List Nat} {a : Nat} : memN l a = true ↔ a ∈ l := by
  unfold memN
  rw [List.any_eq_true]
  constructor
  · rintro ⟨x, hx, e⟩
    rw [Nat.eq_of_beq_eq_true e]; exact hx
  · intro h
    exact ⟨a, h, Nat.beq_refl a⟩
theorem noDup_app : ∀ {a b : List Nat}, noDup (a ++ b) = true → noDup a = true ∧ noDup b = true ∧ ∀ x ∈ a, x ∉ b
  | [], b, h => ⟨rfl, h, fun x h => by cases h⟩
  | x :: a, b, h => by
    obtain ⟨h1, h2⟩ := and_spec (show ((!memN (a ++ b) x).and (noDup (a ++ b))) = true from h)
    obtain ⟨h3, h4, h5⟩ := noDup_app h2
    have h1 : ¬ memN (a ++ b) x = true := by simpa using h1
    rw [memN_iff, List.mem_append, not_or] at h1
    refine ⟨?_, h4, fun y hy => ?_⟩
    · show ((!memN a x).and (noDup a)) = true
      have : memN a x = false := by
        cases e : memN a x with
        | false => rfl
        | true => exact absurd (memN_iff.1 e) h1.1
      rw [this, h3]; rfl
    · rcases List.mem_cons.1 hy with rfl | hy
      · exact h1.2
      · exact h5 y hy

theorem loopAt_mem : ∀ {c b : Code} {i : Nat}, loopAt c i = some b → i ∈ loopIds c
  | c, b, i, h => by
    by_cases hi : i ∈ loopIds c
    · exact hi
    · rw [loopAt_none hi] at h; cases h

/-- What is asked of an entry: of a loop's, or of a block's. -/
def EntOk (P : Program) (i : Nat) (b : Code) (le : LoopEntry R) : Prop := (i < 1000000 → LoopOk P b le) ∧ (1000000 ≤ i → BlkOk P (i - 1000000) b le)
/-- Loops' numbers are small. -/
def lowR : Code → Bool
  | .seq a b => (lowR a).and (lowR b)
  | .cond _ a b => (lowR a).and (lowR b)
  | .block _ c => lowR c
  | .loop c => (Nat.blt (firstR c) 1000000).and (lowR c)
  | _ => true
theorem loopsOk_of0 {LH : Nat → Option (LoopEntry R)} : ∀ {c : Code}, noDup (loopIds c) = true → lowR c = true → (∀ i b le, loopAt c i = some b → LH i = some le → EntOk P i b le) → LoopsOk P LH c
  | .seq a b, hn, hw, h => by
    obtain ⟨w1, w2⟩ := and_spec hw
    obtain ⟨h1, h2, h3⟩ := noDup_app hn
    refine ⟨loopsOk_of0 h1 w1 fun i x le hx => h i x le (by simp only [loopAt, hx]), loopsOk_of0 h2 w2 fun i x le hx => h i x le ?_⟩
    have : i ∉ loopIds a := fun hi => h3 i hi (loopAt_mem hx)
    simp only [loopAt, loopAt_none this, hx]
  | .cond _ a b, hn, hw, h => by
    obtain ⟨w1, w2⟩ := and_spec hw
    obtain ⟨h1, h2, h3⟩ := noDup_app hn
    refine ⟨loopsOk_of0 h1 w1 fun i x le hx => h i x le (by simp only [loopAt, hx]), loopsOk_of0 h2 w2 fun i x le hx => h i x le ?_⟩
    have : i ∉ loopIds a := fun hi => h3 i hi (loopAt_mem hx)
    simp only [loopAt, loopAt_none this, hx]
  | .block id c, hn, hw, h => by
    obtain ⟨h1, h2⟩ := and_spec (show ((!memN (loopIds c) (1000000 + id)).and (noDup (loopIds c))) = true from hn)
    have h1 : ¬ memN (loopIds c) (1000000 + id) = true := by simpa using h1
    rw [memN_iff] at h1
    refine ⟨fun le hl => ?_, loopsOk_of0 h2 (show lowR c = true from hw) fun i x le hx => h i x le ?_⟩
    · have := (h (1000000 + id) c le (by simp only [loopAt, show Nat.beq (1000000 + id) (1000000 + id) = true from Nat.beq_refl _]; rfl) hl).2 (by omega)
      rw [Nat.add_sub_cancel_left] at this
      exact this
    · simp only [loopAt]
      rw [show Nat.beq (1000000 + id) i = false from by
        cases e : Nat.beq (1000000 + id) i with
        | false => rfl
        | true => exact absurd ((Nat.eq_of_beq_eq_true e) ▸ loopAt_mem hx) h1]
      exact hx
  | .loop c, hn, hw, h => by
    obtain ⟨w1, w2⟩ := and_spec (show ((Nat.blt (firstR c) 1000000).and (lowR c)) = true from hw)
    have w1 : firstR c < 1000000 := Nat.le_of_ble_eq_true w1
    obtain ⟨h1, h2⟩ := and_spec (show ((!memN (loopIds c) (firstR c)).and (noDup (loopIds c))) = true from hn)
    have h1 : ¬ memN (loopIds c) (firstR c) = true := by simpa using h1
    rw [memN_iff] at h1
    refine ⟨fun le hl => (h (firstR c) c le ?_ hl).1 w1, loopsOk_of0 h2 w2 fun i x le hx => h i x le ?_⟩
    · simp only [loopAt, show Nat.beq (firstR c) (firstR c) = true from Nat.beq_refl _]; rfl
    · simp only [loopAt]
      rw [show Nat.beq (firstR c) i = false from by
        cases e : Nat.beq (firstR c) i with
        | false => rfl
        | true => exact absurd ((Nat.eq_of_beq_eq_true e) ▸ loopAt_mem hx) h1]
      exact hx
  | .skip, _, _, _ => trivial
  | .region _ _ _, _, _, _ => trivial
  | .rangeFunc _ _ _ _, _, _, _ => trivial
  | .exit _, _, _, _ => trivial
  | .scope _, _, _, _ => trivial
  | .label _, _, _, _ => trivial
  | .goto _, _, _, _ => trivial
  | .ret, _, _, _ => trivial
  | .refuse _, _, _, _ => trivial
theorem loopsOk_of {LH : Nat → Option (LoopEntry R)} {c : Code} (hn : ((noDup (loopIds c)).and (lowR c)) = true) (h : ∀ i b le, loopAt c i = some b → LH i = some le → EntOk P i b le) : LoopsOk P LH c :=
  loopsOk_of0 (and_spec hn).1 (and_spec hn).2 h

def resOne (tmps : Array Value) (x : ResultVar) : Sem Value :=
  match x with
  | .tmp t => pure (tmps.getD t Go.undef)
  | .cell c t => do loadVar t (← asAddr (tmps.getD c Go.undef))

theorem results_run {g : Gh} {st : St} {a : Act} {w : World} (hr : Rel g st a w) : ∀ {rs : List ResultVar} {vs : List AV}, resCells P st.tm st.hp rs = some vs →
    ∃ us, (rs.mapM (resOne a.tmps)).run P w = .ok us w ∧ RelVs g w vs us
  | [], vs, h => by cases h; exact ⟨[], rfl, .nil⟩
  | .tmp t :: rs, vs, h => by
    simp only [resCells] at h
    split at h <;> try (cases h; done)
    rename_i l hl
    cases h
    obtain ⟨us, h1, h2⟩ := results_run hr hl
    refine ⟨a.tmps.getD t Go.undef :: us, ?_, .cons (hr.tm t) h2⟩
    have h0 : (resOne a.tmps (.tmp t)).run P w = .ok (a.tmps.getD t Go.undef) w := rfl
    simp only [List.mapM_cons, Sem.run_bind, Sem.run_pure, Result.andThen_ok, h0, h1]
  | .cell c t :: rs, vs, h => by
    simp only [resCells] at h
    split at h <;> try (cases h; done)
    rename_i b o hc
    split at h <;> try (cases h; done)
    rename_i cs hb
    split at h <;> try (cases h; done)
    rename_i v hv
    split at h <;> try (cases h; done)
    rename_i l hl
    cases h
    obtain ⟨us, h1, h2⟩ := results_run hr hl
    have htm := hr.tm c
    rw [hc] at htm
    have hs : st.hp b ≠ .gone := by rw [hb]; exact fun h => by cases h
    have hG : g.G b = .box := by rw [hr.hp.kd b (fun e => hs e), hb]; rfl
    have hB := hr.hp.blk b
    rw [hb] at hB
    obtain ⟨r', c', ms, e, e1, e2, e3⟩ := hB
    cases hu : a.tmps.getD c Go.undef with
    | pointer p =>
      rw [hu] at htm
      cases htm with
      | ptr _ _ _ _ _ hn hp ha hbx hsi =>
        obtain ⟨r2, c2, f1, f2⟩ := hbx hG rfl
        rw [e1] at f1; cases f1; cases f2
        obtain ⟨u, g1, g2⟩ := partV_load (w := w) (ad := ⟨r', 0, none⟩) hv (fun j c hj => by
          obtain ⟨v', hv', hrv⟩ := e3.get hj
          rw [add_mk, cell_at e2, Nat.zero_add]
          rw [Array.getElem?_toList] at hv'
          exact ⟨v', hv', hrv⟩)
        rw [add_mk, Nat.zero_add] at g1
        refine ⟨u :: us, ?_, .cons g2 h2⟩
        have h0 : (resOne a.tmps (.cell c t)).run P w = .ok u w := by
          unfold resOne
          simp only [Sem.run_bind, hu, asAddr, Sem.run_pure, Result.andThen_ok, g1]
        simp only [List.mapM_cons, Sem.run_bind, Sem.run_pure, Result.andThen_ok, h0, h1]
    | _ => rw [hu] at htm; cases htm with | ptr _ _ _ _ _ hn hp => obtain ⟨ad, e⟩ := hp; cases e

theorem resV_of (us : Array Value) : (if h : us.size = 1 then us[0] else .tuple us) = resV us.toList := by
  obtain ⟨l⟩ := us
  match l with
  | [] => rfl
  | [a] => rfl
  | a :: b :: l => simp [resV]

theorem RelVs.getD {g : Gh} {w : World} : ∀ {a : List AV} {b : List Value}, RelVs g w a b → ∀ i : Nat, RelV g w ((a[i]?).getD .undef) ((b[i]?).getD Go.undef)
  | _, _, .nil, i => .undef _
  | _, _, .cons h1 h2, 0 => h1
  | _, _, .cons h1 h2, i + 1 => h2.getD i
theorem RelVs.len {g : Gh} {w : World} : ∀ {a : List AV} {b : List Value}, RelVs g w a b → b.length = a.length
  | _, _, .nil => rfl
  | _, _, .cons _ h => by simp [h.len]

theorem funO_sound {E : FuncId → Option Entry} {inl : Inl R} (hm : P.follows .mixedOrders = true) (hE : ∀ f e, E f = some e → Holds P f e) (hI : InlOk P inl) {H : Hints} {LH : Nat → Option (LoopEntry R)} {f : FuncId} {fn : Func} (hf : P.funcs[f]? = some fn)
    (hL : ∀ c, fn.body = some c → LoopsOk P LH c) {as : List AV} {Hp0 : Hp} {n : Nat} {κ : AV → Hp → Nat → List Nat → Option R} {r : R} (h : funO P E inl H LH fn as Hp0 n κ = some r) :
    ∃ v H' n' D, κ v H' n' D = some r ∧ n ≤ n' ∧ ∀ (g : Gh) (w : World) (us : List Value), HRel g Hp0 w → RelVs g w as us → (∀ b, n ≤ b → g.G b = .none) →
      Calls P f us.toArray w fun en w' => ∃ u, en = .returned u ∧ ∃ g', Went g Hp0 w (fun b => n ≤ b ∧ b < n') v H' D u w' g' := by
  unfold funO at h
  split at h
  case h_2 => cases h
  rename_i c hc
  obtain ⟨x, st', hk, hle, hwp⟩ := code_sound hm hE hI c (hL c hc) _ _ _ h
  have hk' : (∀ i, x ≠ .exit i) ∧ ∃ vs, resCells P st'.tm st'.hp fn.results.toList = some vs ∧ br H.keep (κ (resVal vs) st'.hp st'.n st'.dirty) (br (there st'.hp (resVal vs)) (κ (freezeV st'.hp (resVal vs)) (dropB st'.hp (frees (resVal vs))) st'.n (frees (resVal vs) ++ st'.dirty)) none) = some r := by
    cases x with
    | exit i => cases hk
    | normal =>
      simp only at hk
      split at hk <;> try (cases hk; done)
      rename_i vs hvs
      exact ⟨(fun i h => by cases h), vs, hvs, hk⟩
    | ret =>
      simp only at hk
      split at hk <;> try (cases hk; done)
      rename_i vs hvs
      exact ⟨(fun i h => by cases h), vs, hvs, hk⟩
  obtain ⟨hx, vs, hvs, hk⟩ := hk'
  have start : ∀ (g : Gh) (w : World) (us : List Value), HRel g Hp0 w → RelVs g w as us → (∀ b, n ≤ b → g.G b = .none) → ∀ (Q : Value → World → Prop),
      (∀ g' us' w' D, st'.dirty = D → Ext g Hp0 w D g' st'.hp w' → HRel g' st'.hp w' → RelVs g' w' vs us' → (∀ b, g.G b = .none → g'.G b ≠ .none → n ≤ b ∧ b < st'.n) → Q (resV us') w') →
      Calls P f us.toArray w fun en w' => ∃ u, en = .returned u ∧ Q u w' := by
    intro g w us hr hrel hn Q hQ
    have hlen : us.length = as.length := hrel.len
    refine calls_of_wp hf hc (wp_mono (hwp g _ w n (Nat.le_refl _) ⟨fun i => ?_, ?_, rfl, hr, hn⟩) ?_)
    · show RelV g w ((as[i]?).getD .undef) _
      by_cases hi : i < us.length
      · have := hrel.getD i
        rw [List.getElem?_eq_getElem hi] at this
        have e : (us.toArray ++ Array.replicate (fn.ntmps - us.toArray.size) Go.undef).getD i Go.undef = us[i] := by
          rw [Array.getD_eq_getD_getElem?, Array.getElem?_append_left (by simpa using hi)]
          simp [hi]
        rw [e]; exact this
      · rw [List.getElem?_eq_none (by omega)]; exact .undef _
    · show (us.toArray ++ Array.replicate (fn.ntmps - us.toArray.size) Go.undef).size = max as.length fn.ntmps
      simp; omega
    · rintro e a' w' ⟨he, g', hr', hg⟩
      obtain ⟨us', hu1, hu2⟩ := results_run hr' hvs
      have hrun : (results fn a'.tmps).run P w' = .ok (resV us') w' := by
        have e0 : (fun x => match x with
          | .tmp t => pure (a'.tmps.getD t Go.undef)
          | .cell c t => do loadVar t (← asAddr (a'.tmps.getD c Go.undef)) : ResultVar → Sem Value) = resOne a'.tmps := by
          funext x; cases x <;> rfl
        have e1 : results fn a'.tmps = (do
          let vs ← fn.results.mapM (resOne a'.tmps)
          pure (if h : vs.size = 1 then vs[0] else .tuple vs)) := by
          rw [← e0]; rfl
        rw [e1, Sem.run_bind, Array.mapM_eq_mapM_toList]
        simp only [Sem.run_map, hu1, Result.andThen_ok, Sem.run_pure]
        congr 1
        exact resV_of us'.toArray
      obtain ⟨D, hd1, hd2⟩ := hg.ext
      have hd1 : st'.dirty = D := by
        have : st'.dirty = D ++ [] := hd1
        rw [this, List.append_nil]
      have done := hQ g' us' w' D hd1 hd2 hr'.hp hu2 fun b h1 h2 => by
        refine ⟨hg.new b h1 h2, ?_⟩
        rcases Nat.lt_or_ge b st'.n with h | h
        · exact h
        · exact absurd (hr'.fr b h) h2
      cases e <;> simp only [exOf] at he <;> try (cases he; done)
      · exact ⟨hr'.df, _, hrun, _, rfl, done⟩
      · cases he; exact absurd rfl (hx _)
      · exact ⟨hr'.df, _, hrun, _, rfl, done⟩
  rcases br_some hk with ⟨_, hk⟩ | ⟨_, hk⟩
  · refine ⟨_, _, _, _, hk, hle, fun g w us hr hrel hn => ?_⟩
    refine start g w us hr hrel hn (fun u w' => ∃ g', Went g Hp0 w (fun b => n ≤ b ∧ b < st'.n) (resVal vs) st'.hp st'.dirty u w' g') fun g' us' w' D hD hx hr' hu hnew => ?_
    exact ⟨g', by rw [hD]; exact hx, hr', resVal_sound hu, hnew⟩
  · obtain ⟨hthere, hk⟩ := br_none hk
    refine ⟨_, _, _, _, hk, hle, fun g w us hr hrel hn => ?_⟩
    refine start g w us hr hrel hn (fun u w' => ∃ g', Went g Hp0 w (fun b => n ≤ b ∧ b < st'.n) (freezeV st'.hp (resVal vs)) (dropB st'.hp (frees (resVal vs))) (frees (resVal vs) ++ st'.dirty) u w' g') fun g' us' w' D hD hx hr' hu hnew => ?_
    obtain ⟨g2, f1, f2, f3, f4⟩ := freeze_went hr' (resVal_sound hu) hthere
    refine ⟨g2, by rw [hD]; exact hx.trans f1 hr', f2, f3, fun b h1 h2 => ?_⟩
    by_cases hb : g'.G b = .none
    · exact (f4 b hb h2).elim
    · exact hnew b h1 hb

theorem inlD_ok {E : FuncId → Option Entry} (hm : P.follows .mixedOrders = true) (hE : ∀ f e, E f = some e → Holds P f e) {HN : FuncId → Hints} {LH : FuncId → Nat → Option (LoopEntry R)}
    (hL : ∀ f fn c, P.funcs[f]? = some fn → fn.body = some c → LoopsOk P (LH f) c) : ∀ d, InlOk P (inlD P E HN LH d)
  | 0 => fun f as H n κ r h => by cases h
  | d + 1 => fun f as H n κ r h => by
    simp only [inlD] at h
    split at h
    case h_2 => cases h
    rename_i fn hf
    exact funO_sound hm hE (inlD_ok hm hE hL d) hf (fun c hc => hL f fn c hf hc) h

/-- Results, as typed values. -/
def decRes : (rs : List Ty) → AV → Option (Tup rs)
  | [t], v => match t.decV v with
    | some x => some (x, ())
    | none => none
  | rs, .tup vs => decArgs rs vs
  | _, _ => none
theorem decRes_sound {g : Gh} {w : World} : ∀ {rs : List Ty} {v : AV} {x : Tup rs} {u : Value}, decRes rs v = some x → RelV g w v u → ∃ us, u = resV us ∧ RelTs g.F w rs x us
  | [t], v, x, u, h, hv => by
    simp only [decRes] at h
    split at h <;> try (cases h; done)
    rename_i y hy
    cases h
    exact ⟨[u], rfl, .cons (decV_sound hy hv) .nil⟩
  | [], v, x, u, h, hv => by
    cases v <;> first | (simp [decRes] at h; done) | skip
    rename_i vs
    have h : decArgs [] vs = some x := h
    cases vs with
    | cons => cases h
    | nil => exact ⟨[], by rw [relV_tup0 hv]; rfl, by cases h; exact .nil⟩
  | t :: t' :: ts, v, x, u, h, hv => by
    cases v <;> first | (simp [decRes] at h; done) | skip
    rename_i vs
    have h : decArgs (t :: t' :: ts) vs = some x := h
    cases hv with
    | tup _ us f h1 h2 h3 =>
      have hrel : RelVs g w vs us.toList := RelVs.get (by simp [h1]) fun j x v a1 a2 => by
        have := h2 j x a1
        rw [Array.getElem?_toList, this] at a2
        cases a2; exact h3 j x a1
      have hts := decArgs_sound h hrel
      refine ⟨us.toList, ?_, hts⟩
      cases hl : us.toList with
      | nil => rw [hl] at hts; cases hts
      | cons a l =>
        cases l with
        | nil => rw [hl] at hts; cases hts with | cons _ h => cases h
        | cons b l =>
          show _ = Value.tuple (a :: b :: l).toArray
          rw [← hl]

theorem encArgs_rel {F : Nat → Prop} {w : World} {g : Gh} (hF : g.F = F) : ∀ {ts : List Ty} {x : Tup ts} {us : List Value}, RelTs F w ts x us → RelVs g w (encVals ts x) us
  | [], _, _, .nil => .nil
  | t :: ts, _, _, .cons h1 h2 => .cons (val_sound (by rw [hF]; exact h1)) (encArgs_rel hF h2)

/-- A contract, of a body's run. -/
theorem holds_of {ts rs : List Ty} {E : FuncId → Option Entry} {inl : Inl (Tup rs)} (hm : P.follows .mixedOrders = true) (hE : ∀ f e, E f = some e → Holds P f e) (hI : InlOk P inl) {H : Hints} {LH : Tup ts → Nat → Option (LoopEntry (Tup rs))} {f : FuncId} {fn : Func} (hf : P.funcs[f]? = some fn)
    {F : Tup ts → Option (Tup rs)} (hL : ∀ x c, fn.body = some c → LoopsOk P (LH x) c)
    (h : ∀ x y, F x = some y → funO P E inl H (LH x) fn (encVals ts x) (fun _ => .gone) 0 (fun v _ _ _ => decRes rs v) = some y) : Holds P f ⟨ts, rs, F⟩ := by
  intro F0 w us x y hF hts hy
  obtain ⟨v, H', n', D, hk, _, hc⟩ := funO_sound hm hE hI hf (hL x) (h x y hy)
  let g : Gh := ⟨F0, fun _ => none, fun _ => .none⟩
  have hr : HRel g (fun _ => .gone) w := ⟨fun _ => trivial, fun b h => (h rfl).elim, (fun b b' r c c' h1 => by cases h1), (fun b r c h1 => by cases h1), hF⟩
  refine (hc g w us hr (encArgs_rel rfl hts) (fun _ _ => rfl)).mono fun en w' ⟨u, hu, g', hw⟩ => ?_
  obtain ⟨vs, e1, e2⟩ := decRes_sound hk hw.val
  refine ⟨g'.F, vs, by rw [hu, e1], hw.ext.mono, fun r hr' => ?_, hw.rel.ex, hw.ext.size, fun r hlt => hw.ext.frame r hlt fun b _ hn => absurd rfl hn, hw.ext.env, e2⟩
  rcases hw.ext.more r hr' with h | ⟨b, _, hn, _⟩ | h
  · exact .inl h
  · exact absurd rfl hn
  · exact .inr h
end Go.VI

end
section
/- What can be read of a type has typed cells; rows. -/
namespace Go.VI
open Go.RowKit Go.ChangeShapes
set_option linter.unusedVariables false
set_option linter.unusedSimpArgs false
variable {P : Program} {t : TypeId}

/-- Numbers are of their kinds, lengths within the reach. -/
def Ty.wf : (t : Ty) → t.den → Prop
  | .int k, n => (Lit.int k n).wf = true
  | .bool, _ => True
  | .f64, _ => True
  | .str, s => s.size ≤ reachBytes
  | .slice t, l => l.length ≤ reachBytes ∧ ∀ x ∈ l, t.wf x
  | .pair a b, x => a.wf x.1 ∧ b.wf x.2
  | .agg t, x => t.wf x
  | .nil, _ => True

mutual
/-- A type of the program is typed data. -/
def tyOk (P : Program) : Nat → TypeId → Ty → Bool
  | 0, _, _ => false
  | d + 1, t, ty => match P.underlying t with
    | some .bool => ty.beq .bool && Nat.beq (P.cellsOf t) 1
    | some (.int k) => ty.beq (.int k) && Nat.beq (P.cellsOf t) 1
    | some .string => ty.beq .str && Nat.beq (P.cellsOf t) 1
    | some (.slice e) => match ty with
      | .slice u => Nat.beq (P.cellsOf t) 1 && (Nat.ble 1 u.size && (Nat.ble 1 (P.bytesOf e) && tyOk P d e u))
      | _ => false
    | some (.struct fs) => match ty with
      | .agg u => Nat.beq (P.cellsOf t) u.size && fsOk P d fs.toList 0 u
      | _ => false
    | some (.array n e) => match ty with
      | .agg u => Nat.beq (P.cellsOf t) u.size && elsOk P d e n u
      | _ => false
    | _ => false
termination_by structural d => d
def fsOk (P : Program) : Nat → List Field → Nat → Ty → Bool
  | 0, _, _, _ => false
  | d + 1, [f], off, u => Nat.beq f.offset off && tyOk P d f.type u
  | d + 1, f :: fs, off, .pair a b => Nat.beq f.offset off && (tyOk P d f.type a && fsOk P d fs (off + a.size) b)
  | _ + 1, _, _, _ => false
termination_by structural d => d
def elsOk (P : Program) : Nat → TypeId → Nat → Ty → Bool
  | 0, _, _, _ => false
  | d + 1, e, 1, u => tyOk P d e u
  | d + 1, e, n + 2, .pair a b => tyOk P d e a && elsOk P d e (n + 1) b
  | _ + 1, _, _, _ => false
termination_by structural d => d
end

/-- What can be read of type t is of ty. -/
structure OpensT (P : Program) (t : TypeId) (ty : Ty) : Prop where
  sz : P.cellsOf t = ty.size
  op : ∀ {H : Type} {enc : TypeId × Value → H} {W : World} {base : Nat} {spare : Nat → Bool} {held : Bool} {fuel : Nat} {cs : List Value} {x : DataW H × List MemPlace},
    DataW.trod enc P W base spare held fuel t cs = some x → (∀ n ∈ x.1.weights P t, n ≤ reachBytes) → ∃ y : ty.den, RelT (fun r => r < W.heap.size) W ty y cs ∧ ty.wf y
structure OpensFsT (P : Program) (fs : List Field) (off : Nat) (ty : Ty) : Prop where
  op : ∀ {H : Type} {enc : TypeId × Value → H} {W : World} {base : Nat} {spare : Nat → Bool} {held : Bool} {fuel : Nat} {cs : List Value} {xs : List (DataW H × List MemPlace)},
    cs.length = off + ty.size → xs.length = fs.length → (∀ (i : Nat) (f : Field), fs[i]? = some f → DataW.trod enc P W base spare held fuel f.type ((cs.drop f.offset).take (P.cellsOf f.type)) = xs[i]?) →
    (∀ n ∈ DataW.weightsEach P (fs.map (·.type)) (xs.map (·.1)), n ≤ reachBytes) → ∃ y : ty.den, RelT (fun r => r < W.heap.size) W ty y (cs.drop off) ∧ ty.wf y

structure OpensElT (P : Program) (e : TypeId) (n : Nat) (ty : Ty) : Prop where
  op : ∀ {H : Type} {enc : TypeId × Value → H} {W : World} {base : Nat} {spare : Nat → Bool} {held : Bool} {fuel : Nat} {cs : List Value} {xs : List (DataW H × List MemPlace)},
    cs.length = ty.size → xs.length = n → (∀ (i : Nat), i < n → DataW.trod enc P W base spare held fuel e ((cs.drop (i * P.cellsOf e)).take (P.cellsOf e)) = xs[i]?) →
    (∀ n ∈ DataW.weightsAll P e (xs.map (·.1)), n ≤ reachBytes) → ∃ y : ty.den, RelT (fun r => r < W.heap.size) W ty y cs ∧ ty.wf y

theorem choose_listT {α : Type} {Q : Nat → α → Prop} : ∀ n : Nat, (∀ i, i < n → ∃ y, Q i y) → ∃ l : List α, l.length = n ∧ ∀ i y, l[i]? = some y → Q i y
  | 0, _ => ⟨[], rfl, fun i y h => by simp at h⟩
  | n + 1, h => by
    obtain ⟨l, hl, hq⟩ := choose_listT n (fun i hi => h i (by omega))
    obtain ⟨y, hy⟩ := h n (by omega)
    refine ⟨l ++ [y], by simp [hl], fun i z hz => ?_⟩
    rcases Nat.lt_or_ge i l.length with hi | hi
    · rw [List.getElem?_append_left hi] at hz
      exact hq i z hz
    · have hi' : i = l.length := by
        have := (List.getElem?_eq_some_iff.1 hz).1
        simp at this
        omega
      subst hi'
      have : y = z := by simpa using hz
      subst this
      rw [hl]
      exact hy
theorem weights_mem_allT {H : Type} {e : TypeId} : ∀ {ds : List (DataW H)} {d : DataW H}, d ∈ ds → ∀ n ∈ d.weights P e, n ∈ DataW.weightsAll P e ds
  | d0 :: ds, d, h, n, hn => by
    simp only [DataW.weightsAll, List.mem_append]
    rcases List.mem_cons.1 h with rfl | h
    · exact .inl hn
    · exact .inr (weights_mem_allT h n hn)
theorem cell_lt {W : World} {a : Addr} {v : Value} (h : W.cell? a = some v) : a.block < W.heap.size := by
  unfold World.cell? at h
  cases e : W.heap[a.block]? with
  | none => rw [e] at h; cases h
  | some o => exact (Array.getElem?_eq_some_iff.1 e).1

mutual
theorem tyOk_opens : ∀ (d : Nat) (t : TypeId) (ty : Ty), tyOk P d t ty = true → OpensT P t ty
  | 0, t, ty, h => by simp [tyOk] at h
  | d + 1, t, ty, h => by
    unfold tyOk at h
    split at h
    · rename_i ht
      obtain ⟨h1, h2⟩ := and_spec h
      cases Ty.eq_of_beq h1
      exact ⟨Nat.eq_of_beq_eq_true h2, fun h _ => by
        obtain ⟨b, rfl, rfl⟩ := DataW.trod_bool ht h
        exact ⟨b, rfl, trivial⟩⟩
    · rename_i k ht
      obtain ⟨h1, h2⟩ := and_spec h
      cases Ty.eq_of_beq h1
      exact ⟨Nat.eq_of_beq_eq_true h2, fun h _ => by
        obtain ⟨n, rfl, rfl, hw⟩ := DataW.trod_int ht h
        exact ⟨n, rfl, hw⟩⟩
    · rename_i ht
      obtain ⟨h1, h2⟩ := and_spec h
      cases Ty.eq_of_beq h1
      exact ⟨Nat.eq_of_beq_eq_true h2, fun h hw => by
        obtain ⟨s, rfl, rfl, _⟩ := DataW.trod_string ht h
        refine ⟨s, rfl, ?_⟩
        have := hw s.data.toList.length (by simp [DataW.weights])
        rw [Array.length_toList] at this
        exact this⟩
    · rename_i e ht
      split at h <;> try (cases h; done)
      rename_i u
      obtain ⟨h1, h⟩ := and_spec h
      obtain ⟨h2, h⟩ := and_spec h
      obtain ⟨h3, h⟩ := and_spec h
      have he := tyOk_opens d e u h
      have h2 := Nat.le_of_ble_eq_true h2
      have h3 := Nat.le_of_ble_eq_true h3
      refine ⟨Nat.eq_of_beq_eq_true h1, fun {H enc W base spare held fuel cs x} h hw => ?_⟩
      rcases DataW.trod_slice ht h with ⟨rfl, rfl⟩ | ⟨a, len, cap, elems, rest, n, _, rfl, rfl, hb, hl, hm, hlen, hel, hsp, hns⟩
      · exact ⟨[], ⟨none, 0, rfl, Nat.le_refl _, fun i x hx => by simp at hx⟩, by show (0 : Nat) ≤ _ ∧ _; exact ⟨Nat.zero_le _, fun x hx => by cases hx⟩⟩
      · have one : ∀ i, i < len → ∃ y : u.den, ∃ c, c.length = u.size ∧ RelT (fun r => r < W.heap.size) W u y c ∧ u.wf y ∧ ∀ j v, c[j]? = some v → W.cell? (a.add (i * u.size + j)) = some v := by
          intro i hi
          have h1 := hel i hi
          have h2 : i < elems.length := by omega
          rw [List.getElem?_eq_getElem h2, Option.bind_eq_some_iff] at h1
          obtain ⟨c, hcs, hy⟩ := h1
          have hwz : ∀ m ∈ (elems[i].1).weights P e, m ≤ reachBytes := by
            intro m hm'
            refine hw m ?_
            simp only [DataW.weights, ht, List.mem_cons, List.mem_append]
            exact .inr (.inl (weights_mem_allT (List.mem_map.2 ⟨_, List.getElem_mem h2, rfl⟩) m hm'))
          obtain ⟨y, hK, hB⟩ := he.op hy hwz
          obtain ⟨_, hcl, hcell⟩ := World.cells?_some hcs
          refine ⟨y, c, hK.len, hK, hB, fun j v hv => ?_⟩
          have hj : j < P.cellsOf e := by
            have := (List.getElem?_eq_some_iff.1 hv).1
            omega
          have := hcell j hj
          rw [Addr.add_add, he.sz] at this
          rw [this, hv]
        obtain ⟨l, hll, hq⟩ := choose_listT len one
        refine ⟨l, ⟨some a, cap, by rw [hll], by omega, fun i y hy => ?_⟩, ?_, fun y hy => ?_⟩
        · obtain ⟨c, h1, h2', _, h3'⟩ := hq i y hy
          refine ⟨a, rfl, ?_, c, h2', h3'⟩
          have hc0 : c[0]? = some c[0] := List.getElem?_eq_getElem (by omega)
          have := cell_lt (h3' 0 _ hc0)
          rw [add_block] at this
          exact this
        · have h1 := hw ((elems.length + rest.length) * P.bytesOf e) (by simp [DataW.weights, ht])
          rw [hll, ← hlen]
          refine Nat.le_trans ?_ h1
          exact Nat.le_trans (Nat.le_add_right _ _) (Nat.le_mul_of_pos_right _ h3)
        · obtain ⟨i, hi⟩ := List.getElem?_of_mem hy
          obtain ⟨_, _, _, h3', _⟩ := hq i y hi
          exact h3'
    · rename_i fs ht
      split at h <;> try (cases h; done)
      rename_i u
      obtain ⟨h1, h⟩ := and_spec h
      have hf := fsOk_opens d fs.toList 0 u h
      have h1 := Nat.eq_of_beq_eq_true h1
      refine ⟨h1, fun {H enc W base spare held fuel cs x} hx hw => ?_⟩
      obtain ⟨xs, n, _, rfl, hl, hxl, hi⟩ := DataW.trod_struct ht hx
      obtain ⟨y, hK, hB⟩ := hf.op (cs := cs) (xs := xs) (by omega) (by simpa using hxl) (fun i f hf => hi i f (by simpa using hf)) (fun n hn => hw n (by simp only [DataW.weights, ht]; exact hn))
      exact ⟨y, hK, hB⟩
    · rename_i m e ht
      split at h <;> try (cases h; done)
      rename_i u
      obtain ⟨h1, h⟩ := and_spec h
      have hf := elsOk_opens d e m u h
      have h1 := Nat.eq_of_beq_eq_true h1
      refine ⟨h1, fun {H enc W base spare held fuel cs x} hx hw => ?_⟩
      obtain ⟨xs, n, _, rfl, hl, hxl, hi⟩ := DataW.trod_array ht hx
      obtain ⟨y, hK, hB⟩ := hf.op (cs := cs) (xs := xs) (by rw [hl, h1]) hxl hi (fun n hn => hw n (by simp only [DataW.weights, ht]; exact hn))
      exact ⟨y, hK, hB⟩
    · cases h
theorem fsOk_opens : ∀ (d : Nat) (fs : List Field) (off : Nat) (ty : Ty), fsOk P d fs off ty = true → OpensFsT P fs off ty
  | 0, fs, off, ty, h => by simp [fsOk] at h
  | d + 1, [], off, ty, h => by simp [fsOk] at h
  | d + 1, [f], off, u, h => by
    have h : (Nat.beq f.offset off && tyOk P d f.type u) = true := by simpa [fsOk] using h
    obtain ⟨h1, h2⟩ := and_spec h
    have ho := tyOk_opens d f.type u h2
    have hf : f.offset = off := Nat.eq_of_beq_eq_true h1
    refine ⟨fun {H enc W base spare held fuel cs xs} hl hx h1 hw => ?_⟩
    obtain ⟨x, rfl⟩ : ∃ x, xs = [x] := by
      match xs, hx with
      | [x], _ => exact ⟨x, rfl⟩
    have h2 := h1 0 f rfl
    rw [hf, ho.sz, List.take_of_length_le (by rw [List.length_drop]; omega)] at h2
    exact ho.op h2 (fun n hn => hw n (by simp only [List.map_cons, List.map_nil, DataW.weightsEach, List.append_nil]; exact hn))
  | d + 1, f :: f' :: fs', off, .pair a b, h => by
    have h : (Nat.beq f.offset off && (tyOk P d f.type a && fsOk P d (f' :: fs') (off + a.size) b)) = true := by simpa [fsOk] using h
    obtain ⟨h1, h⟩ := and_spec h
    obtain ⟨h2, h3⟩ := and_spec h
    have ho := tyOk_opens d f.type a h2
    have ho' := fsOk_opens d (f' :: fs') (off + a.size) b h3
    have hf : f.offset = off := Nat.eq_of_beq_eq_true h1
    refine ⟨fun {H enc W base spare held fuel cs xs} hl hx h1 hw => ?_⟩
    obtain ⟨x, ys, rfl⟩ : ∃ x ys, xs = x :: ys := by
      match xs, hx with
      | x :: ys, _ => exact ⟨x, ys, rfl⟩
    have hl' : cs.length = off + (a.size + b.size) := hl
    have h2 := h1 0 f rfl
    rw [hf, ho.sz] at h2
    obtain ⟨y, hK, hB⟩ := ho.op h2 (fun n hn => hw n (by simp only [List.map_cons, DataW.weightsEach, List.mem_append]; exact .inl hn))
    obtain ⟨z, hK', hB'⟩ := ho'.op (cs := cs) (xs := ys) (by omega) (by simpa using hx) (fun i g hg => h1 (i + 1) g hg) (fun n hn => hw n (by simp only [List.map_cons, DataW.weightsEach, List.mem_append]; exact .inr (by simpa using hn)))
    refine ⟨(y, z), ⟨_, _, ?_, hK, hK'⟩, hB, hB'⟩
    rw [← List.drop_drop, List.take_append_drop]
  | d + 1, _ :: _ :: _, off, .int _, h => by simp [fsOk] at h
  | d + 1, _ :: _ :: _, off, .bool, h => by simp [fsOk] at h
  | d + 1, _ :: _ :: _, off, .str, h => by simp [fsOk] at h
  | d + 1, _ :: _ :: _, off, .slice _, h => by simp [fsOk] at h
  | d + 1, _ :: _ :: _, off, .agg _, h => by simp [fsOk] at h
  | d + 1, _ :: _ :: _, off, .nil, h => by simp [fsOk] at h
theorem elsOk_opens : ∀ (d : Nat) (e : TypeId) (n : Nat) (ty : Ty), elsOk P d e n ty = true → OpensElT P e n ty
  | 0, e, n, ty, h => by simp [elsOk] at h
  | d + 1, e, 0, ty, h => by simp [elsOk] at h
  | d + 1, e, 1, u, h => by
    have h : tyOk P d e u = true := by simpa [elsOk] using h
    have ho := tyOk_opens d e u h
    refine ⟨fun {H enc W base spare held fuel cs xs} hl hx h1 hw => ?_⟩
    obtain ⟨x, rfl⟩ : ∃ x, xs = [x] := by
      match xs, hx with
      | [x], _ => exact ⟨x, rfl⟩
    have h2 := h1 0 (by omega)
    rw [Nat.zero_mul, List.drop_zero, ho.sz, List.take_of_length_le (by omega)] at h2
    exact ho.op h2 (fun n hn => hw n (by simp only [List.map_cons, List.map_nil, DataW.weightsAll, List.append_nil]; exact hn))
  | d + 1, e, n + 2, .pair a b, h => by
    have h : (tyOk P d e a && elsOk P d e (n + 1) b) = true := by simpa [elsOk] using h
    obtain ⟨h2, h3⟩ := and_spec h
    have ho := tyOk_opens d e a h2
    have ho' := elsOk_opens d e (n + 1) b h3
    refine ⟨fun {H enc W base spare held fuel cs xs} hl hx h1 hw => ?_⟩
    obtain ⟨x, ys, rfl⟩ : ∃ x ys, xs = x :: ys := by
      match xs, hx with
      | x :: ys, _ => exact ⟨x, ys, rfl⟩
    have hl' : cs.length = a.size + b.size := hl
    have h2 := h1 0 (by omega)
    rw [Nat.zero_mul, List.drop_zero, ho.sz] at h2
    obtain ⟨y, hK, hB⟩ := ho.op h2 (fun n hn => hw n (by simp only [List.map_cons, DataW.weightsAll, List.mem_append]; exact .inl hn))
    obtain ⟨z, hK', hB'⟩ := ho'.op (cs := cs.drop a.size) (xs := ys) (by rw [List.length_drop]; omega) (by simpa using hx) (fun i hi => by
      have := h1 (i + 1) (by omega)
      rw [Nat.succ_mul, Nat.add_comm, ← List.drop_drop, ho.sz] at this
      rw [ho.sz]
      simpa using this) (fun n hn => hw n (by simp only [List.map_cons, DataW.weightsAll, List.mem_append]; exact .inr (by simpa using hn)))
    exact ⟨(y, z), ⟨cs.take a.size, cs.drop a.size, (List.take_append_drop _ _).symm, hK, hK'⟩, hB, hB'⟩
  | d + 1, _, _ + 2, .int _, h => by simp [elsOk] at h
  | d + 1, _, _ + 2, .bool, h => by simp [elsOk] at h
  | d + 1, _, _ + 2, .str, h => by simp [elsOk] at h
  | d + 1, _, _ + 2, .slice _, h => by simp [elsOk] at h
  | d + 1, _, _ + 2, .agg _, h => by simp [elsOk] at h
  | d + 1, _, _ + 2, .nil, h => by simp [elsOk] at h
end

/-! ### Arguments -/

/-- Well-formed arguments. -/
def wfs : (ts : List Ty) → Tup ts → Prop
  | [], _ => True
  | t :: ts, x => t.wf x.1 ∧ wfs ts x.2
def argsOk (P : Program) (d : Nat) : List TypeId → List Ty → Bool
  | [], [] => true
  | t :: ts, u :: us => tyOk P d t u && argsOk P d ts us
  | _, _ => false
def rowsOk (P : Program) (ts : List TypeId) : Bool := ts.all fun t => P.readableRec t && Nat.blt t P.types.size

theorem relTV_of {F : Nat → Prop} {W : World} {d base : Nat} {r : Reach} {ty : Ty} {x : ty.den} {v : Value} (hok : tyOk P d t ty = true) (hv : Value.okWide P W r base t v) (h : RelT F W ty x v.cells.toList) : RelTV F W ty x v := by
  have one : ∀ {w : Value}, (∀ cs, w ≠ .agg cs) → w.cells = #[w] := fun {w} h => by cases w <;> first | rfl | exact absurd rfl (h _)
  cases d with
  | zero => simp [tyOk] at hok
  | succ d =>
    unfold tyOk at hok
    split at hok
    · rename_i ht
      obtain ⟨h1, _⟩ := and_spec hok
      cases Ty.eq_of_beq h1
      obtain ⟨b, rfl⟩ := Go.WideShapes.okWide_bool ht hv
      exact ⟨h, fun _ => rfl, fun h => by cases h⟩
    · rename_i k ht
      obtain ⟨h1, _⟩ := and_spec hok
      cases Ty.eq_of_beq h1
      obtain ⟨b, rfl⟩ := Go.WideShapes.okWide_int ht hv
      exact ⟨h, fun _ => rfl, fun h => by cases h⟩
    · rename_i ht
      obtain ⟨h1, _⟩ := and_spec hok
      cases Ty.eq_of_beq h1
      obtain ⟨b, rfl⟩ := Go.WideShapes.okWide_string ht hv
      exact ⟨h, fun _ => rfl, fun h => by cases h⟩
    · rename_i e ht
      split at hok <;> try (cases hok; done)
      obtain ⟨a, len, cap, rfl⟩ := Go.WideShapes.okWide_slice ht hv
      exact ⟨h, fun _ => rfl, fun h => by cases h⟩
    · rename_i fs ht
      split at hok <;> try (cases hok; done)
      simp only [Value.okWide, ht] at hv
      obtain ⟨cs, rfl, _⟩ := hv
      exact ⟨h, (fun h => by cases h), fun _ => rfl⟩
    · rename_i n e ht
      split at hok <;> try (cases hok; done)
      simp only [Value.okWide, ht] at hv
      obtain ⟨cs, rfl, _⟩ := hv
      exact ⟨h, (fun h => by cases h), fun _ => rfl⟩
    · cases hok

theorem weights_mem_eachT {H : Type} : ∀ {ts : List TypeId} {t : TypeId} {ds : List (DataW H)} {d : DataW H}, (DataW.weightsEach P (t :: ts) (d :: ds)) = d.weights P t ++ DataW.weightsEach P ts ds := fun {ts t ds d} => rfl

/-- Arguments that can be read are typed data. -/
theorem args_open {H : Type} {enc : TypeId × Value → H} {W : World} {base base' d : Nat} {r : Reach} {spare : Nat → Bool} {held : Bool} : ∀ {ts : List TypeId} {tys : List Ty} {vs : List Value} {ds : List (DataW H)} {ps : List MemPlace},
    argsOk P d ts tys = true → DataW.TrodAll enc P W base spare held ts vs ds ps → (∀ (j : Nat) t v, ts[j]? = some t → vs[j]? = some v → Value.okWide P W r base' t v) → (∀ n ∈ DataW.weightsEach P ts ds, n ≤ reachBytes) →
    ∃ x : Tup tys, RelTs (fun r => r < W.heap.size) W tys x vs ∧ wfs tys x
  | [], [], vs, ds, ps, h, hA, _, _ => by
    cases vs <;> cases ds <;> first | exact hA.elim | exact ⟨(), .nil, trivial⟩
  | t :: ts, u :: us, vs, ds, ps, h, hA, hv, hw => by
    obtain ⟨h1, h2⟩ := and_spec h
    obtain ⟨v, vs', d', ds', p, q, rfl, rfl, rfl, h0, r0⟩ := trodAll_cons hA
    obtain ⟨x, hx, hxw⟩ := args_open h2 r0 (fun j t v a b => hv (j + 1) t v (by simpa using a) (by simpa using b)) (fun n hn => hw n (by rw [weights_mem_eachT]; exact List.mem_append_right _ hn))
    obtain ⟨m, hm⟩ := h0
    obtain ⟨y, hy, hyw⟩ := (tyOk_opens d t u h1).op hm (fun n hn => hw n (by rw [weights_mem_eachT]; exact List.mem_append_left _ hn))
    exact ⟨(y, x), .cons (relTV_of h1 (hv 0 t v rfl rfl) hy) hx, hyw, hxw⟩
  | [], _ :: _, _, _, _, h, _, _, _ => by cases h
  | _ :: _, [], _, _, _, h, _, _, _ => by cases h

/-- Arguments read behind the call as they did. -/
theorem args_below {H : Type} {enc : TypeId × Value → H} {W W' : World} (hl : laidOutB P = true) (hb : Below W.heap.size W W') : ∀ {ts : List TypeId} {vs : List Value} {ds : List (DataW H)} {ps : List MemPlace}, rowsOk P ts = true →
    DataW.TrodAll enc P W 0 (fun _ => true) true ts vs ds ps → DataW.TrodAll enc P W' 0 (fun b => decide (b < W.heap.size)) true ts vs ds ps
  | [], vs, ds, ps, _, hA => by cases vs <;> cases ds <;> first | exact hA.elim | exact hA
  | t :: ts, vs, ds, ps, h, hA => by
    obtain ⟨h1, h2⟩ := and_spec (show ((P.readableRec t && Nat.blt t P.types.size) && rowsOk P ts) = true from h)
    obtain ⟨h3, h4⟩ := and_spec h1
    obtain ⟨v, vs', d, ds', p, q, rfl, rfl, rfl, h0, r0⟩ := trodAll_cons hA
    have lt : ∀ x ∈ p, x.block < W.heap.size := by obtain ⟨m, hm⟩ := h0; exact DataW.trod_lt m _ _ _ hm
    exact ⟨p, q, Below.trod hl h3 (Nat.le_of_ble_eq_true h4) h0 hb lt, args_below hl hb h2 r0, rfl⟩

/-- A law of which the contract says true. -/
theorem law_calls {f : FuncId} {tys : List Ty} {F : Tup tys → Option (Tup [.bool])} (h : Holds P f ⟨tys, [.bool], F⟩) {W : World} {vs : List Value} {x : Tup tys} (hx : RelTs (fun r => r < W.heap.size) W tys x vs) (hy : F x = some (true, ())) :
    Calls P f vs.toArray W fun en w' => en = .returned (.bool true) ∧ Below W.heap.size W w' := by
  refine (h (fun r => r < W.heap.size) W vs x (true, ()) (fun r h => h) hx hy).mono fun en w' hres => ?_
  obtain ⟨F', us, e1, _, _, _, e5, e6, e7, e8⟩ := hres
  refine ⟨?_, e7.os, e7.tape, e7.output, e5, e6⟩
  rw [e1]
  cases e8 with
  | cons h1 h2 =>
    cases h2
    rename_i u
    have ho := h1.one rfl
    have hr := h1.rel
    rw [ho] at hr
    cases (show [u] = [.bool true] from hr)
    rfl
end Go.VI

end
section
/- Loops: what a loop's head looks like; its rounds as a Lean function. -/
namespace Go.VI
set_option linter.unusedVariables false
set_option linter.unusedSimpArgs false
variable {R : Type} {P : Program}

/-- A slot, or a cell: data; the row in block b; something that stays; a closure over data; data that is read for good. -/
inductive Pat where
  | val (t : Ty)
  | own (b : Nat)
  | cst (v : AV)
  | clo (f : FuncId) (ts : List Ty)
  | cpt (t : Ty)
  | apt (b : Nat)
  | elt (b o : Nat)
/-- A block: a row of data; cells. -/
inductive BPat where
  | arr (t : Ty)
  | box (ps : List Pat)
  | siter
  | map (kt vt : Ty)

@[reducible] def denL : List Pat → Type
  | [] => Unit
  | .val t :: l => t.den × denL l
  | .own _ :: l => denL l
  | .cst _ :: l => denL l
  | .clo _ ts :: l => Tup ts × denL l
  | .cpt t :: l => t.den × denL l
  | .apt _ :: l => denL l
  | .elt _ _ :: l => Nat × denL l
@[reducible] def denS : List (Nat × Pat) → Type
  | [] => Unit
  | (_, .val t) :: l => t.den × denS l
  | (_, .own _) :: l => denS l
  | (_, .cst _) :: l => denS l
  | (_, .clo _ ts) :: l => Tup ts × denS l
  | (_, .cpt t) :: l => t.den × denS l
  | (_, .apt _) :: l => denS l
  | (_, .elt _ _) :: l => Nat × denS l
@[reducible] def denB : List (Nat × BPat) → Type
  | [] => Unit
  | (_, .arr t) :: l => List t.den × denB l
  | (_, .box ps) :: l => denL ps × denB l
  | (_, .siter) :: l => (ByteArray × Nat) × denB l
  | (_, .map kt vt) :: l => List (kt.den × vt.den) × denB l

/-- A closure over data that is read for good. -/
def cloCaps : (ts : List Ty) → Tup ts → List AV
  | [], _ => []
  | t :: ts, x => .cptr (t.enc x.1) :: cloCaps ts x.2
def cloAV (f : FuncId) (ts : List Ty) (x : Tup ts) : AV := .fn (.func f) [] (cloCaps ts x)
def decCaps : (ts : List Ty) → List AV → Option (Tup ts)
  | [], [] => some ()
  | [], _ :: _ => none
  | _ :: _, [] => none
  | t :: ts, c :: cs => match c with
    | .cptr ds => match t.dec ds with
      | some (x, []) => match decCaps ts cs with
        | some y => some (x, y)
        | none => none
      | _ => none
    | _ => none
def decClo (f : FuncId) (ts : List Ty) (v : AV) : Option (Tup ts) := match v with
  | .fn (.func g) [] cs => br (Nat.beq g f) (decCaps ts cs) none
  | _ => none

def decCpt (t : Ty) (v : AV) : Option t.den := match v with
  | .cptr ds => match t.dec ds with
    | some (x, []) => some x
    | _ => none
  | _ => none

def tmS (K : Nat) : (l : List (Nat × Pat)) → denS l → Nat → AV
  | [], _ => fun _ => .undef
  | (i, .val t) :: l, x => upd (tmS K l x.2) i (t.val x.1)
  | (i, .own b) :: l, x => upd (tmS K l x) i (.own b K)
  | (i, .cst v) :: l, x => upd (tmS K l x) i v
  | (i, .clo f ts) :: l, x => upd (tmS K l x.2) i (cloAV f ts x.1)
  | (i, .cpt t) :: l, x => upd (tmS K l x.2) i (.cptr (t.enc x.1))
  | (i, .apt b) :: l, x => upd (tmS K l x) i (.ptr b 0 0 K)
  | (i, .elt b o) :: l, x => upd (tmS K l x.2) i (.ptr b x.1 o K)
def encL (K : Nat) : (l : List Pat) → denL l → List AV
  | [], _ => []
  | .val t :: l, x => t.enc x.1 ++ encL K l x.2
  | .own b :: l, x => .own b K :: encL K l x
  | .cst v :: l, x => v :: encL K l x
  | .clo f ts :: l, x => cloAV f ts x.1 :: encL K l x.2
  | .cpt t :: l, x => .cptr (t.enc x.1) :: encL K l x.2
  | .apt b :: l, x => .ptr b 0 0 K :: encL K l x
  | .elt b o :: l, x => .ptr b x.1 o K :: encL K l x.2
def hpB (K : Nat) (H : Hp) : (l : List (Nat × BPat)) → denB l → Hp
  | [], _ => H
  | (b, .arr t) :: l, x => upd (hpB K H l x.2) b (.arr t x.1 K)
  | (b, .box ps) :: l, x => upd (hpB K H l x.2) b (.box (encL K ps x.1))
  | (b, .siter) :: l, x => upd (hpB K H l x.2) b (.siter x.1.1 x.1.2)
  | (b, .map kt vt) :: l, x => upd (hpB K H l x.2) b (.map kt vt x.1 K)

def genIs (H : Hp) (b k : Nat) : Bool := match H b with
  | .arr _ _ k' => Nat.beq k k'
  | _ => false
def ownIs (H : Hp) (b : Nat) (v : AV) : Bool := match v with
  | .own b' k => (Nat.beq b' b).and (genIs H b k)
  | _ => false
/-- A pointer to a whole row. -/
def aptIs (H : Hp) (b : Nat) (v : AV) : Bool := match v with
  | .ptr b' i o k => ((Nat.beq b' b).and ((Nat.beq i 0).and (Nat.beq o 0))).and (genIs H b k)
  | _ => false
/-- A pointer into an element of a row: which. -/
def decElt (H : Hp) (b o : Nat) (v : AV) : Option Nat := match v with
  | .ptr b' i o' k => br (((Nat.beq b' b).and (Nat.beq o' o)).and (genIs H b k)) (some i) none
  | _ => none
def avAll (f : AV → AV → Bool) : List AV → List AV → Bool
  | [], [] => true
  | a :: as, b :: bs => (f a b).and (avAll f as bs)
  | _, _ => false
/-- Are two values that say nothing of data the same? -/
def avEqD : Nat → AV → AV → Bool
  | 0, _, _ => false
  | d + 1, a, b => match a, b with
    | .ptr b i o g, .ptr b' i' o' g' => (Nat.beq b b').and ((Nat.beq i i').and ((Nat.beq o o').and (Nat.beq g g')))
    | .nilp, .nilp => true
    | .map b, .map b' => Nat.beq b b'
    | .nilmap, .nilmap => true
    | .nilfn, .nilfn => true
    | .nili, .nili => true
    | .nils, .nils => true
    | .fn (.func i) xs ys, .fn (.func j) xs' ys' => (Nat.beq i j).and ((avAll (avEqD d) xs xs').and (avAll (avEqD d) ys ys'))
    | .iface t v, .iface t' v' => (Nat.beq t t').and (avEqD d v v')
    | _, _ => false
def avEq (a b : AV) : Bool := avEqD 4 a b

def castM (a b c d : Ty) (l : List (a.den × b.den)) : Option (List (c.den × d.den)) :=
  match h : (a.beq c).and (b.beq d) with
  | true => some (Ty.eq_of_beq (and_spec h).1 ▸ Ty.eq_of_beq (and_spec h).2 ▸ l)
  | false => none

def decS (tm : Nat → AV) (H : Hp) : (l : List (Nat × Pat)) → Option (denS l)
  | [] => some ()
  | (i, .val t) :: l => match t.decV (tm i) with
    | some x => match decS tm H l with
      | some y => some (x, y)
      | none => none
    | none => none
  | (i, .own b) :: l => br (ownIs H b (tm i)) (decS tm H l) none
  | (i, .cst v) :: l => br (avEq v (tm i)) (decS tm H l) none
  | (i, .clo f ts) :: l => match decClo f ts (tm i) with
    | some x => match decS tm H l with
      | some y => some (x, y)
      | none => none
    | none => none
  | (i, .cpt t) :: l => match decCpt t (tm i) with
    | some x => match decS tm H l with
      | some y => some (x, y)
      | none => none
    | none => none
  | (i, .apt b) :: l => br (aptIs H b (tm i)) (decS tm H l) none
  | (i, .elt b o) :: l => match decElt H b o (tm i) with
    | some x => match decS tm H l with
      | some y => some (x, y)
      | none => none
    | none => none
def decL (H : Hp) : (l : List Pat) → List AV → Option (denL l)
  | [], [] => some ()
  | [], _ :: _ => none
  | .val t :: l, cs => match t.dec cs with
    | some (x, r) => match decL H l r with
      | some y => some (x, y)
      | none => none
    | none => none
  | .own b :: l, c :: cs => br (ownIs H b c) (decL H l cs) none
  | .cst v :: l, c :: cs => br (avEq v c) (decL H l cs) none
  | .clo f ts :: l, c :: cs => match decClo f ts c with
    | some x => match decL H l cs with
      | some y => some (x, y)
      | none => none
    | none => none
  | .cpt t :: l, c :: cs => match decCpt t c with
    | some x => match decL H l cs with
      | some y => some (x, y)
      | none => none
    | none => none
  | .apt b :: l, c :: cs => br (aptIs H b c) (decL H l cs) none
  | .elt b o :: l, c :: cs => match decElt H b o c with
    | some x => match decL H l cs with
      | some y => some (x, y)
      | none => none
    | none => none
  | .own _ :: _, [] => none
  | .cst _ :: _, [] => none
  | .clo _ _ :: _, [] => none
  | .cpt _ :: _, [] => none
  | .apt _ :: _, [] => none
  | .elt _ _ :: _, [] => none
def decB (H : Hp) : (l : List (Nat × BPat)) → Option (denB l)
  | [] => some ()
  | (b, .arr t) :: l => match H b with
    | .arr t' xs _ => match castL t' t xs with
      | some ys => match decB H l with
        | some y => some (ys, y)
        | none => none
      | none => none
    | _ => none
  | (b, .box ps) :: l => match H b with
    | .box cs => match decL H ps cs with
      | some z => match decB H l with
        | some y => some (z, y)
        | none => none
      | none => none
    | _ => none
  | (b, .siter) :: l => match H b with
    | .siter t p => match decB H l with
      | some y => some ((t, p), y)
      | none => none
    | _ => none
  | (b, .map kt vt) :: l => match H b with
    | .map kt' vt' es _ => match castM kt' vt' kt vt es with
      | some xs => match decB H l with
        | some y => some (xs, y)
        | none => none
      | none => none
    | _ => none

def isArr : List (Nat × BPat) → Nat → Bool
  | [], _ => false
  | (b, .arr _) :: l, i => br (Nat.beq i b) true (isArr l i)
  | (b, .box _) :: l, i => br (Nat.beq i b) false (isArr l i)
  | (b, .siter) :: l, i => br (Nat.beq i b) false (isArr l i)
  | (b, .map _ _) :: l, i => br (Nat.beq i b) true (isArr l i)
def cstOk (bl : List (Nat × BPat)) (n : Nat) : Nat → AV → Bool
  | 0, _ => false
  | d + 1, v => match v with
    | .ptr b _ _ _ => (Nat.blt b n).and (isArr bl b).not
    | .map b => Nat.blt b n
    | .fn _ xs ys => (xs.all (cstOk bl n d)).and (ys.all (cstOk bl n d))
    | .iface _ v => cstOk bl n d v
    | _ => true
/-- Patterns name rows that are listed, and nothing that a round makes. -/
def patOk (bl : List (Nat × BPat)) (n : Nat) : Pat → Bool
  | .val _ => true
  | .own b => isArr bl b
  | .cst v => cstOk bl n 4 v
  | .clo _ _ => true
  | .cpt _ => true
  | .apt b => isArr bl b
  | .elt b _ => isArr bl b
def blkOk (bl : List (Nat × BPat)) (n : Nat) : BPat → Bool
  | .arr _ => true
  | .box ps => ps.all (patOk bl n)
  | .siter => true
  | .map _ _ => true
/-- How listed blocks must stand at the loop's start. -/
def startOk (K : Nat) (H : Hp) : List (Nat × BPat) → Bool
  | [] => true
  | (b, .arr t) :: l => (match H b with
    | .arr t' _ k => (t'.beq t).and (Nat.blt k K)
    | _ => false).and (startOk K H l)
  | (b, .box _) :: l => (match H b with
    | .box _ => true
    | _ => false).and (startOk K H l)
  | (b, .siter) :: l => (match H b with
    | .siter _ _ => true
    | _ => false).and (startOk K H l)
  | (b, .map kt vt) :: l => (match H b with
    | .map kt' vt' _ k => ((kt'.beq kt).and (vt'.beq vt)).and (Nat.blt k K)
    | _ => false).and (startOk K H l)

/-- Where the number of a floating block is found: in a slot, or in a cell of a box. -/
inductive Root where
  | slot (i : Nat)
  | cell (b j : Nat)
/-- The block that goes by a number. -/
def lookN : List (Nat × Nat) → Nat → Nat
  | [], b => b
  | p :: l, b => br (Nat.beq b p.1) p.2 (lookN l b)
def backL : List (Nat × Nat) → Nat → Option Nat
  | [], _ => none
  | p :: l, b => br (Nat.beq b p.2) (some p.1) (backL l b)
/-- The number that a block goes by. -/
def backN (rho : List (Nat × Nat)) (b : Nat) : Option Nat := match backL rho b with
  | some c => some c
  | none => br (memN (rho.map (·.1)) b) none (some b)
def renB (rho : List (Nat × Nat)) (b : Nat) (f : Nat → AV) : AV := match backN rho b with
  | some c => f c
  | none => .undef
/-- A value with new numbers. -/
def renD (rho : List (Nat × Nat)) : Nat → AV → AV
  | 0, _ => .undef
  | d + 1, v => match v with
    | .own b g => renB rho b fun c => .own c g
    | .sref b off len g lim => renB rho b fun c => .sref c off len g lim
    | .ptr b i o g => renB rho b fun c => .ptr c i o g
    | .map b => renB rho b fun c => .map c
    | .stamp b i g => renB rho b fun c => .stamp c i g
    | .lits n sz cs => .lits n sz (cs.map (renD rho d))
    | .cptr cs => .cptr (cs.map (renD rho d))
    | .fn f xs ys => .fn f (xs.map (renD rho d)) (ys.map (renD rho d))
    | .iface t v => .iface t (renD rho d v)
    | .agg cs => .agg (cs.map (renD rho d))
    | .tup cs => .tup (cs.map (renD rho d))
    | v => v
def renBlk (rho : List (Nat × Nat)) : Blk → Blk
  | .box cs => .box (cs.map (renD rho 4))
  | x => x
def renH (rho : List (Nat × Nat)) (H : Hp) : Hp := fun b => br (memN (rho.map (·.1)) b) (renBlk rho (H (lookN rho b))) (br (memN (rho.map (·.2)) b) .gone (renBlk rho (H b)))
/-- A state with new numbers. -/
def renS (rho : List (Nat × Nat)) (st : St) : St := match rho with
  | [] => st
  | _ :: _ => ⟨st.nt, fun i => renD rho 4 (st.tm i), renH rho st.hp, st.n, st.dirty⟩
def numOf : AV → Option Nat
  | .own b _ => some b
  | .ptr b _ _ _ => some b
  | .map b => some b
  | _ => none
def findFl (tm : Nat → AV) (H : Hp) : List (Nat × Root) → List (Nat × Nat) → Option (List (Nat × Nat))
  | [], acc => some acc
  | (c, .slot i) :: l, acc => match numOf (tm i) with
    | some m => findFl tm H l ((c, m) :: acc)
    | none => none
  | (c, .cell b j) :: l, acc => match H (lookN acc b) with
    | .box cs => match cs[j]? with
      | some v => match numOf v with
        | some m => findFl tm H l ((c, m) :: acc)
        | none => none
      | none => none
    | _ => none

/-- A loop's head, and how it is left: by exit id, and by return; fl: blocks that float: from round to round another block may go by their numbers. -/
structure LoopP where
  K : Nat
  bl : List (Nat × BPat)
  sl : List (Nat × Pat)
  id : Nat
  s1 : List (Nat × Pat)
  s2 : List (Nat × Pat)
  fl : List (Nat × Root) := []

def fixedB (fl : List (Nat × Root)) (bl : List (Nat × BPat)) : List (Nat × BPat) := match fl with
  | [] => bl
  | _ :: _ => bl.filter fun p => !(memN (fl.map (·.1)) p.1)
def LoopP.ok (L : LoopP) (n : Nat) (H : Hp) : Bool :=
  ((L.bl.all fun p => (Nat.blt p.1 (n + L.fl.length)).and (blkOk L.bl (n + L.fl.length) p.2)).and (noDup (L.bl.map (·.1)))).and (startOk L.K H (fixedB L.fl L.bl)) |>.and
  ((L.sl.all fun p => patOk L.bl (n + L.fl.length) p.2).and ((L.s1.all fun p => patOk L.bl (n + L.fl.length) p.2).and (L.s2.all fun p => patOk L.bl (n + L.fl.length) p.2))) |>.and
  (L.fl.all fun p => (Nat.ble n p.1).and (memN (L.bl.map (·.1)) p.1))
/-- The floating blocks' numbers as they are. -/
def LoopP.rho (L : LoopP) (st : St) : Option (List (Nat × Nat)) := match L.fl with
  | [] => some []
  | _ :: _ => match findFl st.tm st.hp L.fl [] with
    | some rho => br ((noDup (rho.map (·.1))).and (noDup (rho.map (·.2)))) (some rho) none
    | none => none

def LoopP.st (L : LoopP) (nt n : Nat) (H : Hp) (d : List Nat) (sl : List (Nat × Pat)) (x : denS sl × denB L.bl) : St :=
  ⟨nt, tmS L.K sl x.1, hpB L.K H L.bl x.2, n, d⟩
def LoopP.dec0 (L : LoopP) (sl : List (Nat × Pat)) (st : St) : Option (denS sl × denB L.bl) := match decS st.tm st.hp sl with
  | some s => match decB st.hp L.bl with
    | some y => some (s, y)
    | none => none
  | none => none
def LoopP.dec (L : LoopP) (sl : List (Nat × Pat)) (st : St) : Option (denS sl × denB L.bl) := match L.rho st with
  | some rho => L.dec0 sl (renS rho st)
  | none => none
/-- The blocks that a loop takes over. -/
def LoopP.olds (L : LoopP) (st : St) : List Nat := match L.rho st with
  | some rho => rho.map (·.2)
  | none => []
abbrev LoopP.Out (L : LoopP) := Sum (denS L.s1 × denB L.bl) (denS L.s2 × denB L.bl)

/-- Rounds, m at the most. -/
noncomputable def LoopP.run (P : Program) (E : FuncId → Option Entry) (L : LoopP) (inl : Inl L.Out) (H : Hints) (LH : Nat → Option (LoopEntry L.Out)) (body : Code) (nt n : Nat) : Nat → denS L.sl × denB L.bl → Option L.Out
  | 0, _ => none
  | m + 1, x => code P E inl H LH body (L.st nt n (fun _ => .gone) [] L.sl x) fun e st' => match e with
    | .normal => match L.dec L.sl st' with
      | some x' => LoopP.run P E L inl H LH body nt n m x'
      | none => none
    | .exit i => br (Nat.beq i L.id) (match L.dec L.s1 st' with
      | some y => some (.inl y)
      | none => none) none
    | .ret => match L.dec L.s2 st' with
      | some y => some (.inr y)
      | none => none

/-- One round, and what comes behind it. -/
noncomputable def LoopP.step (P : Program) (E : FuncId → Option Entry) (L : LoopP) (inl : Inl L.Out) (H : Hints) (LH : Nat → Option (LoopEntry L.Out)) (body : Code) (nt n : Nat) (k : denS L.sl × denB L.bl → Option L.Out) (x : denS L.sl × denB L.bl) : Option L.Out :=
  code P E inl H LH body (L.st nt n (fun _ => .gone) [] L.sl x) fun e st' => match e with
    | .normal => match L.dec L.sl st' with
      | some x' => k x'
      | none => none
    | .exit i => br (Nat.beq i L.id) (match L.dec L.s1 st' with
      | some y => some (.inl y)
      | none => none) none
    | .ret => match L.dec L.s2 st' with
      | some y => some (.inr y)
      | none => none
theorem LoopP.run_succ (P : Program) (E : FuncId → Option Entry) (L : LoopP) (inl : Inl L.Out) (H : Hints) (LH : Nat → Option (LoopEntry L.Out)) (body : Code) (nt n m : Nat) (x : denS L.sl × denB L.bl) :
    LoopP.run P E L inl H LH body nt n (m + 1) x = LoopP.step P E L inl H LH body nt n (LoopP.run P E L inl H LH body nt n m) x := rfl

/-- A loop's entry. -/
noncomputable def LoopP.entry (P : Program) (E : FuncId → Option Entry) (L : LoopP) (inl : Inl L.Out) (H : Hints) (LH : Nat → Option (LoopEntry L.Out)) (body : Code) (N : Nat) : LoopEntry R :=
  .run fun st κ => br (L.ok st.n st.hp) (match L.dec L.sl st with
    | some x => match LoopP.run P E L inl H LH body st.nt (st.n + L.fl.length) N x with
      | some (.inl y) => κ (.exit L.id) (L.st st.nt (st.n + L.fl.length) (dropB st.hp (L.olds st)) ((L.olds st ++ L.bl.map (·.1)) ++ st.dirty) L.s1 y)
      | some (.inr y) => κ .ret (L.st st.nt (st.n + L.fl.length) (dropB st.hp (L.olds st)) ((L.olds st ++ L.bl.map (·.1)) ++ st.dirty) L.s2 y)
      | none => none
    | none => none) none
end Go.VI

end
section
/- Loops: from one head to the next one. -/
namespace Go.VI
set_option linter.unusedVariables false
set_option linter.unusedSimpArgs false
variable {R : Type} {P : Program}

theorem isArr_mem : ∀ {bl : List (Nat × BPat)} {b : Nat}, isArr bl b = true → b ∈ bl.map (·.1)
  | [], _, h => by cases h
  | (c, .arr t) :: l, b, h => by
    rcases br_some' h with ⟨h1, _⟩ | ⟨_, h2⟩
    · rw [Nat.eq_of_beq_eq_true h1]; exact List.mem_cons_self
    · exact List.mem_cons_of_mem _ (isArr_mem h2)
  | (c, .box ps) :: l, b, h => by
    rcases br_some' h with ⟨_, h1⟩ | ⟨_, h2⟩
    · cases h1
    · exact List.mem_cons_of_mem _ (isArr_mem h2)
  | (c, .siter) :: l, b, h => by
    rcases br_some' h with ⟨_, h1⟩ | ⟨_, h2⟩
    · cases h1
    · exact List.mem_cons_of_mem _ (isArr_mem h2)
  | (c, .map _ _) :: l, b, h => by
    rcases br_some' h with ⟨h1, _⟩ | ⟨_, h2⟩
    · rw [Nat.eq_of_beq_eq_true h1]; exact List.mem_cons_self
    · exact List.mem_cons_of_mem _ (isArr_mem h2)
where
  br_some' {b x y : Bool} (h : br b x y = true) : (b = true ∧ x = true) ∨ (b = false ∧ y = true) := by cases b <;> simp_all [br]

theorem castL_spec {a b : Ty} {l : List a.den} {m : List b.den} (h : castL a b l = some m) : ∃ e : a = b, m = e ▸ l := by
  unfold castL at h
  split at h
  · rename_i e
    cases h
    exact ⟨Ty.eq_of_beq e, rfl⟩
  · cases h

theorem castM_spec {a b c d : Ty} {l : List (a.den × b.den)} {m : List (c.den × d.den)} (h : castM a b c d l = some m) : ∃ (e : a = c) (e' : b = d), m = e ▸ e' ▸ l := by
  unfold castM at h
  split at h
  · rename_i e
    cases h
    exact ⟨Ty.eq_of_beq (and_spec e).1, Ty.eq_of_beq (and_spec e).2, rfl⟩
  · cases h

theorem lookB {H1 H : Hp} {K : Nat} : ∀ {bl : List (Nat × BPat)} {y : denB bl}, decB H1 bl = some y → ∀ b, (b ∉ bl.map (·.1) ∧ isArr bl b = false ∧ hpB K H bl y b = H b) ∨
    (b ∈ bl.map (·.1) ∧ isArr bl b = true ∧ ∃ t l k, H1 b = .arr t l k ∧ hpB K H bl y b = .arr t l K) ∨
    (b ∈ bl.map (·.1) ∧ isArr bl b = false ∧ ∃ ps cs z, (b, BPat.box ps) ∈ bl ∧ H1 b = .box cs ∧ decL H1 ps cs = some z ∧ hpB K H bl y b = .box (encL K ps z)) ∨
    (b ∈ bl.map (·.1) ∧ isArr bl b = false ∧ ∃ s p, H1 b = .siter s p ∧ hpB K H bl y b = .siter s p) ∨
    (b ∈ bl.map (·.1) ∧ isArr bl b = true ∧ ∃ kt vt es k, H1 b = .map kt vt es k ∧ hpB K H bl y b = .map kt vt es K)
  | [], y, h, b => .inl ⟨by simp, rfl, rfl⟩
  | (c, .arr t) :: l, y, h, b => by
    simp only [decB] at h
    split at h <;> try (cases h; done)
    rename_i t' xs k hc
    split at h <;> try (cases h; done)
    rename_i ys hys
    split at h <;> try (cases h; done)
    rename_i y' hy'
    cases h
    obtain ⟨e, he⟩ := castL_spec hys
    subst e
    have he : ys = xs := he
    subst he
    by_cases hb : b = c
    · subst hb
      refine .inr (.inl ⟨List.mem_cons_self, ?_, t', ys, k, hc, ?_⟩)
      · show br (Nat.beq b b) true _ = true
        rw [Nat.beq_refl]; rfl
      · exact upd_same _ _ _
    · have hf : Nat.beq b c = false := by
        cases e : Nat.beq b c with
        | false => rfl
        | true => exact absurd (Nat.eq_of_beq_eq_true e) hb
      have e1 : isArr ((c, .arr t') :: l) b = isArr l b := by
        show br (Nat.beq b c) true _ = _
        rw [hf]; rfl
      have e2 : hpB K H ((c, .arr t') :: l) (ys, y') b = hpB K H l y' b := upd_ne _ _ hb
      have e3 : b ∈ ((c, BPat.arr t') :: l).map (·.1) ↔ b ∈ l.map (·.1) := by simp [hb]
      rw [e1, e2, e3]
      rcases lookB (H := H) (K := K) hy' b with h | h | ⟨h1, h2, ps, cs, z, h3, h4⟩ | h | h
      · exact .inl h
      · exact .inr (.inl h)
      · exact .inr (.inr (.inl ⟨h1, h2, ps, cs, z, List.mem_cons_of_mem _ h3, h4⟩))
      · exact .inr (.inr (.inr (.inl h)))
      · exact .inr (.inr (.inr (.inr h)))
  | (c, .box ps) :: l, y, h, b => by
    simp only [decB] at h
    split at h <;> try (cases h; done)
    rename_i cs hc
    split at h <;> try (cases h; done)
    rename_i z hz
    split at h <;> try (cases h; done)
    rename_i y' hy'
    cases h
    by_cases hb : b = c
    · subst hb
      refine .inr (.inr (.inl ⟨List.mem_cons_self, ?_, ps, cs, z, List.mem_cons_self, hc, hz, ?_⟩))
      · show br (Nat.beq b b) false _ = false
        rw [Nat.beq_refl]; rfl
      · exact upd_same _ _ _
    · have hf : Nat.beq b c = false := by
        cases e : Nat.beq b c with
        | false => rfl
        | true => exact absurd (Nat.eq_of_beq_eq_true e) hb
      have e1 : isArr ((c, .box ps) :: l) b = isArr l b := by
        show br (Nat.beq b c) false _ = _
        rw [hf]; rfl
      have e2 : hpB K H ((c, .box ps) :: l) (z, y') b = hpB K H l y' b := upd_ne _ _ hb
      have e3 : b ∈ ((c, BPat.box ps) :: l).map (·.1) ↔ b ∈ l.map (·.1) := by simp [hb]
      rw [e1, e2, e3]
      rcases lookB (H := H) (K := K) hy' b with h | h | ⟨h1, h2, ps', cs', z', h3, h4⟩ | h | h
      · exact .inl h
      · exact .inr (.inl h)
      · exact .inr (.inr (.inl ⟨h1, h2, ps', cs', z', List.mem_cons_of_mem _ h3, h4⟩))
      · exact .inr (.inr (.inr (.inl h)))
      · exact .inr (.inr (.inr (.inr h)))
  | (c, .siter) :: l, y, h, b => by
    simp only [decB] at h
    split at h <;> try (cases h; done)
    rename_i s p hc
    split at h <;> try (cases h; done)
    rename_i y' hy'
    cases h
    by_cases hb : b = c
    · subst hb
      refine .inr (.inr (.inr (.inl ⟨List.mem_cons_self, ?_, s, p, hc, ?_⟩)))
      · show br (Nat.beq b b) false _ = false
        rw [Nat.beq_refl]; rfl
      · exact upd_same _ _ _
    · have hf : Nat.beq b c = false := by
        cases e : Nat.beq b c with
        | false => rfl
        | true => exact absurd (Nat.eq_of_beq_eq_true e) hb
      have e1 : isArr ((c, .siter) :: l) b = isArr l b := by
        show br (Nat.beq b c) false _ = _
        rw [hf]; rfl
      have e2 : hpB K H ((c, .siter) :: l) ((s, p), y') b = hpB K H l y' b := upd_ne _ _ hb
      have e3 : b ∈ ((c, BPat.siter) :: l).map (·.1) ↔ b ∈ l.map (·.1) := by simp [hb]
      rw [e1, e2, e3]
      rcases lookB (H := H) (K := K) hy' b with h | h | ⟨h1, h2, ps', cs', z', h3, h4⟩ | h | h
      · exact .inl h
      · exact .inr (.inl h)
      · exact .inr (.inr (.inl ⟨h1, h2, ps', cs', z', List.mem_cons_of_mem _ h3, h4⟩))
      · exact .inr (.inr (.inr (.inl h)))
      · exact .inr (.inr (.inr (.inr h)))
  | (c, .map kt vt) :: l, y, h, b => by
    simp only [decB] at h
    split at h <;> try (cases h; done)
    rename_i kt' vt' xs k hc
    split at h <;> try (cases h; done)
    rename_i ys hys
    split at h <;> try (cases h; done)
    rename_i y' hy'
    cases h
    obtain ⟨e, e', he⟩ := castM_spec hys
    subst e e'
    have he : ys = xs := he
    subst he
    by_cases hb : b = c
    · subst hb
      refine .inr (.inr (.inr (.inr ⟨List.mem_cons_self, ?_, kt', vt', ys, k, hc, ?_⟩)))
      · show br (Nat.beq b b) true _ = true
        rw [Nat.beq_refl]; rfl
      · exact upd_same _ _ _
    · have hf : Nat.beq b c = false := by
        cases e : Nat.beq b c with
        | false => rfl
        | true => exact absurd (Nat.eq_of_beq_eq_true e) hb
      have e1 : isArr ((c, .map kt' vt') :: l) b = isArr l b := by
        show br (Nat.beq b c) true _ = _
        rw [hf]; rfl
      have e2 : hpB K H ((c, .map kt' vt') :: l) (ys, y') b = hpB K H l y' b := upd_ne _ _ hb
      have e3 : b ∈ ((c, BPat.map kt' vt') :: l).map (·.1) ↔ b ∈ l.map (·.1) := by simp [hb]
      rw [e1, e2, e3]
      rcases lookB (H := H) (K := K) hy' b with h | h | ⟨h1, h2, ps, cs, z, h3, h4⟩ | h | h
      · exact .inl h
      · exact .inr (.inl h)
      · exact .inr (.inr (.inl ⟨h1, h2, ps, cs, z, List.mem_cons_of_mem _ h3, h4⟩))
      · exact .inr (.inr (.inr (.inl h)))
      · exact .inr (.inr (.inr (.inr h)))

theorem startLook {K : Nat} {H : Hp} : ∀ {bl : List (Nat × BPat)}, startOk K H bl = true → ∀ b, b ∈ bl.map (·.1) → (isArr bl b = true ∧ ∃ t l k, H b = .arr t l k ∧ k < K) ∨ (isArr bl b = false ∧ ∃ cs, H b = .box cs) ∨ (isArr bl b = false ∧ ∃ s p, H b = .siter s p) ∨ (isArr bl b = true ∧ ∃ kt vt es k, H b = .map kt vt es k ∧ k < K)
  | [], _, b, hb => by simp at hb
  | (c, .arr t) :: l, h, b, hb => by
    obtain ⟨h1, h2⟩ := and_spec h
    by_cases e : b = c
    · subst e
      left
      refine ⟨by show br (Nat.beq b b) true _ = true; rw [Nat.beq_refl]; rfl, ?_⟩
      split at h1
      · rename_i t' l' k hc
        exact ⟨_, _, _, hc, Nat.le_of_ble_eq_true (and_spec h1).2⟩
      · cases h1
    · have hf : Nat.beq b c = false := by
        cases e' : Nat.beq b c with
        | false => rfl
        | true => exact absurd (Nat.eq_of_beq_eq_true e') e
      have e1 : isArr ((c, .arr t) :: l) b = isArr l b := by
        show br (Nat.beq b c) true _ = _
        rw [hf]; rfl
      rw [e1]
      exact startLook h2 b (by simpa [e] using hb)
  | (c, .box ps) :: l, h, b, hb => by
    obtain ⟨h1, h2⟩ := and_spec h
    by_cases e : b = c
    · subst e
      right; left
      refine ⟨by show br (Nat.beq b b) false _ = false; rw [Nat.beq_refl]; rfl, ?_⟩
      split at h1
      · rename_i cs hc
        exact ⟨_, hc⟩
      · cases h1
    · have hf : Nat.beq b c = false := by
        cases e' : Nat.beq b c with
        | false => rfl
        | true => exact absurd (Nat.eq_of_beq_eq_true e') e
      have e1 : isArr ((c, .box ps) :: l) b = isArr l b := by
        show br (Nat.beq b c) false _ = _
        rw [hf]; rfl
      rw [e1]
      exact startLook h2 b (by simpa [e] using hb)
  | (c, .siter) :: l, h, b, hb => by
    obtain ⟨h1, h2⟩ := and_spec h
    by_cases e : b = c
    · subst e
      right; right; left
      refine ⟨by show br (Nat.beq b b) false _ = false; rw [Nat.beq_refl]; rfl, ?_⟩
      split at h1
      · rename_i t p hc
        exact ⟨_, _, hc⟩
      · cases h1
    · have hf : Nat.beq b c = false := by
        cases e' : Nat.beq b c with
        | false => rfl
        | true => exact absurd (Nat.eq_of_beq_eq_true e') e
      have e1 : isArr ((c, .siter) :: l) b = isArr l b := by
        show br (Nat.beq b c) false _ = _
        rw [hf]; rfl
      rw [e1]
      exact startLook h2 b (by simpa [e] using hb)
  | (c, .map kt vt) :: l, h, b, hb => by
    obtain ⟨h1, h2⟩ := and_spec h
    by_cases e : b = c
    · subst e
      right; right; right
      refine ⟨by show br (Nat.beq b b) true _ = true; rw [Nat.beq_refl]; rfl, ?_⟩
      split at h1
      · rename_i kt' vt' l' k hc
        exact ⟨_, _, _, _, hc, Nat.le_of_ble_eq_true (and_spec h1).2⟩
      · cases h1
    · have hf : Nat.beq b c = false := by
        cases e' : Nat.beq b c with
        | false => rfl
        | true => exact absurd (Nat.eq_of_beq_eq_true e') e
      have e1 : isArr ((c, .map kt vt) :: l) b = isArr l b := by
        show br (Nat.beq b c) true _ = _
        rw [hf]; rfl
      rw [e1]
      exact startLook h2 b (by simpa [e] using hb)

/-- What is known at a head: numbers from n0 on are forgotten, listed rows have the generation K. -/
def Gh.head (g : Gh) (bl : List (Nat × BPat)) (K n0 : Nat) : Gh := ⟨g.F, g.i, fun b => if b < n0 then (if isArr bl b = true then (match g.G b with
  | .arr t _ n => .arr t K n
  | .map kt vt _ => .map kt vt K
  | x => x) else g.G b) else .none⟩

section
variable {g : Gh} {bl : List (Nat × BPat)} {K n0 : Nat}
theorem head_ge {b : Nat} (h : n0 ≤ b) : (g.head bl K n0).G b = .none := if_neg (by omega)
theorem head_same {b : Nat} (h : b < n0) (ha : isArr bl b = false) : (g.head bl K n0).G b = g.G b := by
  show (if b < n0 then _ else _) = _
  rw [if_pos h, if_neg (by rw [ha]; decide)]
theorem head_arr {b k n : Nat} {t : Ty} (h : b < n0) (ha : isArr bl b = true) (hg : g.G b = .arr t k n) : (g.head bl K n0).G b = .arr t K n := by
  show (if b < n0 then _ else _) = _
  rw [if_pos h, if_pos ha, hg]
theorem head_map {b k : Nat} {kt vt : Ty} (h : b < n0) (ha : isArr bl b = true) (hg : g.G b = .map kt vt k) : (g.head bl K n0).G b = .map kt vt K := by
  show (if b < n0 then _ else _) = _
  rw [if_pos h, if_pos ha, hg]
theorem head_map' {b : Nat} {kt vt : Ty} {k : Nat} (hg : (g.head bl K n0).G b = .map kt vt k) : ∃ k0, g.G b = .map kt vt k0 := by
  have hg : (if b < n0 then (if isArr bl b = true then (match g.G b with
    | .arr t _ n => Kd.arr t K n
    | .map kt vt _ => .map kt vt K
    | x => x) else g.G b) else .none) = .map kt vt k := hg
  split at hg
  · split at hg
    · split at hg
      · cases hg
      · rename_i hq; cases hg; exact ⟨_, hq⟩
      · exact ⟨_, hg⟩
    · exact ⟨_, hg⟩
  · cases hg
theorem head_live {b : Nat} (h : (g.head bl K n0).G b ≠ .none) : b < n0 ∧ g.G b ≠ .none := by
  have hb : b < n0 := by
    rcases Nat.lt_or_ge b n0 with h' | h'
    · exact h'
    · exact absurd (head_ge h') h
  refine ⟨hb, fun e => h ?_⟩
  show (if b < n0 then _ else _) = _
  rw [if_pos hb]
  split
  · rw [e]
  · exact e
theorem head_keeps {b : Nat} (h : b < n0) (hn : g.G b ≠ .none) : (g.head bl K n0).G b ≠ .none := by
  show (if b < n0 then _ else _) ≠ _
  rw [if_pos h]
  split
  · split <;> first | exact (fun h => by cases h) | exact hn
  · exact hn
theorem head_dead {b : Nat} (h : (g.head bl K n0).G b ≠ .none) (h' : (g.head bl K n0).G b ≠ .dead) : g.G b ≠ .dead := fun e => h' (by
  show (if b < n0 then _ else _) = _
  rw [if_pos (head_live h).1]
  split
  · rw [e]
  · exact e)

theorem avAll_get {f : AV → AV → Bool} : ∀ {as bs : List AV}, avAll f as bs = true → as.length = bs.length ∧ ∀ (j : Nat) (a : AV), as[j]? = some a → ∃ b, bs[j]? = some b ∧ f a b = true
  | [], [], _ => ⟨rfl, fun j a h => by simp at h⟩
  | a :: as, b :: bs, h => by
    obtain ⟨h1, h2⟩ := and_spec (show ((f a b).and (avAll f as bs)) = true from h)
    obtain ⟨h3, h4⟩ := avAll_get h2
    refine ⟨by simp [h3], fun j x hx => ?_⟩
    cases j with
    | zero => cases (show some a = some x from hx); exact ⟨b, rfl, h1⟩
    | succ j => exact h4 j x (by simpa using hx)
  | [], _ :: _, h => by cases h
  | _ :: _, [], h => by cases h

/-- What stays says the same at a head. -/
theorem cst_headD {w : World} : ∀ (d : Nat) {v v' : AV} {u : Value}, avEqD d v v' = true → cstOk bl n0 d v = true → RelV g w v' u → RelV (g.head bl K n0) w v u
  | 0, _, _, _, he, _, _ => by cases he
  | d + 1, v, v', u, he, ho, h => by
    unfold avEqD at he
    split at he
    · rename_i b i o k b' i' o' k'
      obtain ⟨e1, he⟩ := and_spec he
      obtain ⟨e2, he⟩ := and_spec he
      obtain ⟨e3, e4⟩ := and_spec he
      cases Nat.eq_of_beq_eq_true e1; cases Nat.eq_of_beq_eq_true e2; cases Nat.eq_of_beq_eq_true e3; cases Nat.eq_of_beq_eq_true e4
      obtain ⟨o1, o2⟩ := and_spec (show ((Nat.blt b n0).and (isArr bl b).not) = true from ho)
      have o2 : isArr bl b = false := by simpa using o2
      have hs := head_same (g := g) (bl := bl) (K := K) (Nat.le_of_ble_eq_true o1) o2
      cases h with
      | ptr _ _ _ _ _ hn hp ha hb hi =>
        exact .ptr _ _ _ _ _ (by rw [hs]; exact hn) hp (by rw [hs]; exact ha) (by rw [hs]; exact hb) (by rw [hs]; exact hi)
    · cases h; exact .nilp
    · rename_i b b'
      cases Nat.eq_of_beq_eq_true he
      have o1 : b < n0 := Nat.le_of_ble_eq_true (show Nat.blt b n0 = true from ho)
      cases h with
      | map _ _ hn hp ha =>
        refine .map _ _ (head_keeps o1 hn) hp fun kt vt k hg => ?_
        obtain ⟨k0, hg⟩ := head_map' hg
        exact ha kt vt k0 hg
    · cases h; exact .nilmap
    · cases h; exact .nilfn
    · cases h; exact .nili
    · cases h; exact .nils
    · rename_i i xs ys j xs' ys'
      obtain ⟨e1, he⟩ := and_spec he
      obtain ⟨e2, e3⟩ := and_spec he
      cases Nat.eq_of_beq_eq_true e1
      obtain ⟨o1, o2⟩ := and_spec (show ((xs.all (cstOk bl n0 d)).and (ys.all (cstOk bl n0 d))) = true from ho)
      obtain ⟨l1, g1⟩ := avAll_get e2
      obtain ⟨l2, g2⟩ := avAll_get e3
      cases h with
      | fn _ _ _ vs us fx fy h1 h2 h3 h4 h5 h6 =>
        refine .fn _ _ _ vs us fx fy (by omega) (by omega) (fun j c hc => ?_) (fun j c hc => ?_) (fun j c hc => ?_) (fun j c hc => ?_)
        · obtain ⟨c', hc', _⟩ := g1 j c hc; exact h3 j c' hc'
        · obtain ⟨c', hc', hq⟩ := g1 j c hc
          exact cst_headD d hq (List.all_eq_true.1 o1 c (List.mem_of_getElem? hc)) (h4 j c' hc')
        · obtain ⟨c', hc', _⟩ := g2 j c hc; exact h5 j c' hc'
        · obtain ⟨c', hc', hq⟩ := g2 j c hc
          exact cst_headD d hq (List.all_eq_true.1 o2 c (List.mem_of_getElem? hc)) (h6 j c' hc')
    · rename_i t x t' x'
      obtain ⟨e1, e2⟩ := and_spec he
      cases Nat.eq_of_beq_eq_true e1
      cases h with
      | iface _ _ v h => exact .iface _ _ _ (cst_headD d e2 ho h)
    · cases he
theorem cst_head {w : World} {v v' : AV} {u : Value} (he : avEq v v' = true) (ho : patOk bl n0 (.cst v) = true) (h : RelV g w v' u) : RelV (g.head bl K n0) w v u := cst_headD 4 he ho h

theorem own_head {w : World} {H1 : Hp} {b : Nat} {v : AV} {u : Value} (hr : HRel g H1 w) (he : ownIs H1 b v = true) (hb : b < n0) (ha : isArr bl b = true) (h : RelV g w v u) : RelV (g.head bl K n0) w (.own b K) u := by
  unfold ownIs at he
  split at he
  · rename_i b' k
    obtain ⟨e1, e2⟩ := and_spec he
    cases Nat.eq_of_beq_eq_true e1
    unfold genIs at e2
    split at e2
    · rename_i t l k' hc
      cases Nat.eq_of_beq_eq_true e2
      have hG : g.G b = .arr t k l.length := by rw [hr.kd b (fun e => by rw [hc] at e; cases e), hc]; rfl
      have hG2 := head_arr (g := g) (K := K) hb ha hG
      cases h with
      | own _ _ _ hn hs hh =>
        refine .own _ _ _ (by rw [hG2]; exact fun h => by cases h) hs fun t' k' n' hg => ?_
        rw [hG2] at hg; cases hg
        exact ⟨Nat.le_refl _, fun _ => (hh _ _ _ hG).2 rfl⟩
    · cases e2
  · cases he
theorem apt_head {w : World} {H1 : Hp} {b : Nat} {v : AV} {u : Value} (hr : HRel g H1 w) (he : aptIs H1 b v = true) (hb : b < n0) (ha : isArr bl b = true) (h : RelV g w v u) : RelV (g.head bl K n0) w (.ptr b 0 0 K) u := by
  unfold aptIs at he
  split at he
  · rename_i b' i o k
    obtain ⟨e1, e2⟩ := and_spec he
    obtain ⟨e1, e3⟩ := and_spec e1
    obtain ⟨e3, e4⟩ := and_spec e3
    cases Nat.eq_of_beq_eq_true e1; cases Nat.eq_of_beq_eq_true e3; cases Nat.eq_of_beq_eq_true e4
    unfold genIs at e2
    split at e2
    · rename_i t l k' hc
      cases Nat.eq_of_beq_eq_true e2
      have hG : g.G b = .arr t k l.length := by rw [hr.kd b (fun e => by rw [hc] at e; cases e), hc]; rfl
      have hG2 := head_arr (g := g) (K := K) hb ha hG
      cases h with
      | ptr _ _ _ _ _ hn hp hh hbx hi =>
        refine .ptr _ _ _ _ _ (by rw [hG2]; exact fun h => by cases h) hp (fun t' k' n' hg => ?_) (fun hg => ?_) (fun hg => ?_) <;> rw [hG2] at hg <;> cases hg
        exact ⟨Nat.le_refl _, fun _ => (hh _ _ _ hG).2 rfl⟩
    · cases e2
  · cases he
theorem elt_head {w : World} {H1 : Hp} {b o i : Nat} {v : AV} {u : Value} (hr : HRel g H1 w) (he : decElt H1 b o v = some i) (hb : b < n0) (ha : isArr bl b = true) (h : RelV g w v u) : RelV (g.head bl K n0) w (.ptr b i o K) u := by
  unfold decElt at he
  split at he
  · rename_i b' i' o' k
    obtain ⟨e1, e0⟩ := br_none he
    cases e0
    obtain ⟨e1, e2⟩ := and_spec e1
    obtain ⟨e1, e3⟩ := and_spec e1
    cases Nat.eq_of_beq_eq_true e1; cases Nat.eq_of_beq_eq_true e3
    unfold genIs at e2
    split at e2
    · rename_i t l k' hc
      cases Nat.eq_of_beq_eq_true e2
      have hG : g.G b = .arr t k l.length := by rw [hr.kd b (fun e => by rw [hc] at e; cases e), hc]; rfl
      have hG2 := head_arr (g := g) (K := K) hb ha hG
      cases h with
      | ptr _ _ _ _ _ hn hp hh hbx hi =>
        refine .ptr _ _ _ _ _ (by rw [hG2]; exact fun h => by cases h) hp (fun t' k' n' hg => ?_) (fun hg => ?_) (fun hg => ?_) <;> rw [hG2] at hg <;> cases hg
        exact ⟨Nat.le_refl _, fun _ => (hh _ _ _ hG).2 rfl⟩
    · cases e2
  · cases he
end
end Go.VI

end
section
/- Blocks under new numbers. -/
namespace Go.VI
set_option linter.unusedVariables false
set_option linter.unusedSimpArgs false

theorem memB {l : List Nat} {a : Nat} : memN l a = true ↔ a ∈ l := memN_iff
theorem memB_false {l : List Nat} {a : Nat} : memN l a = false ↔ a ∉ l := by
  rw [← memB]; cases memN l a <;> simp

theorem lookN_mem {rho : List (Nat × Nat)} {c : Nat} (h : c ∈ rho.map (·.1)) : (c, lookN rho c) ∈ rho := by
  induction rho with
  | nil => simp at h
  | cons p l ih =>
    show (c, br (Nat.beq c p.1) p.2 (lookN l c)) ∈ p :: l
    cases e : Nat.beq c p.1 with
    | true =>
      have := Nat.eq_of_beq_eq_true e
      subst this
      exact List.mem_cons_self
    | false =>
      have hne : c ≠ p.1 := fun h' => by rw [h', Nat.beq_refl] at e; cases e
      refine List.mem_cons_of_mem _ (ih ?_)
      simpa [hne] using h
theorem backL_mem {b c : Nat} : ∀ {rho : List (Nat × Nat)}, backL rho b = some c → (c, b) ∈ rho
  | [], h => by cases h
  | p :: l, h => by
    rcases br_some (show br (Nat.beq b p.2) (some p.1) (backL l b) = some c from h) with ⟨h1, h2⟩ | ⟨_, h2⟩
    · cases h2
      have := Nat.eq_of_beq_eq_true h1
      subst this
      exact List.mem_cons_self
    · exact List.mem_cons_of_mem _ (backL_mem h2)
theorem backL_none {b : Nat} : ∀ {rho : List (Nat × Nat)}, backL rho b = none → b ∉ rho.map (·.2)
  | [], _ => by simp
  | p :: l, h => by
    have h : br (Nat.beq b p.2) (some p.1) (backL l b) = none := h
    cases e : Nat.beq b p.2 with
    | true => rw [e] at h; cases h
    | false =>
      rw [e] at h
      have hne : b ≠ p.2 := fun h' => by rw [h', Nat.beq_refl] at e; cases e
      have := backL_none (rho := l) h
      simp only [List.map_cons, List.mem_cons, not_or]
      exact ⟨hne, this⟩
theorem fst_inj : ∀ {rho : List (Nat × Nat)}, noDup (rho.map (·.1)) = true → ∀ {c m m' : Nat}, (c, m) ∈ rho → (c, m') ∈ rho → m = m'
  | [], _, _, _, _, h, _ => by cases h
  | p :: l, hn, c, m, m', h, h' => by
    have hn : ((!(memN (l.map (·.1)) p.1)).and (noDup (l.map (·.1)))) = true := hn
    obtain ⟨h1, h2⟩ := and_spec hn
    have h1 : p.1 ∉ l.map (·.1) := memB_false.1 (by simpa using h1)
    rcases List.mem_cons.1 h with e | e <;> rcases List.mem_cons.1 h' with e' | e'
    · rw [← e] at e'; cases e'; rfl
    · exact absurd (List.mem_map.2 ⟨_, e', by rw [← e]⟩) h1
    · exact absurd (List.mem_map.2 ⟨_, e, by rw [← e']⟩) h1
    · exact fst_inj h2 e e'
theorem snd_inj : ∀ {rho : List (Nat × Nat)}, noDup (rho.map (·.2)) = true → ∀ {c c' m : Nat}, (c, m) ∈ rho → (c', m) ∈ rho → c = c'
  | [], _, _, _, _, h, _ => by cases h
  | p :: l, hn, c, c', m, h, h' => by
    have hn : ((!(memN (l.map (·.2)) p.2)).and (noDup (l.map (·.2)))) = true := hn
    obtain ⟨h1, h2⟩ := and_spec hn
    have h1 : p.2 ∉ l.map (·.2) := memB_false.1 (by simpa using h1)
    rcases List.mem_cons.1 h with e | e <;> rcases List.mem_cons.1 h' with e' | e'
    · rw [← e] at e'; cases e'; rfl
    · exact absurd (List.mem_map.2 ⟨_, e', by rw [← e]⟩) h1
    · exact absurd (List.mem_map.2 ⟨_, e, by rw [← e']⟩) h1
    · exact snd_inj h2 e e'

/-- What is known, under new numbers. -/
def Gh.ren (g : Gh) (rho : List (Nat × Nat)) : Gh := ⟨g.F, fun b => if b ∈ rho.map (·.1) then g.i (lookN rho b) else g.i b,
  fun b => if b ∈ rho.map (·.1) then g.G (lookN rho b) else if b ∈ rho.map (·.2) then (match g.G b with
    | .none => .none
    | _ => .dead) else g.G b⟩

section
variable {g : Gh} {rho : List (Nat × Nat)} {w : World}
theorem ren_c {b : Nat} (h : b ∈ rho.map (·.1)) : (g.ren rho).G b = g.G (lookN rho b) ∧ (g.ren rho).i b = g.i (lookN rho b) := ⟨if_pos h, if_pos h⟩
theorem ren_i {b : Nat} (h : b ∉ rho.map (·.1)) : (g.ren rho).i b = g.i b := if_neg h
theorem ren_m {b : Nat} (h : b ∉ rho.map (·.1)) (hm : b ∈ rho.map (·.2)) (hn : g.G b ≠ .none) : (g.ren rho).G b = .dead := by
  show (if b ∈ rho.map (·.1) then _ else if b ∈ rho.map (·.2) then _ else _) = _
  rw [if_neg h, if_pos hm]
  split
  · rename_i e; exact absurd e hn
  · rfl
theorem ren_m0 {b : Nat} (h : b ∉ rho.map (·.1)) (hn : g.G b = .none) : (g.ren rho).G b = .none := by
  show (if b ∈ rho.map (·.1) then _ else if b ∈ rho.map (·.2) then _ else _) = _
  rw [if_neg h]
  split
  · rw [hn]
  · exact hn
theorem ren_o {b : Nat} (h : b ∉ rho.map (·.1)) (hm : b ∉ rho.map (·.2)) : (g.ren rho).G b = g.G b := by
  show (if b ∈ rho.map (·.1) then _ else if b ∈ rho.map (·.2) then _ else _) = _
  rw [if_neg h, if_neg hm]
theorem ren_live {b : Nat} (h : b ∉ rho.map (·.1)) (hn : (g.ren rho).G b ≠ .none) : g.G b ≠ .none := fun e => hn (ren_m0 h e)
theorem ren_nil : g.ren [] = g := by
  unfold Gh.ren
  simp

theorem backN_spec (hf : noDup (rho.map (·.1)) = true) {b c : Nat} (h : backN rho b = some c) : (g.ren rho).G c = g.G b ∧ (g.ren rho).i c = g.i b := by
  unfold backN at h
  split at h
  · rename_i c' hc
    cases h
    have hm := backL_mem hc
    have hc1 : c ∈ rho.map (·.1) := List.mem_map.2 ⟨_, hm, rfl⟩
    have hl := fst_inj hf (lookN_mem hc1) hm
    obtain ⟨h1, h2⟩ := ren_c (g := g) hc1
    rw [h1, h2, hl]; exact ⟨rfl, rfl⟩
  · rename_i hc
    obtain ⟨h1, h2⟩ := none_br h
    cases h2
    have h1 := memB_false.1 h1
    exact ⟨ren_o h1 (backL_none hc), ren_i h1⟩
theorem renB_rel (hf : noDup (rho.map (·.1)) = true) {b : Nat} {f : Nat → AV} {u : Value} (h : ∀ c, (g.ren rho).G c = g.G b → (g.ren rho).i c = g.i b → RelV (g.ren rho) w (f c) u) : RelV (g.ren rho) w (renB rho b f) u := by
  unfold renB
  split
  · rename_i c hc
    obtain ⟨h1, h2⟩ := backN_spec (g := g) hf hc
    exact h c h1 h2
  · exact .undef _

theorem renV (hf : noDup (rho.map (·.1)) = true) : ∀ (d : Nat) {v : AV} {u : Value}, RelV g w v u → RelV (g.ren rho) w (renD rho d v) u
  | 0, _, _, _ => .undef _
  | d + 1, v, u, h => by
    have get : ∀ {cs : List AV} {j : Nat} {c : AV}, (cs.map (renD rho d))[j]? = some c → ∃ c0, cs[j]? = some c0 ∧ c = renD rho d c0 := fun {cs j c} hc => by
      rw [List.getElem?_map] at hc
      cases e : cs[j]? with
      | none => rw [e] at hc; cases hc
      | some c0 => rw [e] at hc; cases hc; exact ⟨c0, rfl, rfl⟩
    cases h with
    | undef v => exact .undef _
    | int k n => exact .int k n
    | bool b => exact .bool b
    | str s => exact .str s
    | flt b => exact .flt b
    | vals t l v h => exact .vals t l _ h
    | nils => exact .nils
    | nilp => exact .nilp
    | nilmap => exact .nilmap
    | nilfn => exact .nilfn
    | nili => exact .nili
    | own b k _ hn hs ha => exact renB_rel hf fun c h1 h2 => .own c k _ (by rw [h1]; exact hn) hs (by rw [h1, h2]; exact ha)
    | sref b off len k lim _ hn hs ha => exact renB_rel hf fun c h1 h2 => .sref c off len k lim _ (by rw [h1]; exact hn) hs (by rw [h1, h2]; exact ha)
    | ptr b i o k _ hn hp ha hb hi => exact renB_rel hf fun c h1 h2 => .ptr c i o k _ (by rw [h1]; exact hn) hp (by rw [h1, h2]; exact ha) (by rw [h1, h2]; exact hb) (by rw [h1, h2]; exact hi)
    | map b _ hn hp ha => exact renB_rel hf fun c h1 h2 => .map c _ (by rw [h1]; exact hn) hp (by rw [h1, h2]; exact ha)
    | stamp b i k _ hn hp ha => exact renB_rel hf fun c h1 h2 => .stamp c i k _ (by rw [h1]; exact hn) hp (by rw [h1, h2]; exact ha)
    | lits n sz cs a cap f h1 h2 h3 h4 =>
      refine .lits n sz _ a cap f h1 h2 (fun j c hc => ?_) fun j c hc => ?_
      · obtain ⟨c0, hc0, _⟩ := get hc; exact h3 j c0 hc0
      · obtain ⟨c0, hc0, rfl⟩ := get hc; exact renV hf d (h4 j c0 hc0)
    | cptr cs ad f h1 h2 =>
      refine .cptr _ ad f (fun j c hc => ?_) fun j c hc => ?_
      · obtain ⟨c0, hc0, _⟩ := get hc; exact h1 j c0 hc0
      · obtain ⟨c0, hc0, rfl⟩ := get hc; exact renV hf d (h2 j c0 hc0)
    | fn f xs ys vs us fx fy h1 h2 h3 h4 h5 h6 =>
      refine .fn f _ _ vs us fx fy (by rw [List.length_map]; exact h1) (by rw [List.length_map]; exact h2) (fun j c hc => ?_) (fun j c hc => ?_) (fun j c hc => ?_) fun j c hc => ?_
      · obtain ⟨c0, hc0, _⟩ := get hc; exact h3 j c0 hc0
      · obtain ⟨c0, hc0, rfl⟩ := get hc; exact renV hf d (h4 j c0 hc0)
      · obtain ⟨c0, hc0, _⟩ := get hc; exact h5 j c0 hc0
      · obtain ⟨c0, hc0, rfl⟩ := get hc; exact renV hf d (h6 j c0 hc0)
    | iface t c v h => exact .iface t _ v (renV hf d h)
    | agg cs vs f h1 h2 h3 =>
      refine .agg _ vs f (by rw [List.length_map]; exact h1) (fun j c hc => ?_) fun j c hc => ?_
      · obtain ⟨c0, hc0, _⟩ := get hc; exact h2 j c0 hc0
      · obtain ⟨c0, hc0, rfl⟩ := get hc; exact renV hf d (h3 j c0 hc0)
    | tup cs vs f h1 h2 h3 =>
      refine .tup _ vs f (by rw [List.length_map]; exact h1) (fun j c hc => ?_) fun j c hc => ?_
      · obtain ⟨c0, hc0, _⟩ := get hc; exact h2 j c0 hc0
      · obtain ⟨c0, hc0, rfl⟩ := get hc; exact renV hf d (h3 j c0 hc0)

theorem renBlk_rel (hf : noDup (rho.map (·.1)) = true) {b m : Nat} {x : Blk} (hi : (g.ren rho).i b = g.i m) (h : RelB g w m x) : RelB (g.ren rho) w b (renBlk rho x) := by
  cases x with
  | gone => exact trivial
  | box cs =>
    obtain ⟨r, c, vs, e, h1, h2, h3⟩ := h
    refine ⟨r, c, vs, e, by rw [hi, h1], h2, ⟨by rw [List.length_map]; exact h3.1, fun j c v hc hv => ?_⟩⟩
    rw [List.getElem?_map] at hc
    cases e : cs[j]? with
    | none => rw [e] at hc; cases hc
    | some c0 => rw [e] at hc; cases hc; exact renV hf 4 (h3.2 j c0 v e hv)
  | arr t l k =>
    show (_ ∨ _)
    rw [hi]; exact h
  | map kt vt es k =>
    show ∃ r c ms clock, _
    rw [hi]; exact h
  | siter s p =>
    show ∃ r c, _
    rw [hi]; exact h
theorem kindOf_ren {x : Blk} : kindOf (renBlk rho x) = kindOf x := by cases x <;> rfl
theorem renBlk_gone {x : Blk} (h : renBlk rho x ≠ .gone) : x ≠ .gone := fun e => h (by rw [e]; rfl)

theorem renH_c {H : Hp} {b : Nat} (h : b ∈ rho.map (·.1)) : renH rho H b = renBlk rho (H (lookN rho b)) := by
  unfold renH; rw [memB.2 h]; rfl
theorem renH_m {H : Hp} {b : Nat} (h : b ∉ rho.map (·.1)) (h' : b ∈ rho.map (·.2)) : renH rho H b = .gone := by
  unfold renH; rw [memB_false.2 h, memB.2 h']; rfl
theorem renH_o {H : Hp} {b : Nat} (h : b ∉ rho.map (·.1)) (h' : b ∉ rho.map (·.2)) : renH rho H b = renBlk rho (H b) := by
  unfold renH; rw [memB_false.2 h, memB_false.2 h']; rfl

theorem HRel.ren {H : Hp} (hr : HRel g H w) (hf : noDup (rho.map (·.1)) = true) (hs : noDup (rho.map (·.2)) = true) : HRel (g.ren rho) (renH rho H) w := by
  have src : ∀ b, (g.ren rho).G b ≠ .none → (g.ren rho).G b ≠ .dead → ∃ m, (g.ren rho).i b = g.i m ∧ g.G m ≠ .none ∧ g.G m ≠ .dead ∧ ((b, m) ∈ rho ∨ (b = m ∧ b ∉ rho.map (·.2) ∧ b ∉ rho.map (·.1))) := by
    intro b h1 h2
    by_cases hc : b ∈ rho.map (·.1)
    · obtain ⟨e1, e2⟩ := ren_c (g := g) hc
      rw [e1] at h1 h2
      exact ⟨lookN rho b, e2, h1, h2, .inl (lookN_mem hc)⟩
    · by_cases hm : b ∈ rho.map (·.2)
      · exact absurd (ren_m hc hm (ren_live hc h1)) h2
      · rw [ren_o hc hm] at h1 h2
        exact ⟨b, ren_i hc, h1, h2, .inr ⟨rfl, hm, hc⟩⟩
  refine ⟨fun b => ?_, fun b hb => ?_, fun b b' r c c' k1 k2 k3 k4 k5 k6 => ?_, fun b r c k1 k2 k3 => ?_, hr.ex⟩
  · by_cases hc : b ∈ rho.map (·.1)
    · rw [renH_c hc]; exact renBlk_rel hf (ren_c hc).2 (hr.blk _)
    · by_cases hm : b ∈ rho.map (·.2)
      · rw [renH_m hc hm]; exact trivial
      · rw [renH_o hc hm]; exact renBlk_rel hf (ren_i hc) (hr.blk _)
  · have hb : renH rho H b ≠ .gone := hb
    by_cases hc : b ∈ rho.map (·.1)
    · rw [renH_c hc] at hb ⊢
      rw [kindOf_ren, (ren_c hc).1]; exact hr.kd _ (renBlk_gone hb)
    · by_cases hm : b ∈ rho.map (·.2)
      · rw [renH_m hc hm] at hb; exact absurd rfl hb
      · rw [renH_o hc hm] at hb ⊢
        rw [kindOf_ren, ren_o hc hm]; exact hr.kd _ (renBlk_gone hb)
  · obtain ⟨m, e1, l1, l2, s1⟩ := src b k3 k4
    obtain ⟨m', e1', l1', l2', s1'⟩ := src b' k5 k6
    rw [e1] at k1; rw [e1'] at k2
    have e := hr.inj m m' r c c' k1 k2 l1 l2 l1' l2'
    subst e
    rcases s1 with s1 | ⟨rfl, s1, _⟩ <;> rcases s1' with s1' | ⟨rfl, s1', _⟩
    · exact snd_inj hs s1 s1'
    · exact absurd (List.mem_map.2 ⟨_, s1, rfl⟩) s1'
    · exact absurd (List.mem_map.2 ⟨_, s1', rfl⟩) s1
    · rfl
  · obtain ⟨m, e1, l1, l2, s1⟩ := src b k2 k3
    rw [e1] at k1
    exact hr.disj m r c k1 l1 l2
end

/-- The way from the start, to where blocks go by new numbers. -/
theorem Ext.ren {g0 g : Gh} {H0 Hx : Hp} {w0 w : World} {D D' : List Nat} {rho : List (Nat × Nat)} (h : Ext g0 H0 w0 D g Hx w) (hf : noDup (rho.map (·.1)) = true) (hD : ∀ b ∈ D, g0.G b ≠ .none → b ∈ D') (hs : ∀ b ∈ D', g0.G b ≠ .none → H0 b ≠ .gone) (hd : ∀ b ∈ D', g0.G b ≠ .none → b ∈ D ∨ b ∈ rho.map (·.2))
    (hc : ∀ b, b ∈ rho.map (·.1) → g0.G b = .none) (hm : ∀ b, b ∈ rho.map (·.2) → g0.G b ≠ .none → b ∈ D') : Ext g0 H0 w0 D' (g.ren rho) H0 w := by
  have nc : ∀ b, g0.G b ≠ .none → b ∉ rho.map (·.1) := fun b hb h => hb (hc b h)
  refine ⟨h.mono, fun r hF => ?_, h.size, fun r hlt hb => h.frame r hlt fun b hbD hn => hb b (hD b hbD hn) hn, hs, fun b hn hb => ?_, fun b hb hn r c hi => ?_, fun b hb hn => ?_, fun b r c hn hl hi => ?_, h.env⟩
  · rcases h.more r hF with h | ⟨b, hb, hn, e⟩ | h
    · exact .inl h
    · exact .inr (.inl ⟨b, hD b hb hn, hn, e⟩)
    · exact .inr (.inr h)
  · have := h.same b hn fun hb' => hb (hD b hb' hn)
    exact ⟨by rw [ren_o (nc b hn) fun hb' => hb (hm b hb' hn)]; exact this.1, by rw [ren_i (nc b hn)]; exact this.2.1, rfl⟩
  · rw [ren_i (nc b hn)] at hi
    by_cases hb' : b ∈ D
    · exact h.moved b hb' hn r c hi
    · rw [(h.same b hn hb').2.1] at hi
      exact .inl ⟨c, hi⟩
  · by_cases hb2 : b ∈ rho.map (·.2)
    · exact .inl (ren_m (nc b hn) hb2 (h.live hn))
    · rw [ren_o (nc b hn) hb2, ren_i (nc b hn)]
      rcases hd b hb hn with hb' | hb'
      · exact h.turn b hb' hn
      · exact absurd hb' hb2
  · by_cases hb : b ∈ rho.map (·.1)
    · rw [(ren_c hb).2] at hi
      rw [(ren_c hb).1] at hl
      have hm2 : lookN rho b ∈ rho.map (·.2) := List.mem_map.2 ⟨_, lookN_mem hb, rfl⟩
      by_cases hn2 : g0.G (lookN rho b) = .none
      · rcases h.fresh _ r c hn2 hl hi with e | ⟨b', hb', hn', e⟩
        · exact .inl e
        · exact .inr ⟨b', hD b' hb' hn', hn', e⟩
      · have back : (∃ c', g0.i (lookN rho b) = some (r, c')) ∨ w0.heap.size ≤ r := by
          by_cases hb' : lookN rho b ∈ D
          · exact h.moved _ hb' hn2 r c hi
          · rw [(h.same _ hn2 hb').2.1] at hi
            exact .inl ⟨c, hi⟩
        rcases back with e | e
        · exact .inr ⟨_, hm _ hm2 hn2, hn2, e⟩
        · exact .inl e
    · rw [ren_i hb] at hi
      have hl2 := ren_live hb hl
      rcases h.fresh b r c hn hl2 hi with e | ⟨b', hb', hn', e⟩
      · exact .inl e
      · exact .inr ⟨b', hD b' hb' hn', hn', e⟩
end Go.VI

end
section
/- Loops: the rounds of a loop are right. -/
namespace Go.VI
set_option linter.unusedVariables false
set_option linter.unusedSimpArgs false
variable {R : Type} {P : Program}

section
variable {g : Gh} {bl : List (Nat × BPat)} {K n0 : Nat} {w : World} {H1 : Hp}

theorem val_head {t : Ty} {v : AV} {x : t.den} {u : Value} (h : t.decV v = some x) (hv : RelV g w v u) : RelV (g.head bl K n0) w (t.val x) u :=
  val_sound (g := g.head bl K n0) (show RelTV g.F w t x u from decV_sound h hv)

theorem caps_head : ∀ {ts : List Ty} {cs : List AV} {x : Tup ts}, decCaps ts cs = some x → (cloCaps ts x).length = cs.length ∧ ∀ (j : Nat) (c c' : AV) (u : Value), cs[j]? = some c → (cloCaps ts x)[j]? = some c' → RelV g w c u → RelV (g.head bl K n0) w c' u
  | [], cs, x, h => by
    cases cs with
    | nil => exact ⟨rfl, fun j c c' u h1 => by simp at h1⟩
    | cons => cases h
  | t :: ts, cs, x, h => by
    cases cs with
    | nil => cases h
    | cons c0 cs =>
      simp only [decCaps] at h
      split at h <;> try (cases h; done)
      rename_i ds
      split at h <;> try (cases h; done)
      rename_i y hy
      split at h <;> try (cases h; done)
      rename_i z hz
      cases h
      obtain ⟨h1, h2⟩ := caps_head (ts := ts) hz
      refine ⟨by simp only [cloCaps, List.length_cons]; rw [h1], fun j c c' u hc hc' hv => ?_⟩
      cases j with
      | succ j => exact h2 j c c' u (by simpa using hc) (by simpa [cloCaps] using hc') hv
      | zero =>
        cases (show some (AV.cptr ds) = some c from hc)
        cases (show some (AV.cptr (t.enc y)) = some c' from hc')
        cases hv with
        | cptr _ ad f k1 k2 =>
          have hR : RelC g w ds ((List.range ds.length).map f) := ⟨by simp, fun j c v e1 e2 => by
            have hj : j < ds.length := (List.getElem?_eq_some_iff.1 e1).1
            rw [List.getElem?_map, List.getElem?_range hj] at e2
            cases e2
            exact k2 j c e1⟩
          obtain ⟨v1, v2, e, r1, r2⟩ := dec_sound t hy hR
          have hv2 : v2 = [] := by have := r2.1; simpa using this
          subst hv2
          rw [List.append_nil] at e
          subst e
          have hE := enc_sound (g := g.head bl K n0) t r1
          have hlen : ds.length = (t.enc y).length := by have := hE.1; simpa using this
          refine .cptr _ ad f (fun j c e1 => ?_) fun j c e1 => ?_
          · have hj : j < ds.length := by rw [hlen]; exact (List.getElem?_eq_some_iff.1 e1).1
            exact k1 j _ (List.getElem?_eq_getElem hj)
          · have hj : j < ds.length := by rw [hlen]; exact (List.getElem?_eq_some_iff.1 e1).1
            exact hE.2 j c (f j) e1 (by rw [List.getElem?_map, List.getElem?_range hj]; rfl)
theorem clo_head {f : FuncId} {ts : List Ty} {v : AV} {x : Tup ts} {u : Value} (h : decClo f ts v = some x) (hv : RelV g w v u) : RelV (g.head bl K n0) w (cloAV f ts x) u := by
  unfold decClo at h
  split at h <;> try (cases h; done)
  rename_i f' cs
  obtain ⟨hf, hd⟩ := br_none h
  clear h
  cases Nat.eq_of_beq_eq_true hf
  obtain ⟨h1, h2⟩ := caps_head (g := g) (bl := bl) (K := K) (n0 := n0) (w := w) hd
  cases hv with
  | fn _ _ _ vs us fx fy k1 k2 k3 k4 k5 k6 =>
    have get : ∀ {j : Nat} {c : AV}, (cloCaps ts x)[j]? = some c → ∃ c0, cs[j]? = some c0 := fun {j c} hc => by
      have hj : j < cs.length := by rw [← h1]; exact (List.getElem?_eq_some_iff.1 hc).1
      exact ⟨_, List.getElem?_eq_getElem hj⟩
    refine .fn _ _ _ vs us fx fy k1 (by rw [h1]; exact k2) k3 (fun j c hc => by simp at hc) (fun j c hc => ?_) fun j c hc => ?_
    · obtain ⟨c0, hc0⟩ := get hc
      exact k5 j c0 hc0
    · obtain ⟨c0, hc0⟩ := get hc
      exact h2 j c0 c _ hc0 hc (k6 j c0 hc0)

theorem cpt_head {t : Ty} {v : AV} {x : t.den} {u : Value} (h : decCpt t v = some x) (hv : RelV g w v u) : RelV (g.head bl K n0) w (.cptr (t.enc x)) u := by
  unfold decCpt at h
  split at h <;> try (cases h; done)
  rename_i ds
  split at h <;> try (cases h; done)
  rename_i y hy
  cases h
  have hd : decCaps [t] [.cptr ds] = some (x, ()) := by simp only [decCaps, hy]
  exact (caps_head (g := g) (bl := bl) (K := K) (n0 := n0) (w := w) hd).2 0 _ _ u rfl rfl hv

theorem cells_head (hr : HRel g H1 w) (hlt : ∀ b, b ∈ bl.map (·.1) → b < n0) : ∀ {ps : List Pat} {cs : List AV} {z : denL ps} {us : List Value}, ps.all (patOk bl n0) = true → decL H1 ps cs = some z → RelC g w cs us → RelC (g.head bl K n0) w (encL K ps z) us
  | [], cs, z, us, _, h, hc => by
    cases cs with
    | cons => cases h
    | nil =>
      have : us = [] := by have := hc.1; simpa using this
      subst this; exact .nil
  | .val t :: ps, cs, z, us, ho, h, hc => by
    obtain ⟨_, ho⟩ := and_spec (show (patOk bl n0 (.val t) && ps.all (patOk bl n0)) = true from ho)
    simp only [decL] at h
    split at h <;> try (cases h; done)
    rename_i x r hx
    split at h <;> try (cases h; done)
    rename_i y hy
    cases h
    obtain ⟨v1, v2, rfl, h1, h2⟩ := dec_sound t hx hc
    exact (enc_sound (g := g.head bl K n0) t h1).append (cells_head hr hlt ho hy h2)
  | .own b :: ps, cs, z, us, ho, h, hc => by
    obtain ⟨ho1, ho⟩ := and_spec (show (patOk bl n0 (.own b) && ps.all (patOk bl n0)) = true from ho)
    cases cs with
    | nil => cases h
    | cons c cs =>
      obtain ⟨h1, h⟩ := br_none (show br (ownIs H1 b c) (decL H1 ps cs) none = some z from h)
      obtain ⟨v, r, rfl, hv, hcs⟩ := hc.uncons
      exact .cons (own_head hr h1 (hlt b (isArr_mem ho1)) ho1 hv) (cells_head hr hlt ho h hcs)
  | .elt b o :: ps, cs, z, us, ho, h, hc => by
    obtain ⟨ho1, ho⟩ := and_spec (show (patOk bl n0 (.elt b o) && ps.all (patOk bl n0)) = true from ho)
    cases cs with
    | nil => cases h
    | cons c cs =>
      simp only [decL] at h
      split at h <;> try (cases h; done)
      rename_i x hx
      split at h <;> try (cases h; done)
      rename_i y hy
      cases h
      obtain ⟨v, r, rfl, hv, hcs⟩ := hc.uncons
      exact .cons (elt_head hr hx (hlt b (isArr_mem ho1)) ho1 hv) (cells_head hr hlt ho hy hcs)
  | .apt b :: ps, cs, z, us, ho, h, hc => by
    obtain ⟨ho1, ho⟩ := and_spec (show (patOk bl n0 (.apt b) && ps.all (patOk bl n0)) = true from ho)
    cases cs with
    | nil => cases h
    | cons c cs =>
      obtain ⟨h1, h⟩ := br_none (show br (aptIs H1 b c) (decL H1 ps cs) none = some z from h)
      obtain ⟨v, r, rfl, hv, hcs⟩ := hc.uncons
      exact .cons (apt_head hr h1 (hlt b (isArr_mem ho1)) ho1 hv) (cells_head hr hlt ho h hcs)
  | .cst v0 :: ps, cs, z, us, ho, h, hc => by
    obtain ⟨ho1, ho⟩ := and_spec (show (patOk bl n0 (.cst v0) && ps.all (patOk bl n0)) = true from ho)
    cases cs with
    | nil => cases h
    | cons c cs =>
      obtain ⟨h1, h⟩ := br_none (show br (avEq v0 c) (decL H1 ps cs) none = some z from h)
      obtain ⟨v, r, rfl, hv, hcs⟩ := hc.uncons
      exact .cons (cst_head h1 ho1 hv) (cells_head hr hlt ho h hcs)
  | .clo f ts :: ps, cs, z, us, ho, h, hc => by
    obtain ⟨ho1, ho⟩ := and_spec (show (patOk bl n0 (.clo f ts) && ps.all (patOk bl n0)) = true from ho)
    cases cs with
    | nil => cases h
    | cons c cs =>
      simp only [decL] at h
      split at h <;> try (cases h; done)
      rename_i x hx
      split at h <;> try (cases h; done)
      rename_i y hy
      cases h
      obtain ⟨v, r, rfl, hv, hcs⟩ := hc.uncons
      exact .cons (clo_head hx hv) (cells_head hr hlt ho hy hcs)
  | .cpt t :: ps, cs, z, us, ho, h, hc => by
    obtain ⟨ho1, ho⟩ := and_spec (show (patOk bl n0 (.cpt t) && ps.all (patOk bl n0)) = true from ho)
    cases cs with
    | nil => cases h
    | cons c cs =>
      simp only [decL] at h
      split at h <;> try (cases h; done)
      rename_i x hx
      split at h <;> try (cases h; done)
      rename_i y hy
      cases h
      obtain ⟨v, r, rfl, hv, hcs⟩ := hc.uncons
      exact .cons (cpt_head hx hv) (cells_head hr hlt ho hy hcs)

theorem slots_head (hr : HRel g H1 w) (hlt : ∀ b, b ∈ bl.map (·.1) → b < n0) {tm : Nat → AV} {us : Nat → Value} (htm : ∀ i, RelV g w (tm i) (us i)) : ∀ {sl : List (Nat × Pat)} {s : denS sl}, (sl.all fun p => patOk bl n0 p.2) = true → decS tm H1 sl = some s → ∀ i, RelV (g.head bl K n0) w (tmS K sl s i) (us i)
  | [], s, _, h, i => .undef _
  | (c, .val t) :: sl, s, ho, h, i => by
    obtain ⟨_, ho⟩ := and_spec (show (patOk bl n0 (.val t) && (sl.all fun p => patOk bl n0 p.2)) = true from ho)
    simp only [decS] at h
    split at h <;> try (cases h; done)
    rename_i x hx
    split at h <;> try (cases h; done)
    rename_i y hy
    cases h
    show RelV _ w (upd (tmS K sl y) c (t.val x) i) _
    by_cases e : i = c
    · subst e; rw [upd_same]; exact val_head hx (htm i)
    · rw [upd_ne _ _ e]; exact slots_head hr hlt htm ho hy i
  | (c, .own b) :: sl, s, ho, h, i => by
    obtain ⟨ho1, ho⟩ := and_spec (show (patOk bl n0 (.own b) && (sl.all fun p => patOk bl n0 p.2)) = true from ho)
    obtain ⟨h1, h⟩ := br_none (show br (ownIs H1 b (tm c)) (decS tm H1 sl) none = some s from h)
    show RelV _ w (upd (tmS K sl s) c (.own b K) i) _
    by_cases e : i = c
    · subst e; rw [upd_same]; exact own_head hr h1 (hlt b (isArr_mem ho1)) ho1 (htm i)
    · rw [upd_ne _ _ e]; exact slots_head hr hlt htm ho h i
  | (c, .elt b o) :: sl, s, ho, h, i => by
    obtain ⟨ho1, ho⟩ := and_spec (show (patOk bl n0 (.elt b o) && (sl.all fun p => patOk bl n0 p.2)) = true from ho)
    simp only [decS] at h
    split at h <;> try (cases h; done)
    rename_i x hx
    split at h <;> try (cases h; done)
    rename_i y hy
    cases h
    show RelV _ w (upd (tmS K sl y) c (.ptr b x o K) i) _
    by_cases e : i = c
    · subst e; rw [upd_same]; exact elt_head hr hx (hlt b (isArr_mem ho1)) ho1 (htm i)
    · rw [upd_ne _ _ e]; exact slots_head hr hlt htm ho hy i
  | (c, .apt b) :: sl, s, ho, h, i => by
    obtain ⟨ho1, ho⟩ := and_spec (show (patOk bl n0 (.apt b) && (sl.all fun p => patOk bl n0 p.2)) = true from ho)
    obtain ⟨h1, h⟩ := br_none (show br (aptIs H1 b (tm c)) (decS tm H1 sl) none = some s from h)
    show RelV _ w (upd (tmS K sl s) c (.ptr b 0 0 K) i) _
    by_cases e : i = c
    · subst e; rw [upd_same]; exact apt_head hr h1 (hlt b (isArr_mem ho1)) ho1 (htm i)
    · rw [upd_ne _ _ e]; exact slots_head hr hlt htm ho h i
  | (c, .cst v) :: sl, s, ho, h, i => by
    obtain ⟨ho1, ho⟩ := and_spec (show (patOk bl n0 (.cst v) && (sl.all fun p => patOk bl n0 p.2)) = true from ho)
    obtain ⟨h1, h⟩ := br_none (show br (avEq v (tm c)) (decS tm H1 sl) none = some s from h)
    show RelV _ w (upd (tmS K sl s) c v i) _
    by_cases e : i = c
    · subst e; rw [upd_same]; exact cst_head h1 ho1 (htm i)
    · rw [upd_ne _ _ e]; exact slots_head hr hlt htm ho h i
  | (c, .clo f ts) :: sl, s, ho, h, i => by
    obtain ⟨ho1, ho⟩ := and_spec (show (patOk bl n0 (.clo f ts) && (sl.all fun p => patOk bl n0 p.2)) = true from ho)
    simp only [decS] at h
    split at h <;> try (cases h; done)
    rename_i x hx
    split at h <;> try (cases h; done)
    rename_i y hy
    cases h
    show RelV _ w (upd (tmS K sl y) c (cloAV f ts x) i) _
    by_cases e : i = c
    · subst e; rw [upd_same]; exact clo_head hx (htm i)
    · rw [upd_ne _ _ e]; exact slots_head hr hlt htm ho hy i
  | (c, .cpt t) :: sl, s, ho, h, i => by
    obtain ⟨ho1, ho⟩ := and_spec (show (patOk bl n0 (.cpt t) && (sl.all fun p => patOk bl n0 p.2)) = true from ho)
    simp only [decS] at h
    split at h <;> try (cases h; done)
    rename_i x hx
    split at h <;> try (cases h; done)
    rename_i y hy
    cases h
    show RelV _ w (upd (tmS K sl y) c (.cptr (t.enc x)) i) _
    by_cases e : i = c
    · subst e; rw [upd_same]; exact cpt_head hx (htm i)
    · rw [upd_ne _ _ e]; exact slots_head hr hlt htm ho hy i

/-- What listed blocks may be at the start. -/
def Starts (K : Nat) (H : Hp) (bl : List (Nat × BPat)) (b : Nat) : Prop := (isArr bl b = true ∧ ∃ t l k, H b = .arr t l k ∧ k < K) ∨ (isArr bl b = false ∧ ∃ cs, H b = .box cs) ∨ (isArr bl b = false ∧ ∃ s p, H b = .siter s p) ∨ (isArr bl b = true ∧ ∃ kt vt es k, H b = .map kt vt es k ∧ k < K)

/-- From the state behind a round to a head. -/
theorem reset {g0 : Gh} {H0 Hb : Hp} {D0 : List Nat} {w0 : World} {Dx : List Nat} {Hx : Hp} {lo nt : Nat} {tm1 : Nat → AV} {a : Act} {sl : List (Nat × Pat)} {s : denS sl} {y : denB bl} {d : List Nat}
    (hr0 : HRel g0 H0 w0) (hfr0 : ∀ b, n0 ≤ b → g0.G b = .none) (hbl : (bl.all fun p => (Nat.blt p.1 n0).and (blkOk bl n0 p.2)) = true) (hst : ∀ b, b ∈ bl.map (·.1) → g0.G b ≠ .none → Starts K H0 bl b) (hsl : (sl.all fun p => patOk bl n0 p.2) = true)
    (T : Ext g0 H0 w0 Dx g Hx w) (hDx : ∀ b ∈ Dx, g0.G b ≠ .none → b ∈ D0 ++ bl.map (·.1)) (hD0 : ∀ b ∈ D0, g0.G b ≠ .none → g.G b = .dead ∧ H0 b ≠ .gone ∧ b ∉ bl.map (·.1)) (hHb : ∀ b, Hb b = .gone ∨ (Hb b = H0 b ∧ b ∉ D0)) (hHb2 : ∀ b, b ∉ D0 → Hb b = H0 b)
    (hr : HRel g H1 w) (htm : ∀ i, RelV g w (tm1 i) (a.tmps.getD i Go.undef)) (hnt : a.tmps.size = nt) (hdf : a.defers = [])
    (hnew : ∀ b, g0.G b = .none → g.G b ≠ .none → lo ≤ b) (h1 : decS tm1 H1 sl = some s) (h2 : decB H1 bl = some y) :
    Rel (g.head bl K n0) ⟨nt, tmS K sl s, hpB K Hb bl y, n0, d⟩ a w ∧ Ext g0 H0 w0 (D0 ++ bl.map (·.1)) (g.head bl K n0) (hpB K Hb bl y) w ∧ (∀ b, g0.G b = .none → (g.head bl K n0).G b ≠ .none → lo ≤ b) ∧ ∀ b ∈ D0, g0.G b ≠ .none → (g.head bl K n0).G b = .dead := by
  have hlt : ∀ b, b ∈ bl.map (·.1) → b < n0 := fun b hb => by
    obtain ⟨p, hp, rfl⟩ := List.mem_map.1 hb
    exact Nat.le_of_ble_eq_true (and_spec (List.all_eq_true.1 hbl p hp)).1
  have l0 : ∀ b, g0.G b ≠ .none → b < n0 := fun b hb => by
    rcases Nat.lt_or_ge b n0 with h | h
    · exact h
    · exact absurd (hfr0 b h) hb
  have look := lookB (H := Hb) (K := K) h2
  have un : ∀ b, b ∉ bl.map (·.1) → isArr bl b = false := fun b hb => by
    cases e : isArr bl b with
    | false => rfl
    | true => exact absurd (isArr_mem e) hb
  have gone : ∀ {x : Blk}, (∃ t l k, x = .arr t l k) ∨ (∃ cs, x = .box cs) → x ≠ .gone := by
    rintro x (⟨t, l, k, rfl⟩ | ⟨cs, rfl⟩) h <;> cases h
  -- what there was, unlisted, is as it was
  have keep : ∀ b, g0.G b ≠ .none → b ∉ bl.map (·.1) → b ∉ D0 → (g.head bl K n0).G b = g0.G b ∧ g.i b = g0.i b := fun b hn hb hb0 => by
    have := T.same b hn fun h => (List.mem_append.1 (hDx b h hn)).elim hb0 hb
    exact ⟨by rw [head_same (l0 b hn) (un b hb)]; exact this.1, this.2.1⟩
  -- a block of cells does not turn into another thing, nor does an iterator
  have kinds : ∀ b, g0.G b ≠ .none → g.G b ≠ g0.G b → (g0.G b = .box ∨ g0.G b = .siter) → g.G b ≠ .dead → False := fun b hn hne hk hd => by
    by_cases hbD : b ∈ Dx
    · rcases T.turn b hbD hn with e | ⟨e, e', _⟩ | ⟨e, e', _⟩ | ⟨t', k', n', e, _⟩ | ⟨t', k', n', k2, n2, e, _⟩ | ⟨kt, vt, k', k2, e, _⟩
      · exact hd e
      · exact hne (e'.trans e.symm)
      · exact hne (e'.trans e.symm)
      · rcases hk with h | h <;> rw [h] at e <;> cases e
      · rcases hk with h | h <;> rw [h] at e <;> cases e
      · rcases hk with h | h <;> rw [h] at e <;> cases e
    · exact hne (T.same b hn hbD).1
  have dead : ∀ b ∈ D0, g0.G b ≠ .none → (g.head bl K n0).G b = .dead := fun b hb hn => by
    obtain ⟨e1, _, e3⟩ := hD0 b hb hn
    rw [head_same (l0 b hn) (un b e3)]; exact e1
  have E2 : Ext g0 H0 w0 (D0 ++ bl.map (·.1)) (g.head bl K n0) (hpB K Hb bl y) w := by
    refine ⟨T.mono, fun r hF => ?_, T.size, fun r hlt' hb => T.frame r hlt' fun b hbD hn => hb b (hDx b hbD hn) hn, fun b hb hn => ?_, fun b hn hb => ?_, fun b hb hn r c hi => ?_, fun b hb hn => ?_, fun b r c h h' hi => ?_, T.env⟩
    · rcases T.more r hF with h | ⟨b, hb, hn, hc⟩ | h
      · exact .inl h
      · exact .inr (.inl ⟨b, hDx b hb hn, hn, hc⟩)
      · exact .inr (.inr h)
    · rcases List.mem_append.1 hb with hb | hb
      · exact (hD0 b hb hn).2.1
      · rcases hst b hb hn with ⟨_, t, l, k, e, _⟩ | ⟨_, cs, e⟩ | ⟨_, s', p', e⟩ | ⟨_, kt, vt, es, k, e, _⟩ <;> rw [e] <;> exact fun h => by cases h
    · have hb1 : b ∉ bl.map (·.1) := fun h => hb (List.mem_append.2 (.inr h))
      have hb0 : b ∉ D0 := fun h => hb (List.mem_append.2 (.inl h))
      refine ⟨(keep b hn hb1 hb0).1, (keep b hn hb1 hb0).2, ?_⟩
      rcases look b with ⟨_, _, h⟩ | ⟨h, _⟩ | ⟨h, _⟩ | ⟨h, _⟩ | ⟨h, _⟩
      · rw [h, hHb2 b hb0]
      · exact absurd h hb1
      · exact absurd h hb1
      · exact absurd h hb1
      · exact absurd h hb1
    · by_cases hbD : b ∈ Dx
      · exact T.moved b hbD hn r c hi
      · rw [show (g.head bl K n0).i b = g.i b from rfl, (T.same b hn hbD).2.1] at hi
        exact .inl ⟨c, hi⟩
    · rcases List.mem_append.1 hb with hb | hb
      · exact .inl (dead b hb hn)
      rcases hst b hb hn with ⟨ha, t0, l0', k0, e0, hk⟩ | ⟨ha, cs0, e0⟩ | ⟨ha, s0, p0, e0⟩ | ⟨ha, kt0, vt0, es0, k0, e0, hk⟩
      · have hG0 : g0.G b = .arr t0 k0 l0'.length := by rw [hr0.kd b (fun e => by rw [e0] at e; cases e), e0]; rfl
        rcases look b with ⟨h, _⟩ | ⟨_, _, t, l, k, e1, _⟩ | ⟨_, h, _⟩ | ⟨_, h, _⟩ | ⟨_, _, kt, vt, es, k, e1, _⟩
        · exact absurd hb h
        · have hG1 : g.G b = .arr t k l.length := by rw [hr.kd b (fun e => by rw [e1] at e; cases e), e1]; rfl
          have hG2 := head_arr (K := K) (hlt b hb) ha hG1
          have ht : t = t0 := by
            by_cases hbD : b ∈ Dx
            · rcases T.turn b hbD hn with e | ⟨e, _⟩ | ⟨e, _⟩ | ⟨t', k', n', e, e', _⟩ | ⟨t', k', n', k2, n2, e, e', _⟩ | ⟨kt, vt, k', k2, e, _⟩
              · rw [hG1] at e; cases e
              · rw [hG0] at e; cases e
              · rw [hG0] at e; cases e
              · have a1 := hG0.symm.trans e; have a2 := hG1.symm.trans e'
                injection a1 with a1; injection a2 with a2; rw [a1, a2]
              · have a1 := hG0.symm.trans e; have a2 := hG1.symm.trans e'
                injection a1 with a1; injection a2 with a2; rw [a1, a2]
              · rw [hG0] at e; cases e
            · have := (T.same b hn hbD).1
              rw [hG1, hG0] at this
              injection this
          subst ht
          exact .inr (.inr (.inr (.inr (.inl ⟨t, k0, _, K, _, hG0, hG2, hk⟩))))
        · rw [ha] at h; cases h
        · rw [ha] at h; cases h
        · have hG1 : g.G b = .map kt vt k := by rw [hr.kd b (fun e => by rw [e1] at e; cases e), e1]; rfl
          exfalso
          by_cases hbD : b ∈ Dx
          · rcases T.turn b hbD hn with e | ⟨e, _⟩ | ⟨e, _⟩ | ⟨t', k', n', e, e', _⟩ | ⟨t', k', n', k2, n2, e, e', _⟩ | ⟨kt, vt, k', k2, e, _⟩
            · rw [hG1] at e; cases e
            · rw [hG0] at e; cases e
            · rw [hG0] at e; cases e
            · rw [hG1] at e'; cases e'
            · rw [hG1] at e'; cases e'
            · rw [hG0] at e; cases e
          · have := (T.same b hn hbD).1
            rw [hG1, hG0] at this
            cases this
      · have hG0 : g0.G b = .box := by rw [hr0.kd b (fun e => by rw [e0] at e; cases e), e0]; rfl
        rcases look b with ⟨h, _⟩ | ⟨_, h, _⟩ | ⟨_, _, ps, cs, z, _, e1, _⟩ | ⟨_, _, s', p', e1, _⟩ | ⟨_, h, _⟩
        · exact absurd hb h
        · rw [ha] at h; cases h
        · have hG1 : g.G b = .box := by rw [hr.kd b (fun e => by rw [e1] at e; cases e), e1]; rfl
          have hG2 : (g.head bl K n0).G b = .box := by rw [head_same (hlt b hb) ha]; exact hG1
          refine .inr (.inl ⟨hG0, hG2, ?_⟩)
          show g.i b = g0.i b
          by_cases hbD : b ∈ Dx
          · rcases T.turn b hbD hn with e | ⟨_, _, e⟩ | ⟨e, _⟩ | ⟨t', k', n', e, _⟩ | ⟨t', k', n', k2, n2, e, _⟩ | ⟨kt, vt, k', k2, e, _⟩
            · rw [hG1] at e; cases e
            · exact e
            · rw [hG0] at e; cases e
            · rw [hG0] at e; cases e
            · rw [hG0] at e; cases e
            · rw [hG0] at e; cases e
          · exact (T.same b hn hbD).2.1
        · have hG1 : g.G b = .siter := by rw [hr.kd b (fun e => by rw [e1] at e; cases e), e1]; rfl
          exact (kinds b hn (by rw [hG0, hG1]; exact fun h => by cases h) (by rw [hG0]; exact .inl rfl) (by rw [hG1]; exact fun h => by cases h)).elim
        · rw [ha] at h; cases h
      · have hG0 : g0.G b = .siter := by rw [hr0.kd b (fun e => by rw [e0] at e; cases e), e0]; rfl
        rcases look b with ⟨h, _⟩ | ⟨_, h, _⟩ | ⟨_, _, ps, cs, z, _, e1, _⟩ | ⟨_, _, s', p', e1, _⟩ | ⟨_, h, _⟩
        · exact absurd hb h
        · rw [ha] at h; cases h
        · have hG1 : g.G b = .box := by rw [hr.kd b (fun e => by rw [e1] at e; cases e), e1]; rfl
          exact (kinds b hn (by rw [hG0, hG1]; exact fun h => by cases h) (by rw [hG0]; exact .inr rfl) (by rw [hG1]; exact fun h => by cases h)).elim
        · have hG1 : g.G b = .siter := by rw [hr.kd b (fun e => by rw [e1] at e; cases e), e1]; rfl
          have hG2 : (g.head bl K n0).G b = .siter := by rw [head_same (hlt b hb) ha]; exact hG1
          refine .inr (.inr (.inl ⟨hG0, hG2, ?_⟩))
          show g.i b = g0.i b
          by_cases hbD : b ∈ Dx
          · rcases T.turn b hbD hn with e | ⟨e1', _, e⟩ | ⟨_, _, e⟩ | ⟨t', k', n', e, _⟩ | ⟨t', k', n', k2, n2, e, _⟩ | ⟨kt, vt, k', k2, e, _⟩
            · rw [hG1] at e; cases e
            · exact absurd (hG0.symm.trans e1') (fun h => by cases h)
            · exact e
            · rw [hG0] at e; cases e
            · rw [hG0] at e; cases e
            · rw [hG0] at e; cases e
          · exact (T.same b hn hbD).2.1
        · rw [ha] at h; cases h
      · have hG0 : g0.G b = .map kt0 vt0 k0 := by rw [hr0.kd b (fun e => by rw [e0] at e; cases e), e0]; rfl
        rcases look b with ⟨h, _⟩ | ⟨_, _, t, l, k, e1, _⟩ | ⟨_, h, _⟩ | ⟨_, h, _⟩ | ⟨_, _, kt, vt, es, k, e1, _⟩
        · exact absurd hb h
        · have hG1 : g.G b = .arr t k l.length := by rw [hr.kd b (fun e => by rw [e1] at e; cases e), e1]; rfl
          exfalso
          by_cases hbD : b ∈ Dx
          · rcases T.turn b hbD hn with e | ⟨e, _⟩ | ⟨e, _⟩ | ⟨t', k', n', e, e', _⟩ | ⟨t', k', n', k2, n2, e, e', _⟩ | ⟨kt, vt, k', k2, _, e', _⟩
            · rw [hG1] at e; cases e
            · rw [hG0] at e; cases e
            · rw [hG0] at e; cases e
            · rw [hG0] at e; cases e
            · rw [hG0] at e; cases e
            · rw [hG1] at e'; cases e'
          · have := (T.same b hn hbD).1
            rw [hG1, hG0] at this
            cases this
        · rw [ha] at h; cases h
        · rw [ha] at h; cases h
        · have hG1 : g.G b = .map kt vt k := by rw [hr.kd b (fun e => by rw [e1] at e; cases e), e1]; rfl
          have hG2 := head_map (K := K) (hlt b hb) ha hG1
          have ht : kt = kt0 ∧ vt = vt0 ∧ g.i b = g0.i b := by
            by_cases hbD : b ∈ Dx
            · rcases T.turn b hbD hn with e | ⟨e, _⟩ | ⟨e, _⟩ | ⟨t', k', n', e, e', _⟩ | ⟨t', k', n', k2, n2, e, e', _⟩ | ⟨kt', vt', k', k2, e, e', _, e''⟩
              · rw [hG1] at e; cases e
              · rw [hG0] at e; cases e
              · rw [hG0] at e; cases e
              · rw [hG0] at e; cases e
              · rw [hG0] at e; cases e
              · have a1 := hG0.symm.trans e; have a2 := hG1.symm.trans e'
                injection a1 with a1 b1; injection a2 with a2 b2; exact ⟨by rw [a1, a2], by rw [b1, b2], e''⟩
            · have := T.same b hn hbD
              have h3 := this.1
              rw [hG1, hG0] at h3
              injection h3 with a1 b1
              exact ⟨a1, b1, this.2.1⟩
          obtain ⟨rfl, rfl, hi⟩ := ht
          exact .inr (.inr (.inr (.inr (.inr ⟨kt, vt, k0, K, hG0, hG2, hk, hi⟩))))
    · exact (T.fresh b r c h (head_live h').2 hi).imp id fun ⟨b', hb', hn', e⟩ => ⟨b', hDx b' hb' hn', hn', e⟩
  refine ⟨⟨slots_head hr hlt htm hsl h1, hnt, hdf, ⟨fun b => ?_, fun b hb => ?_, fun b b' r c c' k1 k2 k3 k4 k5 k6 => ?_, fun b r c k1 k2 k3 => ?_, hr.ex⟩, fun b hb => head_ge hb⟩, E2, fun b h h' => hnew b h (head_live h').2, dead⟩
  · show RelB _ w b (hpB K Hb bl y b)
    rcases look b with ⟨hb, _, h⟩ | ⟨_, _, t, l, k, e1, e2⟩ | ⟨hb, _, ps, cs, z, hm, e1, hz, e2⟩ | ⟨_, _, s', p', e1, e2⟩ | ⟨_, _, kt, vt, es, k, e1, e2⟩
    · rw [h]
      rcases hHb b with hg | ⟨hg, hb0⟩
      · rw [hg]; exact trivial
      · rw [hg]
        by_cases hg : H0 b = .gone
        · rw [hg]; exact trivial
        · exact RelB.step E2 hr0 hg fun h => (List.mem_append.1 h).elim hb0 hb
    · rw [e2]
      have := hr.blk b
      rw [e1] at this
      exact this
    · rw [e2]
      have := hr.blk b
      rw [e1] at this
      obtain ⟨r, c, vs, e, f1, f2, f3⟩ := this
      exact ⟨r, c, vs, e, f1, f2, cells_head hr hlt (and_spec (List.all_eq_true.1 hbl _ hm)).2 hz f3⟩
    · rw [e2]
      have := hr.blk b
      rw [e1] at this
      exact this
    · rw [e2]
      have := hr.blk b
      rw [e1] at this
      exact this
  · show _ = kindOf (hpB K Hb bl y b)
    have hb : hpB K Hb bl y b = .gone → False := hb
    rcases look b with ⟨hm, hu, h⟩ | ⟨hm, ha, t, l, k, e1, e2⟩ | ⟨hm, ha, ps, cs, z, _, e1, hz, e2⟩ | ⟨hm, ha, s', p', e1, e2⟩ | ⟨hm, ha, kt, vt, es, k, e1, e2⟩
    · rw [h] at hb ⊢
      rcases hHb b with hg | ⟨hg, hb0⟩
      · exact (hb hg).elim
      · rw [hg] at hb ⊢
        have hk := hr0.kd b hb
        rw [← hk]
        exact (keep b (by rw [hk]; exact kindOf_none) hm hb0).1
    · rw [e2, head_arr (K := K) (hlt b hm) ha (by rw [hr.kd b (fun e => by rw [e1] at e; cases e), e1]; rfl : g.G b = .arr t k l.length)]; rfl
    · rw [e2, head_same (hlt b hm) ha, hr.kd b (fun e => by rw [e1] at e; cases e), e1]; rfl
    · rw [e2, head_same (hlt b hm) ha, hr.kd b (fun e => by rw [e1] at e; cases e), e1]
    · rw [e2, head_map (K := K) (hlt b hm) ha (by rw [hr.kd b (fun e => by rw [e1] at e; cases e), e1]; rfl : g.G b = .map kt vt k)]; rfl
  · exact hr.inj b b' r c c' k1 k2 (head_live k3).2 (head_dead k3 k4) (head_live k5).2 (head_dead k5 k6)
  · exact hr.disj b r c k1 (head_live k2).2 (head_dead k2 k3)
end
end Go.VI

end
section
/- Loops: a loop's entry is right. -/
namespace Go.VI
set_option linter.unusedVariables false
set_option linter.unusedSimpArgs false
variable {R : Type} {P : Program}

theorem hpB_base {K : Nat} {H : Hp} : ∀ {bl : List (Nat × BPat)} {y : denB bl} {b : Nat}, hpB K (fun _ => .gone) bl y b = .gone ∨ (b ∈ bl.map (·.1) ∧ hpB K (fun _ => .gone) bl y b = hpB K H bl y b)
  | [], _, _ => .inl rfl
  | (c, .arr t) :: l, y, b => by
    show upd (hpB K (fun _ => .gone) l y.2) c (.arr t y.1 K) b = _ ∨ _ ∧ upd (hpB K (fun _ => .gone) l y.2) c (.arr t y.1 K) b = upd (hpB K H l y.2) c (.arr t y.1 K) b
    by_cases e : b = c
    · subst e; rw [upd_same, upd_same]; exact .inr ⟨List.mem_cons_self, rfl⟩
    · rw [upd_ne _ _ e, upd_ne _ _ e]
      exact (hpB_base (bl := l)).imp id fun h => ⟨List.mem_cons_of_mem _ h.1, h.2⟩
  | (c, .box ps) :: l, y, b => by
    show upd (hpB K (fun _ => .gone) l y.2) c (.box (encL K ps y.1)) b = _ ∨ _ ∧ upd (hpB K (fun _ => .gone) l y.2) c (.box (encL K ps y.1)) b = upd (hpB K H l y.2) c (.box (encL K ps y.1)) b
    by_cases e : b = c
    · subst e; rw [upd_same, upd_same]; exact .inr ⟨List.mem_cons_self, rfl⟩
    · rw [upd_ne _ _ e, upd_ne _ _ e]
      exact (hpB_base (bl := l)).imp id fun h => ⟨List.mem_cons_of_mem _ h.1, h.2⟩
  | (c, .siter) :: l, y, b => by
    show upd (hpB K (fun _ => .gone) l y.2) c (.siter y.1.1 y.1.2) b = _ ∨ _ ∧ upd (hpB K (fun _ => .gone) l y.2) c (.siter y.1.1 y.1.2) b = upd (hpB K H l y.2) c (.siter y.1.1 y.1.2) b
    by_cases e : b = c
    · subst e; rw [upd_same, upd_same]; exact .inr ⟨List.mem_cons_self, rfl⟩
    · rw [upd_ne _ _ e, upd_ne _ _ e]
      exact (hpB_base (bl := l)).imp id fun h => ⟨List.mem_cons_of_mem _ h.1, h.2⟩
  | (c, .map kt vt) :: l, y, b => by
    show upd (hpB K (fun _ => .gone) l y.2) c (.map kt vt y.1 K) b = _ ∨ _ ∧ upd (hpB K (fun _ => .gone) l y.2) c (.map kt vt y.1 K) b = upd (hpB K H l y.2) c (.map kt vt y.1 K) b
    by_cases e : b = c
    · subst e; rw [upd_same, upd_same]; exact .inr ⟨List.mem_cons_self, rfl⟩
    · rw [upd_ne _ _ e, upd_ne _ _ e]
      exact (hpB_base (bl := l)).imp id fun h => ⟨List.mem_cons_of_mem _ h.1, h.2⟩

theorem dec0_spec {L : LoopP} {sl : List (Nat × Pat)} {st : St} {x : denS sl × denB L.bl} (h : L.dec0 sl st = some x) : decS st.tm st.hp sl = some x.1 ∧ decB st.hp L.bl = some x.2 := by
  unfold LoopP.dec0 at h
  split at h <;> try (cases h; done)
  rename_i s hs
  split at h <;> try (cases h; done)
  rename_i y hy
  cases h
  exact ⟨hs, hy⟩
theorem findFl_fst {tm : Nat → AV} {H : Hp} : ∀ {l : List (Nat × Root)} {acc rho : List (Nat × Nat)}, findFl tm H l acc = some rho → ∀ c, c ∈ rho.map (·.1) → c ∈ acc.map (·.1) ∨ c ∈ l.map (·.1)
  | [], acc, rho, h, c, hc => by cases h; exact .inl hc
  | (q, .slot i) :: l, acc, rho, h, c, hc => by
    simp only [findFl] at h
    split at h <;> try (cases h; done)
    rcases findFl_fst h c hc with h | h
    · rcases List.mem_cons.1 h with h | h
      · exact .inr (by rw [h]; exact List.mem_cons_self)
      · exact .inl h
    · exact .inr (List.mem_cons_of_mem _ h)
  | (q, .cell b j) :: l, acc, rho, h, c, hc => by
    simp only [findFl] at h
    split at h <;> try (cases h; done)
    split at h <;> try (cases h; done)
    split at h <;> try (cases h; done)
    rcases findFl_fst h c hc with h | h
    · rcases List.mem_cons.1 h with h | h
      · exact .inr (by rw [h]; exact List.mem_cons_self)
      · exact .inl h
    · exact .inr (List.mem_cons_of_mem _ h)
theorem rho_spec {L : LoopP} {st : St} {rho : List (Nat × Nat)} (h : L.rho st = some rho) : noDup (rho.map (·.1)) = true ∧ noDup (rho.map (·.2)) = true ∧ ∀ c, c ∈ rho.map (·.1) → c ∈ L.fl.map (·.1) := by
  unfold LoopP.rho at h
  split at h
  · cases h; exact ⟨rfl, rfl, fun c hc => by simp at hc⟩
  · split at h <;> try (cases h; done)
    rename_i rho' hf
    obtain ⟨h1, h2⟩ := br_none h
    cases h2
    obtain ⟨h1, h3⟩ := and_spec h1
    exact ⟨h1, h3, fun c hc => (findFl_fst hf c hc).resolve_left (by simp)⟩
theorem dec_spec {L : LoopP} {sl : List (Nat × Pat)} {st : St} {x : denS sl × denB L.bl} (h : L.dec sl st = some x) : ∃ rho, L.rho st = some rho ∧ decS (renS rho st).tm (renS rho st).hp sl = some x.1 ∧ decB (renS rho st).hp L.bl = some x.2 := by
  unfold LoopP.dec at h
  split at h <;> try (cases h; done)
  rename_i rho hr
  exact ⟨rho, hr, dec0_spec h⟩
theorem renS_hp {rho : List (Nat × Nat)} {st : St} (h : rho ≠ []) : (renS rho st).hp = renH rho st.hp := by
  cases rho with
  | nil => exact absurd rfl h
  | cons => rfl
theorem renS_rel {g : Gh} {rho : List (Nat × Nat)} {st : St} {w : World} {us : Nat → Value} (hf : noDup (rho.map (·.1)) = true) (hs : noDup (rho.map (·.2)) = true) (hr : HRel g st.hp w) (ht : ∀ i, RelV g w (st.tm i) (us i)) :
    HRel (g.ren rho) (renS rho st).hp w ∧ ∀ i, RelV (g.ren rho) w ((renS rho st).tm i) (us i) := by
  cases rho with
  | nil => rw [ren_nil]; exact ⟨hr, ht⟩
  | cons p l => exact ⟨hr.ren hf hs, fun i => renV hf 4 (ht i)⟩
theorem look_there {H : Hp} {bl : List (Nat × BPat)} {y : denB bl} (h : decB H bl = some y) {b : Nat} (hb : b ∈ bl.map (·.1)) : H b ≠ .gone := by
  rcases lookB (H := H) (K := 0) h b with ⟨h, _⟩ | ⟨_, _, t, l, k, e, _⟩ | ⟨_, _, ps, cs, z, _, e, _⟩ | ⟨_, _, s, p, e, _⟩ | ⟨_, _, kt, vt, es, k, e, _⟩
  · exact absurd hb h
  all_goals rw [e]; exact fun h => by cases h
/-- The blocks that go by new numbers are there, and are not listed themselves. -/
theorem olds_spec {L : LoopP} {st : St} {rho : List (Nat × Nat)} {y : denB L.bl} (hn : ∀ c, c ∈ L.fl.map (·.1) → c ∈ L.bl.map (·.1)) (hr : L.rho st = some rho) (hy : decB (renS rho st).hp L.bl = some y) :
    ∀ m, m ∈ rho.map (·.2) → st.hp m ≠ .gone ∧ (m ∉ rho.map (·.1) → m ∉ L.bl.map (·.1)) := fun m hm => by
  obtain ⟨h1, h2, h3⟩ := rho_spec hr
  have hne : rho ≠ [] := fun e => by rw [e] at hm; simp at hm
  rw [renS_hp hne] at hy
  refine ⟨?_, fun h h' => ?_⟩
  · obtain ⟨p, hp, rfl⟩ := List.mem_map.1 hm
    have hc : p.1 ∈ rho.map (·.1) := List.mem_map.2 ⟨_, hp, rfl⟩
    have := look_there hy (hn _ (h3 _ hc))
    rw [renH_c hc, fst_inj h1 (lookN_mem hc) hp] at this
    exact renBlk_gone this
  · exact look_there hy h' (renH_m h hm)

theorem isArr_fix {fl : List (Nat × Root)} {b : Nat} (hb : b ∉ fl.map (·.1)) : ∀ bl : List (Nat × BPat), isArr (bl.filter fun p => !(memN (fl.map (·.1)) p.1)) b = isArr bl b
  | [] => rfl
  | p :: l => by
    rw [List.filter_cons]
    have ih := isArr_fix hb l
    obtain ⟨c, q⟩ := p
    by_cases hc : memN (fl.map (·.1)) c = true
    · rw [if_neg (by simp [hc]), ih]
      have hne : Nat.beq b c = false := by
        cases e : Nat.beq b c with
        | false => rfl
        | true => rw [← Nat.eq_of_beq_eq_true e] at hc; exact absurd (memN_iff.1 hc) hb
      cases q <;> simp only [isArr, hne] <;> rfl
    · rw [if_pos (by simpa using hc)]
      cases q <;> simp only [isArr, ih]
theorem fixedB_arr {fl : List (Nat × Root)} {bl : List (Nat × BPat)} {b : Nat} (hb : b ∉ fl.map (·.1)) : isArr (fixedB fl bl) b = isArr bl b := by
  unfold fixedB
  split
  · rfl
  · exact isArr_fix hb bl
theorem fixedB_mem {fl : List (Nat × Root)} {bl : List (Nat × BPat)} {b : Nat} (hb : b ∉ fl.map (·.1)) (h : b ∈ bl.map (·.1)) : b ∈ (fixedB fl bl).map (·.1) := by
  unfold fixedB
  split
  · exact h
  · obtain ⟨p, hp, rfl⟩ := List.mem_map.1 h
    exact List.mem_map.2 ⟨p, List.mem_filter.2 ⟨hp, by rw [memB_false.2 hb]; rfl⟩, rfl⟩

/-- How a loop is left. -/
def LoopP.ex (L : LoopP) : L.Out → Ex
  | .inl _ => .exit L.id
  | .inr _ => .ret
def LoopP.out (L : LoopP) (st : St) (Hb : Hp) (D0 : List Nat) : L.Out → St
  | .inl y => L.st st.nt (st.n + L.fl.length) Hb ((D0 ++ L.bl.map (·.1)) ++ st.dirty) L.s1 y
  | .inr y => L.st st.nt (st.n + L.fl.length) Hb ((D0 ++ L.bl.map (·.1)) ++ st.dirty) L.s2 y

section
variable {L : LoopP} {st : St} {g0 : Gh} {w0 : World} {lo : Nat} {D0 : List Nat} {Hb : Hp}

theorem LoopP.turnover (hok : L.ok st.n st.hp = true) (hr0 : HRel g0 st.hp w0) (hfr0 : ∀ b, st.n ≤ b → g0.G b = .none) (hlo : lo ≤ st.n) (hHb : ∀ b, Hb b = .gone ∨ (Hb b = st.hp b ∧ b ∉ D0)) (hHb2 : ∀ b, b ∉ D0 → Hb b = st.hp b)
    {g1 : Gh} {Dx D' : List Nat} {Hx : Hp} {w' : World} {a' : Act} {st1 : St} {sl : List (Nat × Pat)} {x : denS sl × denB L.bl} {rho : List (Nat × Nat)} {d : List Nat} (hsl : (sl.all fun p => patOk L.bl (st.n + L.fl.length) p.2) = true)
    (T : Ext g0 st.hp w0 Dx g1 Hx w') (hD1 : ∀ b ∈ Dx, g0.G b ≠ .none → b ∈ D') (hD2 : ∀ b ∈ D', g0.G b ≠ .none → b ∈ D0 ++ L.bl.map (·.1)) (hD3 : ∀ b ∈ D', g0.G b ≠ .none → b ∈ Dx ∨ b ∈ rho.map (·.2)) (hD4 : ∀ b ∈ rho.map (·.2), g0.G b ≠ .none → b ∈ D')
    (hseen : ∀ b ∈ D0, g0.G b ≠ .none → st.hp b ≠ .gone ∧ b ∉ L.bl.map (·.1)) (hdead : ∀ b ∈ D0, g0.G b ≠ .none → g1.G b = .dead ∨ b ∈ rho.map (·.2))
    (hr1 : HRel g1 st1.hp w') (htm : ∀ i, RelV g1 w' (st1.tm i) (a'.tmps.getD i Go.undef)) (hnt : a'.tmps.size = st.nt) (hdf : a'.defers = []) (hnew : ∀ b, g0.G b = .none → g1.G b ≠ .none → lo ≤ b)
    (hrho : L.rho st1 = some rho) (h1 : decS (renS rho st1).tm (renS rho st1).hp sl = some x.1) (h2 : decB (renS rho st1).hp L.bl = some x.2) :
    Rel ((g1.ren rho).head L.bl L.K (st.n + L.fl.length)) (L.st st.nt (st.n + L.fl.length) Hb d sl x) a' w' ∧ Ext g0 st.hp w0 (D0 ++ L.bl.map (·.1)) ((g1.ren rho).head L.bl L.K (st.n + L.fl.length)) (hpB L.K Hb L.bl x.2) w' ∧
      (∀ b, g0.G b = .none → ((g1.ren rho).head L.bl L.K (st.n + L.fl.length)).G b ≠ .none → lo ≤ b) ∧ ∀ b ∈ D0, g0.G b ≠ .none → ((g1.ren rho).head L.bl L.K (st.n + L.fl.length)).G b = .dead := by
  obtain ⟨o1, o4⟩ := and_spec hok
  obtain ⟨o1, o2⟩ := and_spec o1
  obtain ⟨o1, o3⟩ := and_spec o1
  obtain ⟨o1, _⟩ := and_spec o1
  obtain ⟨n1, n2, n3⟩ := rho_spec hrho
  have flok : ∀ c, c ∈ L.fl.map (·.1) → st.n ≤ c ∧ c ∈ L.bl.map (·.1) := fun c hc => by
    obtain ⟨p, hp, rfl⟩ := List.mem_map.1 hc
    obtain ⟨q1, q2⟩ := and_spec (List.all_eq_true.1 o4 p hp)
    exact ⟨Nat.le_of_ble_eq_true q1, memN_iff.1 q2⟩
  have hst : ∀ b, b ∈ L.bl.map (·.1) → g0.G b ≠ .none → Starts L.K st.hp L.bl b := fun b hb hn => by
    have hf : b ∉ L.fl.map (·.1) := fun h => hn (hfr0 b (flok b h).1)
    have := startLook o3 b (fixedB_mem hf hb)
    rw [fixedB_arr hf] at this
    exact this
  have hs' : ∀ b ∈ D', g0.G b ≠ .none → st.hp b ≠ .gone := fun b hb hn => by
    rcases List.mem_append.1 (hD2 b hb hn) with h | h
    · exact (hseen b h hn).1
    · rcases hst b h hn with ⟨_, t, l, k, e, _⟩ | ⟨_, cs, e⟩ | ⟨_, s', p', e⟩ | ⟨_, kt, vt, es, k, e, _⟩ <;> rw [e] <;> exact fun h => by cases h
  have nc : ∀ b, b ∈ rho.map (·.1) → g0.G b = .none := fun b hb => hfr0 b (flok b (n3 b hb)).1
  have T' := T.ren n1 hD1 hs' hD3 nc hD4
  obtain ⟨r1, r2⟩ := renS_rel n1 n2 hr1 htm
  refine reset (Hb := Hb) (D0 := D0) hr0 (fun b hb => hfr0 b (by omega)) o1 hst hsl T' hD2 (fun b hb hn => ?_) hHb hHb2 r1 r2 hnt hdf (fun b h h' => ?_) h1 h2
  · obtain ⟨q1, q2⟩ := hseen b hb hn
    have hc : b ∉ rho.map (·.1) := fun h => hn (nc b h)
    refine ⟨?_, q1, q2⟩
    by_cases hm : b ∈ rho.map (·.2)
    · exact ren_m hc hm (T.live hn)
    · rw [ren_o hc hm]; exact (hdead b hb hn).resolve_right hm
  · by_cases hc : b ∈ rho.map (·.1)
    · exact Nat.le_trans hlo (flok b (n3 b hc)).1
    · exact hnew b h (ren_live hc h')

/-- From a head, through what is walked, to where it is left. -/
theorem LoopP.after (hok : L.ok st.n st.hp = true) (hr0 : HRel g0 st.hp w0) (hfr0 : ∀ b, st.n ≤ b → g0.G b = .none) (hlo : lo ≤ st.n) (hHb : ∀ b, Hb b = .gone ∨ (Hb b = st.hp b ∧ b ∉ D0)) (hHb2 : ∀ b, b ∉ D0 → Hb b = st.hp b)
    (hseen : ∀ b ∈ D0, g0.G b ≠ .none → st.hp b ≠ .gone ∧ b ∉ L.bl.map (·.1)) {g g1 : Gh} {w w' : World} {x : denS L.sl × denB L.bl} {a' : Act} {st1 : St} {sl : List (Nat × Pat)} {x' : denS sl × denB L.bl}
    (hfull : HRel g (hpB L.K Hb L.bl x.2) w) (hext : Ext g0 st.hp w0 (D0 ++ L.bl.map (·.1)) g (hpB L.K Hb L.bl x.2) w) (hnew : ∀ b, g0.G b = .none → g.G b ≠ .none → lo ≤ b) (hdead : ∀ b ∈ D0, g0.G b ≠ .none → g.G b = .dead)
    (hr1 : Rel g1 st1 a' w') (hg : Goes (st.n + L.fl.length) g (L.st st.nt (st.n + L.fl.length) (fun _ => .gone) [] L.sl x) w g1 st1 w') (hsl : (sl.all fun p => patOk L.bl (st.n + L.fl.length) p.2) = true) (hx' : L.dec sl st1 = some x') :
    ∃ g2, Rel g2 (L.st st.nt (st.n + L.fl.length) Hb ((D0 ++ L.bl.map (·.1)) ++ st.dirty) sl x') a' w' ∧ Ext g0 st.hp w0 (D0 ++ L.bl.map (·.1)) g2 (hpB L.K Hb L.bl x'.2) w' ∧ (∀ b, g0.G b = .none → g2.G b ≠ .none → lo ≤ b) ∧ ∀ b ∈ D0, g0.G b ≠ .none → g2.G b = .dead := by
  obtain ⟨o1, o4⟩ := and_spec hok
  obtain ⟨D, _, hx⟩ := hg.ext
  have hx : Ext g (hpB L.K (fun _ => .gone) L.bl x.2) w D g1 st1.hp w' := hx
  have hx2 : Ext g (hpB L.K Hb L.bl x.2) w D g1 (hpB L.K Hb L.bl x.2) w' := hx.rebase (fun b hn hb hg => by
    rcases hpB_base (K := L.K) (H := Hb) (bl := L.bl) (y := x.2) (b := b) with h | ⟨_, h⟩
    · exact absurd h hg
    · rw [← h]; exact hg) fun b _ _ _ => rfl
  have T := hext.trans hx2 hfull
  have inD : ∀ b ∈ D, g.G b ≠ .none → b ∈ L.bl.map (·.1) := fun b hb hn => by
    have hs := hx.seen b hb hn
    rcases hpB_base (K := L.K) (H := Hb) (bl := L.bl) (y := x.2) (b := b) with h | ⟨h, _⟩
    · exact absurd h hs
    · exact h
  have hDx : ∀ b ∈ D ++ (D0 ++ L.bl.map (·.1)), g0.G b ≠ .none → b ∈ D0 ++ L.bl.map (·.1) := fun b hb hn => by
    rcases List.mem_append.1 hb with hb | hb
    · exact List.mem_append.2 (.inr (inD b hb (hext.live hn)))
    · exact hb
  have hnew1 : ∀ b, g0.G b = .none → g1.G b ≠ .none → lo ≤ b := fun b h1 h2 => by
    by_cases h3 : g.G b = .none
    · exact Nat.le_trans (Nat.le_trans hlo (Nat.le_add_right _ _)) (hg.new b h3 h2)
    · exact hnew b h1 h3
  have hnt : a'.tmps.size = st.nt := by rw [hr1.nt, hg.nt]; rfl
  have hdead1 : ∀ b ∈ D0, g0.G b ≠ .none → g1.G b = .dead := fun b hb hn => by
    have hnl := (hseen b hb hn).2
    rw [(hx.same b (hext.live hn) fun h => hnl (inD b h (hext.live hn))).1]
    exact hdead b hb hn
  have flb : ∀ c, c ∈ L.fl.map (·.1) → c ∈ L.bl.map (·.1) := fun c hc => by
    obtain ⟨p, hp, rfl⟩ := List.mem_map.1 hc
    exact memN_iff.1 (and_spec (List.all_eq_true.1 o4 p hp)).2
  obtain ⟨rho, hrho, d1, d2⟩ := dec_spec hx'
  have hol := olds_spec flb hrho d2
  exact ⟨_, LoopP.turnover (D' := D0 ++ L.bl.map (·.1)) hok hr0 hfr0 hlo hHb hHb2 hsl T hDx (fun b hb _ => hb) (fun b hb _ => .inl (List.mem_append.2 (.inr hb))) (fun b hb hn => by
    have hg2 := hext.live hn
    have hne := (hol b hb).1
    by_cases hbD : b ∈ D
    · exact List.mem_append.2 (.inr (inD b hbD hg2))
    · rw [(hx.same b hg2 hbD).2.2] at hne
      rcases hpB_base (K := L.K) (H := Hb) (bl := L.bl) (y := x.2) (b := b) with h | ⟨h, _⟩
      · exact absurd h hne
      · exact List.mem_append.2 (.inr h)) hseen (fun b hb hn => .inl (hdead1 b hb hn)) hr1.hp hr1.tm hnt hr1.df hnew1 hrho d1 d2⟩
end

theorem LoopP.run_sound {E : FuncId → Option Entry} {L : LoopP} {inl : Inl L.Out} {H : Hints} {LH : Nat → Option (LoopEntry L.Out)} {body : Code} (hB : CodeOk P body (code P E inl H LH body))
    {st : St} {g0 : Gh} {w0 : World} {lo : Nat} {D0 : List Nat} {Hb : Hp} (hok : L.ok st.n st.hp = true) (hr0 : HRel g0 st.hp w0) (hfr0 : ∀ b, st.n ≤ b → g0.G b = .none) (hlo : lo ≤ st.n) (hHb : ∀ b, Hb b = .gone ∨ (Hb b = st.hp b ∧ b ∉ D0)) (hHb2 : ∀ b, b ∉ D0 → Hb b = st.hp b)
    (hseen : ∀ b ∈ D0, g0.G b ≠ .none → st.hp b ≠ .gone ∧ b ∉ L.bl.map (·.1)) :
    ∀ (m : Nat) (x : denS L.sl × denB L.bl) (res : L.Out), LoopP.run P E L inl H LH body st.nt (st.n + L.fl.length) m x = some res → ∀ (g : Gh) (a : Act) (w : World) (d : List Nat),
      Rel g (L.st st.nt (st.n + L.fl.length) Hb d L.sl x) a w → Ext g0 st.hp w0 (D0 ++ L.bl.map (·.1)) g (hpB L.K Hb L.bl x.2) w → (∀ b, g0.G b = .none → g.G b ≠ .none → lo ≤ b) → (∀ b ∈ D0, g0.G b ≠ .none → g.G b = .dead) → ∀ (b : Frame) (k : List Item) (cs : List Frame),
      ∃ e a' w', EndsC lo g0 st w0 (L.ex res) (L.out st Hb D0 res) e a' w' ∧ Arrives P (lone (b.at a (.code body :: .inLoop body :: k)) cs w) b k cs e a' w'
  | 0, x, res, h => by cases h
  | m + 1, x, res, h => by
    intro g a w d hrel hext hnew hdead b k cs
    unfold LoopP.run at h
    obtain ⟨ex, st1, hk, hle, hwp⟩ := hB _ _ _ h
    obtain ⟨o1, o4⟩ := and_spec hok
    obtain ⟨o1, o2⟩ := and_spec o1
    obtain ⟨s0, o2⟩ := and_spec o2
    obtain ⟨s1, s2⟩ := and_spec o2
    have hfull : HRel g (hpB L.K Hb L.bl x.2) w := hrel.hp
    have hhead : Rel g (L.st st.nt (st.n + L.fl.length) (fun _ => .gone) [] L.sl x) a w := ⟨hrel.tm, hrel.nt, hrel.df, hfull.less fun b => hpB_base.imp (fun h => h) And.right, hrel.fr⟩
    obtain ⟨e, a', w', ⟨he, g1, hr1, hg⟩, harr⟩ := hwp g a w (st.n + L.fl.length) (Nat.le_refl _) hhead b (.inLoop body :: k) cs
    have turn := fun {sl : List (Nat × Pat)} {x' : denS sl × denB L.bl} => LoopP.after (sl := sl) (x' := x') hok hr0 hfr0 hlo hHb hHb2 hseen hrel.hp hext hnew hdead hr1 hg
    cases ex with
    | normal =>
      simp only at hk
      split at hk <;> try (cases hk; done)
      rename_i x' hx'
      obtain ⟨g2, r1, r2, r3, r4⟩ := turn s0 hx'
      cases e <;> cases he
      obtain ⟨e2, a2, w2, hq2, harr2⟩ := LoopP.run_sound hB hok hr0 hfr0 hlo hHb hHb2 hseen m x' res hk _ a' w' _ r1 r2 r3 r4 b k cs
      exact ⟨e2, a2, w2, hq2, .of_steps (Steps.trans harr (.one step_inLoop)) harr2⟩
    | exit i =>
      obtain ⟨hi, hk⟩ := br_none hk
      split at hk <;> try (cases hk; done)
      rename_i x' hx'
      cases hk
      obtain ⟨g2, r1, r2, r3, r4⟩ := turn s1 hx'
      have hi := Nat.eq_of_beq_eq_true hi
      subst hi
      cases e <;> cases he
      exact ⟨_, a', w', ⟨rfl, _, r1, ⟨⟨_, rfl, r2⟩, r3, Nat.le_add_right _ _, rfl⟩⟩, .pass (x := .inLoop body) rfl (fun _ _ => .inl (by simp)) harr⟩
    | ret =>
      simp only at hk
      split at hk <;> try (cases hk; done)
      rename_i x' hx'
      cases hk
      obtain ⟨g2, r1, r2, r3, r4⟩ := turn s2 hx'
      cases e <;> cases he
      exact ⟨_, a', w', ⟨rfl, _, r1, ⟨⟨_, rfl, r2⟩, r3, Nat.le_add_right _ _, rfl⟩⟩, .pass (x := .inLoop body) rfl (fun _ _ => .inl (by simp)) harr⟩

/-- How a loop is entered. -/
theorem LoopP.enter {L : LoopP} {st : St} {x : denS L.sl × denB L.bl} (hok : L.ok st.n st.hp = true) (hx : L.dec L.sl st = some x) {g : Gh} {a : Act} {w : World} {lo : Nat} (hlo : lo ≤ st.n) (hr : Rel g st a w) :
    (∀ b, dropB st.hp (L.olds st) b = .gone ∨ (dropB st.hp (L.olds st) b = st.hp b ∧ b ∉ L.olds st)) ∧ (∀ b ∈ L.olds st, g.G b ≠ .none → st.hp b ≠ .gone ∧ b ∉ L.bl.map (·.1)) ∧
    ∃ g2, Rel g2 (L.st st.nt (st.n + L.fl.length) (dropB st.hp (L.olds st)) ((L.olds st ++ L.bl.map (·.1)) ++ st.dirty) L.sl x) a w ∧ Ext g st.hp w (L.olds st ++ L.bl.map (·.1)) g2 (hpB L.K (dropB st.hp (L.olds st)) L.bl x.2) w ∧
      (∀ b, g.G b = .none → g2.G b ≠ .none → lo ≤ b) ∧ ∀ b ∈ L.olds st, g.G b ≠ .none → g2.G b = .dead := by
  obtain ⟨o1, o4⟩ := and_spec hok
  obtain ⟨o1, o2⟩ := and_spec o1
  obtain ⟨s0, _⟩ := and_spec o2
  obtain ⟨rho, hrho, d1, d2⟩ := dec_spec hx
  have ho : L.olds st = rho.map (·.2) := by unfold LoopP.olds; rw [hrho]
  rw [ho]
  have flb : ∀ c, c ∈ L.fl.map (·.1) → st.n ≤ c ∧ c ∈ L.bl.map (·.1) := fun c hc => by
    obtain ⟨p, hp, rfl⟩ := List.mem_map.1 hc
    obtain ⟨q1, q2⟩ := and_spec (List.all_eq_true.1 o4 p hp)
    exact ⟨Nat.le_of_ble_eq_true q1, memN_iff.1 q2⟩
  have hol := olds_spec (fun c hc => (flb c hc).2) hrho d2
  have hHb : ∀ b, dropB st.hp (rho.map (·.2)) b = .gone ∨ (dropB st.hp (rho.map (·.2)) b = st.hp b ∧ b ∉ rho.map (·.2)) := fun b => by
    by_cases hb : b ∈ rho.map (·.2)
    · exact .inl (dropB_mem hb)
    · exact .inr ⟨dropB_ne hb, hb⟩
  have hseen : ∀ b ∈ rho.map (·.2), g.G b ≠ .none → st.hp b ≠ .gone ∧ b ∉ L.bl.map (·.1) := fun b hb hn =>
    ⟨(hol b hb).1, (hol b hb).2 fun hc => hn (hr.fr b (flb b ((rho_spec hrho).2.2 b hc)).1)⟩
  exact ⟨hHb, hseen, _, LoopP.turnover (lo := lo) (D0 := rho.map (·.2)) (Hb := dropB st.hp (rho.map (·.2))) (D' := rho.map (·.2)) (d := (rho.map (·.2) ++ L.bl.map (·.1)) ++ st.dirty) hok hr.hp hr.fr hlo hHb (fun b hb => dropB_ne hb) s0 (Ext.refl g st.hp w) (fun b hb => by cases hb)
    (fun b hb _ => List.mem_append.2 (.inl hb)) (fun b hb _ => .inr hb) (fun b hb _ => hb) hseen (fun b hb _ => .inr hb) hr.hp hr.tm hr.nt hr.df (fun b h1 h2 => absurd h1 h2) hrho d1 d2⟩

/-- A loop's entry is right. -/
theorem LoopP.entry_ok {E : FuncId → Option Entry} {L : LoopP} {inl : Inl L.Out} {H : Hints} {LH : Nat → Option (LoopEntry L.Out)} {body : Code} {N : Nat} (hB : CodeOk P body (code P E inl H LH body)) :
    LoopOk P body (LoopP.entry (R := R) P E L inl H LH body N) := by
  intro st κ r h
  obtain ⟨hok, h⟩ := br_none (show br (L.ok st.n st.hp) (match L.dec L.sl st with
    | some x => match LoopP.run P E L inl H LH body st.nt (st.n + L.fl.length) N x with
      | some (.inl y) => κ (.exit L.id) (L.st st.nt (st.n + L.fl.length) (dropB st.hp (L.olds st)) ((L.olds st ++ L.bl.map (·.1)) ++ st.dirty) L.s1 y)
      | some (.inr y) => κ .ret (L.st st.nt (st.n + L.fl.length) (dropB st.hp (L.olds st)) ((L.olds st ++ L.bl.map (·.1)) ++ st.dirty) L.s2 y)
      | none => none
    | none => none) none = some r from h)
  split at h <;> try (cases h; done)
  rename_i x hx
  have key : ∀ res, LoopP.run P E L inl H LH body st.nt (st.n + L.fl.length) N x = some res → κ (L.ex res) (L.out st (dropB st.hp (L.olds st)) (L.olds st) res) = some r → ∃ x st', κ x st' = some r ∧ st.n ≤ st'.n ∧ ∀ (g : Gh) (a : Act) (w : World) (lo : Nat), lo ≤ st.n → Rel g st a w → ∀ (b : Frame) (k : List Item) (cs : List Frame),
      ∃ e a' w', EndsC lo g st w x st' e a' w' ∧ Arrives P (lone (b.at a (.code body :: .inLoop body :: k)) cs w) b k cs e a' w' := by
    intro res hres hk
    refine ⟨_, _, hk, by cases res <;> exact Nat.le_add_right _ _, fun g a w lo hlo hr b k cs => ?_⟩
    obtain ⟨hHb, hseen, g2, r1, r2, r3, r4⟩ := LoopP.enter hok hx hlo hr
    exact LoopP.run_sound hB hok hr.hp hr.fr hlo hHb (fun b hb => dropB_ne hb) hseen N x res (by rw [← hres]) _ a w _ r1 r2 r3 r4 b k cs
  split at h
  · rename_i y hy
    exact key (.inl y) hy h
  · rename_i y hy
    exact key (.inr y) hy h
  · cases h


/-- A block that is told by what it comes to: one round of it. -/
def blockE (id : Nat) : LoopEntry R → LoopEntry R
  | .run f => .run fun st κ => f st fun e st' => match e with
    | .exit i => br (Nat.beq i id) (κ .normal st') none
    | e => κ e st'
  | .unroll n => .unroll n
theorem blockE_ok {E : FuncId → Option Entry} {L : LoopP} {inl : Inl L.Out} {H : Hints} {LH : Nat → Option (LoopEntry L.Out)} {c : Code} {id N : Nat} (hB : CodeOk P c (code P E inl H LH c)) (hid : L.id = id) :
    BlkOk P id c (blockE id (LoopP.entry (R := R) P E L inl H LH (.seq c (.exit id)) N)) := by
  intro st κ r h
  obtain ⟨hok, h⟩ := br_none (show br (L.ok st.n st.hp) (match L.dec L.sl st with
    | some x => match LoopP.run P E L inl H LH (.seq c (.exit id)) st.nt (st.n + L.fl.length) N x with
      | some (.inl y) => br (Nat.beq L.id id) (κ .normal (L.st st.nt (st.n + L.fl.length) (dropB st.hp (L.olds st)) ((L.olds st ++ L.bl.map (·.1)) ++ st.dirty) L.s1 y)) none
      | some (.inr y) => κ .ret (L.st st.nt (st.n + L.fl.length) (dropB st.hp (L.olds st)) ((L.olds st ++ L.bl.map (·.1)) ++ st.dirty) L.s2 y)
      | none => none
    | none => none) none = some r from h)
  split at h <;> try (cases h; done)
  rename_i x hx
  obtain ⟨o1, o4⟩ := and_spec hok
  obtain ⟨o1, o2⟩ := and_spec o1
  obtain ⟨_, o2⟩ := and_spec o2
  obtain ⟨s1, s2⟩ := and_spec o2
  have key : ∀ res, LoopP.run P E L inl H LH (.seq c (.exit id)) st.nt (st.n + L.fl.length) N x = some res →
      ∀ (g : Gh) (a : Act) (w : World) (lo : Nat), lo ≤ st.n → Rel g st a w → Code.wp P (.block id c) (EndsC lo g st w (match res with
        | .inl _ => .normal
        | .inr _ => .ret) (L.out st (dropB st.hp (L.olds st)) (L.olds st) res)) a w := by
    intro res hres g a w lo hlo hr
    cases N with
    | zero => cases hres
    | succ m =>
      obtain ⟨hHb, hseen, g2, r1, r2, r3, r4⟩ := LoopP.enter hok hx hlo hr
      obtain ⟨ex, st1, hk, hle, hwp⟩ := hB _ _ _ (show code P E inl H LH c (L.st st.nt (st.n + L.fl.length) (fun _ => .gone) [] L.sl x) (fun e st' => match e with
        | .normal => (match (Ex.exit id) with
          | .normal => match L.dec L.sl st' with
            | some x' => LoopP.run P E L inl H LH (.seq c (.exit id)) st.nt (st.n + L.fl.length) m x'
            | none => none
          | .exit i => br (Nat.beq i L.id) (match L.dec L.s1 st' with
            | some y => some (.inl y)
            | none => none) none
          | .ret => match L.dec L.s2 st' with
            | some y => some (.inr y)
            | none => none)
        | e => (match e with
          | .normal => match L.dec L.sl st' with
            | some x' => LoopP.run P E L inl H LH (.seq c (.exit id)) st.nt (st.n + L.fl.length) m x'
            | none => none
          | .exit i => br (Nat.beq i L.id) (match L.dec L.s1 st' with
            | some y => some (.inl y)
            | none => none) none
          | .ret => match L.dec L.s2 st' with
            | some y => some (.inr y)
            | none => none)) = some res from hres)
      have hhead : Rel g2 (L.st st.nt (st.n + L.fl.length) (fun _ => .gone) [] L.sl x) a w := ⟨r1.tm, r1.nt, r1.df, r1.hp.less fun b => hpB_base.imp (fun h => h) And.right, r1.fr⟩
      refine wp_block (wp_mono (hwp g2 a w (st.n + L.fl.length) (Nat.le_refl _) hhead) ?_)
      rintro e a' w' ⟨he, g1, hr1, hg⟩
      have turn := fun {sl : List (Nat × Pat)} {x' : denS sl × denB L.bl} => LoopP.after (sl := sl) (x' := x') hok hr.hp hr.fr hlo hHb (fun b hb => dropB_ne hb) hseen r1.hp r2 r3 r4 hr1 hg
      cases ex with
      | normal =>
        obtain ⟨_, hk⟩ := br_none hk
        split at hk <;> try (cases hk; done)
        rename_i x' hx'
        cases hk
        obtain ⟨g3, q1, q2, q3, q4⟩ := turn s1 hx'
        cases e <;> cases he
        exact ⟨rfl, _, q1, ⟨⟨_, rfl, q2⟩, q3, Nat.le_add_right _ _, rfl⟩⟩
      | exit i =>
        obtain ⟨hi, hk⟩ := br_none hk
        split at hk <;> try (cases hk; done)
        rename_i x' hx'
        cases hk
        obtain ⟨g3, q1, q2, q3, q4⟩ := turn s1 hx'
        have hi := (Nat.eq_of_beq_eq_true hi).trans hid
        subst hi
        cases e <;> cases he
        simp only [Exit.inBlock]
        rw [if_pos trivial]
        exact ⟨rfl, _, q1, ⟨⟨_, rfl, q2⟩, q3, Nat.le_add_right _ _, rfl⟩⟩
      | ret =>
        simp only at hk
        split at hk <;> try (cases hk; done)
        rename_i x' hx'
        cases hk
        obtain ⟨g3, q1, q2, q3, q4⟩ := turn s2 hx'
        cases e <;> cases he
        exact ⟨rfl, _, q1, ⟨⟨_, rfl, q2⟩, q3, Nat.le_add_right _ _, rfl⟩⟩
  split at h
  · rename_i y hy
    obtain ⟨_, h⟩ := br_none h
    exact ⟨_, _, h, Nat.le_add_right _ _, fun g a w lo hlo hr => key (.inl y) hy g a w lo hlo hr⟩
  · rename_i y hy
    exact ⟨_, _, h, Nat.le_add_right _ _, fun g a w lo hlo hr => key (.inr y) hy g a w lo hlo hr⟩
  · cases h

/-- An entry that sets the next free number: so that all ways to a loop meet it with the same one. -/
def bumpE (m : Nat) : LoopEntry R → LoopEntry R
  | .run f => .run fun st κ => br (Nat.ble st.n m) (f ⟨st.nt, st.tm, st.hp, m, st.dirty⟩ κ) none
  | .unroll n => .unroll n
theorem bumpE_ok {m : Nat} {body : Code} : {e : LoopEntry R} → LoopOk P body e → LoopOk P body (bumpE m e)
  | .unroll _, h => trivial
  | .run f, h => by
    intro st κ r hf
    obtain ⟨hle, hf⟩ := br_none (show br (Nat.ble st.n m) (f ⟨st.nt, st.tm, st.hp, m, st.dirty⟩ κ) none = some r from hf)
    have hle := Nat.le_of_ble_eq_true hle
    obtain ⟨x, st', h1, h2, h3⟩ := (show RoundOk P body f from h) _ κ r hf
    refine ⟨x, st', h1, Nat.le_trans hle h2, fun g a w lo hlo hr b k cs => ?_⟩
    obtain ⟨e, a', w', ⟨q1, g', q2, q3⟩, harr⟩ := h3 g a w lo (Nat.le_trans hlo hle) ⟨hr.tm, hr.nt, hr.df, hr.hp, fun b hb => hr.fr b (Nat.le_trans hle hb)⟩ b k cs
    exact ⟨e, a', w', ⟨q1, g', q2, ⟨q3.ext, q3.new, Nat.le_trans hle q3.le, q3.nt⟩⟩, harr⟩

/-- An entry that lays its rounds out where the head does not look as it ought to. -/
noncomputable def altE (P : Program) (E : FuncId → Option Entry) (inl : Inl R) (H : Hints) (LH : Nat → Option (LoopEntry R)) (body : Code) (L : LoopP) (n : Nat) : LoopEntry R → LoopEntry R
  | .run f => .run fun st κ => br (match L.dec L.sl st with
    | some _ => true
    | none => false) (f st κ) (iterU (code P E inl H LH body) n st κ)
  | .unroll n => .unroll n
theorem altE_ok {E : FuncId → Option Entry} {inl : Inl R} {H : Hints} {LH : Nat → Option (LoopEntry R)} {body : Code} {L : LoopP} {n : Nat} (hB : CodeOk P body (code P E inl H LH body)) : {e : LoopEntry R} → LoopOk P body e → LoopOk P body (altE P E inl H LH body L n e)
  | .unroll _, h => trivial
  | .run f, h => by
    intro st κ r hf
    rcases br_some (show br (match L.dec L.sl st with
      | some _ => true
      | none => false) (f st κ) (iterU (code P E inl H LH body) n st κ) = some r from hf) with ⟨_, h'⟩ | ⟨_, h'⟩
    · exact (show RoundOk P body f from h) st κ r h'
    · exact iterU_round hB n st κ r h'
end Go.VI

end
section
/- Walked-in calls whose answer is told as typed data: one way behind the call, whatever ways are inside. -/
namespace Go.VI
set_option linter.unusedVariables false
set_option linter.unusedSimpArgs false
variable {P : Program}

def maxGen (hp : Hp) : List (Nat × BPat) → Nat
  | [] => 0
  | p :: l => match hp p.1 with
    | .arr _ _ k => max k (maxGen hp l)
    | .map _ _ _ k => max k (maxGen hp l)
    | _ => maxGen hp l
def joinOk (K n : Nat) (hp : Hp) (bl : List (Nat × BPat)) : Bool := (bl.all fun p => (Nat.blt p.1 n).and (blkOk bl n p.2)).and (startOk K hp bl)
def joinDec {rs : List Ty} {bl : List (Nat × BPat)} (x : Option (Tup rs)) (y : Option (denB bl)) : Option (Tup rs × denB bl) := match x, y with
  | some x, some y => some (x, y)
  | _, _ => none

/-- What a joined call is told by: its results' types, what its first argument may point to (by its number), and generations. -/
structure JoinP where
  rs : List Ty
  tab : List (Nat × List (Nat × BPat)) := []
  ks : List Nat := []
def pickB {α : Type} (hp : Hp) : List (Nat × List (Nat × BPat)) → AV → (List (Nat × BPat) → Option α) → Option α
  | [], v, f => f []
  | p :: l, v, f => match v with
    | .ptr b _ _ _ => br (Nat.beq b p.1) (match decB hp p.2 with
      | some _ => f p.2
      | none => pickB hp l v f) (pickB hp l v f)
    | _ => f []
def pickK {α : Type} (g : Nat) : List Nat → (Nat → Option α) → Option α
  | [], f => f 1
  | K :: l, f => br (Nat.blt g K) (f K) (pickK g l f)
theorem pickB_some {α : Type} {hp : Hp} {f : List (Nat × BPat) → Option α} {v : AV} {r : α} : ∀ {l : List (Nat × List (Nat × BPat))}, pickB hp l v f = some r → ∃ bl, f bl = some r
  | [], h => ⟨_, h⟩
  | p :: l, h => by
    unfold pickB at h
    split at h
    · rcases br_some h with ⟨_, h⟩ | ⟨_, h⟩
      · split at h
        · exact ⟨_, h⟩
        · exact pickB_some h
      · exact pickB_some h
    · exact ⟨_, h⟩
theorem pickK_some {α : Type} {g : Nat} {f : Nat → Option α} {r : α} : ∀ {l : List Nat}, pickK g l f = some r → ∃ K, f K = some r
  | [], h => ⟨_, h⟩
  | p :: l, h => by
    unfold pickK at h
    rcases br_some h with ⟨_, h⟩ | ⟨_, h⟩
    · exact ⟨_, h⟩
    · exact pickK_some h

/-- Calls that are walked into, d deep; those of J are told by their answer, and by what their first argument points to. -/
noncomputable def inlJ (P : Program) (E : FuncId → Option Entry) (HN : FuncId → Hints) (HL : (R : Type) → FuncId → Nat → Option (LoopEntry R)) (J : FuncId → Option JoinP) : Nat → (R : Type) → Inl R
  | 0, R => fun _ _ _ _ _ => none
  | d + 1, R => fun f args hp n κ => match P.funcs[f]? with
    | some fn => match J f with
      | some q => pickB hp q.tab (args.headD .undef) fun bl => pickK (maxGen hp bl) q.ks fun K => br (joinOk K n hp bl)
          ((funO P E (inlJ P E HN HL J d (Tup q.rs × denB bl)) (HN f) (HL (Tup q.rs × denB bl) f) fn args hp n (fun v hp' _ ds =>
            br (ds.all fun b => (Nat.ble n b).or (memN (bl.map (·.1)) b)) (joinDec (decRes q.rs v) (decB hp' bl)) none)).bind fun x =>
              κ (resVal (encVals q.rs x.1)) (hpB K hp bl x.2) n (bl.map (·.1))) none
      | none => funO P E (inlJ P E HN HL J d R) (HN f) (HL R f) fn args hp n κ
    | none => none

theorem inlJ_ok {E : FuncId → Option Entry} (hm : P.follows .mixedOrders = true) (hE : ∀ f e, E f = some e → Holds P f e) {HN : FuncId → Hints} {HL : (R : Type) → FuncId → Nat → Option (LoopEntry R)} {J : FuncId → Option JoinP}
    (hL : ∀ R f fn c, P.funcs[f]? = some fn → fn.body = some c → LoopsOk P (HL R f) c) : ∀ d R, InlOk P (inlJ P E HN HL J d R)
  | 0, R => fun f as H n κ r h => by cases h
  | d + 1, R => fun f as H n κ r h => by
    simp only [inlJ] at h
    split at h
    case h_2 => cases h
    rename_i fn hf
    split at h
    · rename_i q hJ
      obtain ⟨bl, h⟩ := pickB_some h
      obtain ⟨K, h⟩ := pickK_some h
      obtain ⟨hok, h⟩ := br_none h
      obtain ⟨hbl, hst⟩ := and_spec hok
      obtain ⟨x, hx, hk⟩ := Option.bind_eq_some_iff.1 h
      obtain ⟨v, H', n', D, hk0, hle, hc⟩ := funO_sound hm hE (inlJ_ok hm hE hL d (Tup q.rs × denB bl)) hf (fun c hc => hL _ f fn c hf hc) hx
      obtain ⟨hD, hk1⟩ := br_none hk0
      unfold joinDec at hk1
      split at hk1 <;> try (cases hk1; done)
      rename_i xr y hdec hy
      cases hk1
      refine ⟨_, _, n, _, hk, Nat.le_refl _, fun g w us hr hrel hn => (hc g w us hr hrel hn).mono fun en w' ⟨u, hu, g', hw⟩ => ?_⟩
      have hDx : ∀ b ∈ D, g.G b ≠ .none → b ∈ bl.map (·.1) := fun b hb hne => by
        have h1 := List.all_eq_true.1 hD b hb
        rcases (show Nat.ble n b = true ∨ memN (bl.map (·.1)) b = true by
          cases e : Nat.ble n b
          · right; rw [e] at h1; exact h1
          · exact .inl rfl) with h2 | h2
        · exact absurd (hn b (Nat.le_of_ble_eq_true h2)) hne
        · exact memN_iff.1 h2
      obtain ⟨r1, r2, r3, _⟩ := reset (bl := bl) (K := K) (n0 := n) (lo := n) (g0 := g) (H0 := H) (Hb := H) (D0 := []) (w0 := w) (g := g') (w := w') (H1 := H') (Hx := H') (sl := []) (s := ()) (tm1 := fun _ => .undef) (a := ⟨#[], []⟩) (nt := 0) (d := [])
        hr hn hbl (fun b hb _ => startLook hst b hb) rfl hw.ext hDx (fun b hb => by cases hb) (fun b => .inr ⟨rfl, fun h => by cases h⟩) (fun b _ => rfl) hw.rel (fun i => .undef _) rfl rfl (fun b h1 h2 => (hw.new b h1 h2).1) rfl hy
      obtain ⟨vs, rfl, hvs⟩ := decRes_sound hdec hw.val
      exact ⟨_, hu, _, r2, r1.hp, resVal_sound (encArgs_rel (g := g'.head bl K n) rfl hvs), fun b h1 h2 => absurd (head_ge (r3 b h1 h2)) h2⟩
    · exact funO_sound hm hE (inlJ_ok hm hE hL d R) hf (fun c hc => hL R f fn c hf hc) h
end Go.VI

end
section
/- What printed texts lean on: tables of contracts, of loops, and a loop's rounds. -/
namespace Go.VI
set_option linter.unusedVariables false
variable {P : Program}

theorem e_none : ∀ (f : FuncId) (e : Entry), (none : Option Entry) = some e → Holds P f e := fun _ _ h => by cases h
theorem e_br {m : Nat} {e0 : Entry} {rest : FuncId → Option Entry} (h : Holds P m e0) (hr : ∀ f e, rest f = some e → Holds P f e) :
    ∀ f e, br (Nat.beq f m) (some e0) (rest f) = some e → Holds P f e := fun f e he => by
  rcases br_some he with ⟨h1, h2⟩ | ⟨_, h2⟩
  · cases Nat.eq_of_beq_eq_true h1
    cases h2; exact h
  · exact hr f e h2

theorem lh_none {R : Type} {c : Code} : ∀ (i : Nat) (b : Code) (le : LoopEntry R), loopAt c i = some b → (none : Option (LoopEntry R)) = some le → EntOk P i b le := fun _ _ _ _ h => by cases h
theorem lh_en {R : Type} {c : Code} {m : Nat} {e : LoopEntry R} {rest : Nat → Option (LoopEntry R)} (he : LoopOk P ((loopAt c m).getD .skip) e) (hr : ∀ i b le, loopAt c i = some b → rest i = some le → EntOk P i b le) (hm : m < 1000000 := by omega) :
    ∀ i b le, loopAt c i = some b → br (Nat.beq i m) (some e) (rest i) = some le → EntOk P i b le := fun i b le hb hl => by
  rcases br_some hl with ⟨h1, h2⟩ | ⟨_, h2⟩
  · cases Nat.eq_of_beq_eq_true h1
    cases h2
    rw [hb] at he; exact ⟨fun _ => he, fun h => by omega⟩
  · exact hr i b le hb h2
theorem lh_bl {R : Type} {c b0 : Code} {m id : Nat} {e : LoopEntry R} {rest : Nat → Option (LoopEntry R)} (he : BlkOk P id b0 e) (hr : ∀ i b le, loopAt c i = some b → rest i = some le → EntOk P i b le) (hm : m = 1000000 + id := by rfl) (hc : (loopAt c m).getD .skip = b0 := by rfl) :
    ∀ i b le, loopAt c i = some b → br (Nat.beq i m) (some e) (rest i) = some le → EntOk P i b le := fun i b le hb hl => by
  rcases br_some hl with ⟨h1, h2⟩ | ⟨_, h2⟩
  · cases Nat.eq_of_beq_eq_true h1
    cases h2
    rw [hb] at hc
    have hc : b = b0 := hc
    subst hc hm
    exact ⟨fun h => by omega, fun _ => by rw [Nat.add_sub_cancel_left]; exact he⟩
  · exact hr i b le hb h2
theorem lh_un {R : Type} {c : Code} {m n : Nat} {rest : Nat → Option (LoopEntry R)} (hr : ∀ i b le, loopAt c i = some b → rest i = some le → EntOk P i b le) (hm : m < 1000000 := by omega) :
    ∀ i b le, loopAt c i = some b → br (Nat.beq i m) (some (.unroll n)) (rest i) = some le → EntOk P i b le := lh_en (e := .unroll n) trivial hr hm

/-- Loops of functions that are walked into, laid out. -/
def unrollTab {R : Type} : List (Nat × Nat × Nat) → FuncId → Nat → Option (LoopEntry R)
  | [], _, _ => none
  | (f, i, n) :: l, g, j => br ((Nat.beq g f).and (Nat.beq j i)) (some (.unroll n)) (unrollTab l g j)
theorem unrollTab_is {R : Type} : ∀ {l : List (Nat × Nat × Nat)} {f i : Nat} {le : LoopEntry R}, unrollTab l f i = some le → ∃ n, le = .unroll n
  | [], _, _, _, h => by cases h
  | (f, i, n) :: l, g, j, le, h => by
    rcases br_some (show br ((Nat.beq g f).and (Nat.beq j i)) (some (.unroll n)) (unrollTab l g j) = some le from h) with ⟨_, h⟩ | ⟨_, h⟩
    · cases h; exact ⟨n, rfl⟩
    · exact unrollTab_is h
theorem loopsOk_un {R : Type} {LH : Nat → Option (LoopEntry R)} (h : ∀ i le, LH i = some le → ∃ n, le = .unroll n) : ∀ c : Code, LoopsOk P LH c
  | .seq a b => ⟨loopsOk_un h a, loopsOk_un h b⟩
  | .cond _ a b => ⟨loopsOk_un h a, loopsOk_un h b⟩
  | .block _ c => ⟨fun le hl => by obtain ⟨n, rfl⟩ := h _ _ hl; exact trivial, loopsOk_un h c⟩
  | .loop c => ⟨fun le hl => by obtain ⟨n, rfl⟩ := h _ _ hl; exact trivial, loopsOk_un h c⟩
  | .skip => trivial
  | .region _ _ _ => trivial
  | .rangeFunc _ _ _ _ => trivial
  | .exit _ => trivial
  | .scope _ => trivial
  | .label _ => trivial
  | .goto _ => trivial
  | .ret => trivial
  | .refuse _ => trivial
theorem loopsOk_tab {R : Type} {l : List (Nat × Nat × Nat)} {f : Nat} (c : Code) : LoopsOk (R := R) P (unrollTab l f) c := loopsOk_un (fun _ _ h => unrollTab_is h) c
theorem loopsOk_none {R : Type} (c : Code) : LoopsOk (R := R) P (fun _ => none) c := loopsOk_un (fun _ _ h => by cases h) c

theorem run_eq {A B : Type} {r l : Nat → A → Option B} (s : (A → Option B) → A → Option B) (r0 : ∀ x, r 0 x = none) (rs : ∀ m x, r (m + 1) x = s (r m) x) (l0 : ∀ x, l 0 x = none) (ls : ∀ m x, l (m + 1) x = s (l m) x) : r = l := by
  funext m
  induction m with
  | zero => funext x; rw [r0, l0]
  | succ m ih => funext x; rw [rs, ls, ih]

def LoopEntry.fn {R : Type} : LoopEntry R → St → KC R → Option R
  | .run f => f
  | .unroll _ => fun _ _ => none
/-- What a loop's entry is looked up by: the number at the head, and the block that the first parameter points to. -/
def stKey (st : St) : Nat := match st.tm 0 with
  | .ptr b _ _ _ => st.n + 1099511627776 * (b + 1)
  | _ => st.n
def hasL {R : Type} (l : List (Nat × Nat × Nat × LoopEntry R)) (g j : Nat) : Bool := l.any fun x => (Nat.beq g x.1).and (Nat.beq j x.2.1)
def goL {R : Type} : List (Nat × Nat × Nat × LoopEntry R) → Nat → Nat → St → KC R → Option R
  | [], _, _, _, _ => none
  | x :: l, g, j, st, κ => br ((Nat.beq g x.1).and ((Nat.beq j x.2.1).and (Nat.beq (stKey st) x.2.2.1))) (x.2.2.2.fn st κ) (goL l g j st κ)
/-- Loops of functions that are walked into: by function, loop, and number at the head; or laid out. -/
def loopTab {R : Type} (l : List (Nat × Nat × Nat × LoopEntry R)) (u : List (Nat × Nat × Nat)) : FuncId → Nat → Option (LoopEntry R) := fun g j => br (hasL l g j) (some (.run (goL l g j))) (unrollTab u g j)
/-- Is a loop's entry right in its function? -/
def TabOk (P : Program) {R : Type} (x : Nat × Nat × Nat × LoopEntry R) : Prop := ∃ fn c, P.funcs[x.1]? = some fn ∧ fn.body = some c ∧ ((noDup (loopIds c)).and (lowR c)) = true ∧ x.2.1 < 1000000 ∧ LoopOk P ((loopAt c x.2.1).getD .skip) x.2.2.2
def TabsOk (P : Program) {R : Type} : List (Nat × Nat × Nat × LoopEntry R) → Prop
  | [] => True
  | x :: l => TabOk P x ∧ TabsOk P l
theorem goL_ok {R : Type} {g j : Nat} {fn : Func} {c b : Code} (hf : P.funcs[g]? = some fn) (hc : fn.body = some c) (hb : loopAt c j = some b) : ∀ {l : List (Nat × Nat × Nat × LoopEntry R)}, TabsOk P l → RoundOk P b (goL l g j)
  | [], _ => fun st κ r h => by cases h
  | x :: l, h => fun st κ r hr => by
    rcases br_some (show br ((Nat.beq g x.1).and ((Nat.beq j x.2.1).and (Nat.beq (stKey st) x.2.2.1))) (x.2.2.2.fn st κ) (goL l g j st κ) = some r from hr) with ⟨h1, h2⟩ | ⟨_, h2⟩
    · obtain ⟨e1, e2⟩ := and_spec h1
      obtain ⟨e2, _⟩ := and_spec e2
      have e1 := Nat.eq_of_beq_eq_true e1
      have e2 := Nat.eq_of_beq_eq_true e2
      obtain ⟨fn', c', f1, f2, _, _, f4⟩ := h.1
      rw [← e1, hf] at f1
      cases f1
      rw [hc] at f2
      cases f2
      rw [← e2, hb] at f4
      cases hx : x.2.2.2 with
      | unroll n => rw [hx] at h2; cases h2
      | run f => rw [hx] at h2 f4; exact f4 st κ r h2
    · exact goL_ok hf hc hb h.2 st κ r h2
theorem tabsOk_mem {R : Type} : ∀ {l : List (Nat × Nat × Nat × LoopEntry R)}, TabsOk P l → ∀ {x : Nat × Nat × Nat × LoopEntry R}, x ∈ l → TabOk P x
  | [], _, _, hx => by cases hx
  | y :: l, h, x, hx => by
    rcases List.mem_cons.1 hx with rfl | hx
    · exact h.1
    · exact tabsOk_mem h.2 hx
theorem loopTab_ok {R : Type} {l : List (Nat × Nat × Nat × LoopEntry R)} {u : List (Nat × Nat × Nat)} (hl : TabsOk P l) {g : Nat} {fn : Func} {c : Code} (hf : P.funcs[g]? = some fn) (hc : fn.body = some c) : LoopsOk P (loopTab l u g) c := by
  by_cases hg : ∃ x ∈ l, x.1 = g
  · obtain ⟨x, hx, rfl⟩ := hg
    have : TabOk P x := tabsOk_mem hl hx
    obtain ⟨fn', c', f1, f2, f3, _⟩ := this
    rw [hf] at f1; cases f1
    rw [hc] at f2; cases f2
    refine loopsOk_of f3 fun i b le hb h => ?_
    rcases br_some (show br (hasL l x.1 i) (some (.run (goL l x.1 i))) (unrollTab u x.1 i) = some le from h) with ⟨h1, h⟩ | ⟨_, h⟩
    · cases h
      refine ⟨fun _ => goL_ok hf hc hb hl, fun hi => ?_⟩
      obtain ⟨y, hy, hyy⟩ := List.any_eq_true.1 h1
      obtain ⟨_, _, _, _, _, q, _⟩ := tabsOk_mem hl hy
      have := Nat.eq_of_beq_eq_true (and_spec hyy).2
      omega
    · obtain ⟨n, rfl⟩ := unrollTab_is h; exact ⟨fun _ => trivial, fun _ => trivial⟩
  · refine loopsOk_un (fun i le h => ?_) c
    rcases br_some (show br (hasL l g i) (some (.run (goL l g i))) (unrollTab u g i) = some le from h) with ⟨h1, _⟩ | ⟨_, h⟩
    · obtain ⟨x, hx, hy⟩ := List.any_eq_true.1 h1
      exact absurd ⟨x, hx, (Nat.eq_of_beq_eq_true (and_spec hy).1).symm⟩ hg
    · exact unrollTab_is h
theorem loopsOk_sub {R : Type} {LH : Nat → Option (LoopEntry R)} : ∀ {c b : Code} {i : Nat}, LoopsOk P LH c → loopAt c i = some b → LoopsOk P LH b
  | .seq x y, b, i, h, hb => by
    simp only [loopAt] at hb
    split at hb
    · rename_i c hc; cases hb; exact loopsOk_sub h.1 hc
    · exact loopsOk_sub h.2 hb
  | .cond _ x y, b, i, h, hb => by
    simp only [loopAt] at hb
    split at hb
    · rename_i c hc; cases hb; exact loopsOk_sub h.1 hc
    · exact loopsOk_sub h.2 hb
  | .block id c, b, i, h, hb => by
    rcases br_some (show br (Nat.beq (1000000 + id) i) (some c) (loopAt c i) = some b from hb) with ⟨_, hb⟩ | ⟨_, hb⟩
    · cases hb; exact h.2
    · exact loopsOk_sub h.2 hb
  | .loop c, b, i, h, hb => by
    rcases br_some (show br (Nat.beq (firstR c) i) (some c) (loopAt c i) = some b from hb) with ⟨_, hb⟩ | ⟨_, hb⟩
    · cases hb; exact h.2
    · exact loopsOk_sub h.2 hb
  | .skip, _, _, _, hb => by cases hb
  | .region _ _ _, _, _, _, hb => by cases hb
  | .rangeFunc _ _ _ _, _, _, _, hb => by cases hb
  | .exit _, _, _, _, hb => by cases hb
  | .scope _, _, _, _, hb => by cases hb
  | .label _, _, _, _, hb => by cases hb
  | .goto _, _, _, _, hb => by cases hb
  | .ret, _, _, _, hb => by cases hb
  | .refuse _, _, _, _, hb => by cases hb
theorem loopsOk_getD {R : Type} {LH : Nat → Option (LoopEntry R)} {c : Code} {i : Nat} (h : LoopsOk P LH c) : LoopsOk P LH ((loopAt c i).getD .skip) := by
  cases hb : loopAt c i with
  | none => trivial
  | some b => exact loopsOk_sub h hb
theorem tabs_nil {R : Type} : TabsOk (R := R) P [] := trivial
theorem tabs_cons {R : Type} {x : Nat × Nat × Nat × LoopEntry R} {l : List (Nat × Nat × Nat × LoopEntry R)} (h : TabOk P x) (h' : TabsOk P l) : TabsOk P (x :: l) := ⟨h, h'⟩
theorem tab_ok {R : Type} {e : LoopEntry R} (f i n : Nat) (fn : Func) (c : Code) (hf : P.funcs[f]? = some fn) (hc : fn.body = some c) (hn : ((noDup (loopIds c)).and (lowR c)) = true) (hk : LoopOk P ((loopAt c i).getD .skip) e) (hi : i < 1000000 := by omega) : TabOk P (f, i, n, e) := ⟨fn, c, hf, hc, hn, hi, hk⟩
end Go.VI

end
section
/- Plain helpers for what printed functions compute: two ways, numbers, rows, answers that are there. -/
namespace Go.VI
set_option linter.unusedVariables false

theorem br_true {α : Sort _} (a b : α) : br true a b = a := rfl
theorem br_false {α : Sort _} (a b : α) : br false a b = b := rfl
theorem br_dec {α : Sort _} {p : Prop} [Decidable p] (a b : α) : br (decide p) a b = if p then a else b := by
  by_cases h : p <;> simp [h, br]
theorem br_ite {α : Sort _} (c : Bool) (a b : α) : br c a b = if c = true then a else b := by cases c <;> rfl
theorem bEq_beq (a b : Bool) : bEq a b = (a == b) := by cases a <;> cases b <;> rfl
theorem w64 {x : Int} (h1 : -9223372036854775808 ≤ x) (h2 : x ≤ 9223372036854775807) : IntKind.i64.wrap x = x := by
  simp only [IntKind.wrap, IntKind.bits, IntKind.signed]
  simp
  split <;> omega
theorem w32 {x : Int} (h1 : -2147483648 ≤ x) (h2 : x ≤ 2147483647) : IntKind.i32.wrap x = x := by
  simp only [IntKind.wrap, IntKind.bits, IntKind.signed]
  simp
  split <;> omega
theorem wu64 {x : Int} (h1 : 0 ≤ x) (h2 : x ≤ 18446744073709551615) : IntKind.u64.wrap x = x := by
  simp only [IntKind.wrap, IntKind.bits, IntKind.signed]
  simp
  omega
theorem wu32 {x : Int} (h1 : 0 ≤ x) (h2 : x ≤ 4294967295) : IntKind.u32.wrap x = x := by
  simp only [IntKind.wrap, IntKind.bits, IntKind.signed]
  simp
  omega
theorem wu8 {x : Int} (h1 : 0 ≤ x) (h2 : x ≤ 255) : IntKind.u8.wrap x = x := by
  simp only [IntKind.wrap, IntKind.bits, IntKind.signed]
  simp
  omega
theorem byte_lt (b : UInt8) : (b.toNat : Int) < 256 := by have := b.toNat_lt; omega
theorem wByte (b : UInt8) : IntKind.i64.wrap ((b.toNat : Nat) : Int) = ((b.toNat : Nat) : Int) := by have := b.toNat_lt; exact w64 (by omega) (by omega)

theorem decT {p : Prop} [Decidable p] (h : decide p = true) : p := of_decide_eq_true h
theorem decF {p : Prop} [Decidable p] (h : decide p = false) : ¬ p := of_decide_eq_false h
/-- An answer that is there, and what is known of it. -/
def Tot {α : Type} (o : Option α) (Q : α → Prop) : Prop := ∃ v, o = some v ∧ Q v
theorem Tot.br {α : Type} {c : Bool} {a b : Option α} {Q : α → Prop} (h1 : c = true → Tot a Q) (h2 : c = false → Tot b Q) : Tot (br c a b) Q := by
  cases c
  · exact h2 rfl
  · exact h1 rfl
theorem Tot.brD {α : Type} {p : Prop} [Decidable p] {a b : Option α} {Q : α → Prop} (h1 : p → Tot a Q) (h2 : ¬ p → Tot b Q) : Tot (VI.br (decide p) a b) Q :=
  Tot.br (fun h => h1 (decT h)) fun h => h2 (decF h)
theorem Tot.brN {α : Type} {m n : Nat} {a b : Option α} {Q : α → Prop} (h1 : m ≤ n → Tot a Q) (h2 : ¬ m ≤ n → Tot b Q) : Tot (VI.br (Nat.ble m n) a b) Q :=
  Tot.br (fun h => h1 (Nat.le_of_ble_eq_true h)) fun h => h2 fun h' => by rw [Nat.ble_eq_true_of_le h'] at h; cases h
theorem Tot.bind {α β : Type} {a : Option α} {f : α → Option β} {P : α → Prop} {Q : β → Prop} (h : Tot a P) (h' : ∀ v, P v → Tot (f v) Q) : Tot (a.bind f) Q := by
  obtain ⟨v, rfl, hv⟩ := h
  exact h' v hv
theorem Tot.some {α : Type} {v : α} {Q : α → Prop} (h : Q v) : Tot (some v) Q := ⟨v, rfl, h⟩
theorem Tot.mono {α : Type} {o : Option α} {P Q : α → Prop} (h : Tot o P) (h' : ∀ v, P v → Q v) : Tot o Q := by
  obtain ⟨v, e, hv⟩ := h
  exact ⟨v, e, h' v hv⟩
theorem Tot.idx {α β : Type} {l : List α} {i : Nat} {f : α → Option β} {Q : β → Prop} (hi : i < l.length) (h : ∀ v, l[i]? = Option.some v → Tot (f v) Q) : Tot (Option.bind l[i]? f) Q := by
  have e : l[i]? = Option.some l[i] := List.getElem?_eq_getElem hi
  rw [e]
  exact h _ e
theorem Tot.elim {α β γ : Type} {x : α ⊕ β} {f : α → Option γ} {g : β → Option γ} {Q : γ → Prop} (h1 : ∀ a, x = .inl a → Tot (f a) Q) (h2 : ∀ b, x = .inr b → Tot (g b) Q) : Tot (Sum.elim f g x) Q := by
  cases x
  · exact h1 _ rfl
  · exact h2 _ rfl
theorem size_list (s : ByteArray) : s.data.toList.length = s.size := by rw [Array.length_toList]; rfl

/-- A loop that goes over a row by its number: what each round does, and where it ends. -/
theorem Tot.range {A Out : Type} {f : Nat → A → Option Out} {Inv : Nat → A → Prop} {Q : Out → Prop} (n : Nat)
    (step : ∀ m i a, Inv i a → i ≤ n → (∀ j a', i < j → j ≤ n → Inv j a' → Tot (f m a') Q) → Tot (f (m + 1) a) Q) :
    ∀ m i a, i ≤ n → Inv i a → n - i < m → Tot (f m a) Q
  | 0, i, a, _, _, h => by omega
  | m + 1, i, a, hi, ha, h => step m i a ha hi fun j a' h1 h2 h3 => Tot.range n step m j a' h2 h3 (by omega)
end Go.VI

end
