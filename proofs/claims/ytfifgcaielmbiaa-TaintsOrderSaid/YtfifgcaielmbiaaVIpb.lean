/- A region in any order: ancestors; what is told of each operation. -/
import Derived.Test.YtfifgcaielmbiaaVIpa
namespace Go.VI
set_option linter.unusedVariables false
set_option linter.unusedSimpArgs false
variable {R : Type} {P : Program}

theorem ancs_append : ∀ (os : List Oper) (acc : List Nat), ∃ l, ancs os acc = acc ++ l ∧ l.length = os.length
  | [], acc => ⟨[], by simp [ancs]⟩
  | o :: os, acc => by
    obtain ⟨l, h1, h2⟩ := ancs_append os (acc ++ [o.after.toList.foldl (fun s e => br ((Region.binds .any e).and (Nat.blt e.on acc.length)) (s ||| (2 ^ e.on ||| (acc[e.on]?).getD 0)) s) 0])
    exact ⟨_ :: l, by simp only [ancs]; rw [h1, List.append_assoc]; rfl, by simp [h2]⟩

theorem fold_bits {acc : List Nat} {i : Nat} : ∀ (l : List Edge) (s : Nat), (l.foldl (fun s e => br ((Region.binds .any e).and (Nat.blt e.on acc.length)) (s ||| (2 ^ e.on ||| (acc[e.on]?).getD 0)) s) s).testBit i = true →
    s.testBit i = true ∨ ∃ e ∈ l, Region.binds .any e = true ∧ e.on < acc.length ∧ (e.on = i ∨ ((acc[e.on]?).getD 0).testBit i = true)
  | [], s, h => .inl h
  | e :: l, s, h => by
    simp only [List.foldl_cons] at h
    rcases fold_bits l _ h with h | ⟨e', h1, h2⟩
    · cases hb : (Region.binds .any e).and (Nat.blt e.on acc.length) with
      | false => rw [hb] at h; exact .inl h
      | true =>
        rw [hb] at h
        obtain ⟨b1, b2⟩ := and_spec hb
        have b2 : e.on < acc.length := Nat.le_of_ble_eq_true b2
        have h : (s ||| (2 ^ e.on ||| (acc[e.on]?).getD 0)).testBit i = true := h
        rw [Nat.testBit_or, Nat.testBit_or, Bool.or_eq_true, Bool.or_eq_true] at h
        rcases h with h | h | h
        · exact .inl h
        · rw [Nat.testBit_two_pow] at h
          exact .inr ⟨e, List.mem_cons_self, b1, b2, .inl (by simpa using h)⟩
        · exact .inr ⟨e, List.mem_cons_self, b1, b2, .inr h⟩
    · exact .inr ⟨e', List.mem_cons_of_mem _ h1, h2⟩

/-- An ancestor's bit comes by an edge. -/
theorem ancs_edge : ∀ (os : List Oper) (acc : List Nat) (j i : Nat) (o : Oper), os[j]? = some o → (((ancs os acc)[acc.length + j]?).getD 0).testBit i = true →
    ∃ e ∈ o.after.toList, Region.binds .any e = true ∧ e.on < acc.length + j ∧ (e.on = i ∨ (((ancs os acc)[e.on]?).getD 0).testBit i = true)
  | [], _, j, _, _, h, _ => by simp at h
  | o :: os, acc, 0, i, o', h, hb => by
    simp at h; subst h
    obtain ⟨l, h1, _⟩ := ancs_append os (acc ++ [o.after.toList.foldl (fun s e => br ((Region.binds .any e).and (Nat.blt e.on acc.length)) (s ||| (2 ^ e.on ||| (acc[e.on]?).getD 0)) s) 0])
    simp only [ancs, h1] at hb ⊢
    have : ((acc ++ [o.after.toList.foldl (fun s e => br ((Region.binds .any e).and (Nat.blt e.on acc.length)) (s ||| (2 ^ e.on ||| (acc[e.on]?).getD 0)) s) 0] ++ l)[acc.length + 0]?).getD 0 = o.after.toList.foldl (fun s e => br ((Region.binds .any e).and (Nat.blt e.on acc.length)) (s ||| (2 ^ e.on ||| (acc[e.on]?).getD 0)) s) 0 := by
      simp
    rw [this] at hb
    rcases fold_bits _ _ hb with h | ⟨e, h1, h2, h3, h4⟩
    · simp at h
    · refine ⟨e, h1, h2, by omega, ?_⟩
      rcases h4 with h4 | h4
      · exact .inl h4
      · refine .inr ?_
        rw [List.append_assoc, List.getElem?_append_left h3]; exact h4
  | o :: os, acc, j + 1, i, o', h, hb => by
    simp at h
    have := ancs_edge os (acc ++ [o.after.toList.foldl (fun s e => br ((Region.binds .any e).and (Nat.blt e.on acc.length)) (s ||| (2 ^ e.on ||| (acc[e.on]?).getD 0)) s) 0]) j i o' h (by
      simp only [ancs] at hb
      rw [List.length_append, List.length_singleton, show acc.length + 1 + j = acc.length + (j + 1) by omega]; exact hb)
    obtain ⟨e, h1, h2, h3, h4⟩ := this
    refine ⟨e, h1, h2, by rw [List.length_append, List.length_singleton] at h3; omega, ?_⟩
    simp only [ancs]; exact h4

/-- Whoever has come up, his ancestors have. -/
theorem anc_closed {ops : List Oper} {D : Nat → Bool} (hD : ∀ j o, ops[j]? = some o → D j = true → ∀ e ∈ o.after.toList, Region.binds .any e = true → D e.on = true) :
    ∀ (j : Nat) (o : Oper) (i : Nat), ops[j]? = some o → (∀ e ∈ o.after.toList, Region.binds .any e = true → D e.on = true) → (((ancs ops [])[j]?).getD 0).testBit i = true → D i = true := by
  intro j
  induction j using Nat.strongRecOn with
  | _ j ih =>
    intro o i ho hall hb
    obtain ⟨e, h1, h2, h3, h4⟩ := ancs_edge ops [] j i o ho (by simpa using hb)
    have hDe := hall e h1 h2
    rcases h4 with h4 | h4
    · rw [← h4]; exact hDe
    · have hlt : e.on < j := by simpa using h3
      cases hoe : ops[e.on]? with
      | none =>
        have := (List.getElem?_eq_none_iff.1 hoe)
        have := (List.getElem?_eq_some_iff.1 ho).1
        omega
      | some oe => exact ih e.on hlt oe i hoe (hD e.on oe hoe hDe) h4
theorem anc_lt {ops : List Oper} : ∀ (j i : Nat), (((ancs ops [])[j]?).getD 0).testBit i = true → i < j := by
  intro j
  induction j using Nat.strongRecOn with
  | _ j ih =>
    intro i hb
    cases ho : ops[j]? with
    | none =>
      exfalso
      obtain ⟨l, h1, h2⟩ := ancs_append ops []
      have hn := List.getElem?_eq_none_iff.1 ho
      rw [h1, List.nil_append, List.getElem?_eq_none (by omega)] at hb
      simp at hb
    | some o =>
      obtain ⟨e, h1, h2, h3, h4⟩ := ancs_edge ops [] j i o ho (by simpa using hb)
      have hlt : e.on < j := by simpa using h3
      rcases h4 with h4 | h4
      · omega
      · have := ih e.on hlt i h4; omega

/-- Is an operation wanted, seen from a frame? -/
def Wants (ops : List Oper) (o : Oper) (tm : Nat → AV) (b : Bool) : Prop :=
  (o.guard = none ∧ b = true) ∨ ∃ gi want t, o.guard = some (gi, want) ∧ (ops[gi]?).bind (·.dst) = some t ∧ ((∃ c, tm t = .bool c ∧ b = (c == want)) ∨ (tm t = .tup [] ∧ b = false))

/-- What is told of one operation: ops: the region; nn: the numbers from which calls may take theirs. -/
def Fact (P : Program) (wr bd : List Nat) (ops : List Oper) (base nn j : Nat) (o : Oper) (tm : Nat → AV) (H : Hp) (e : Ev) : Prop :=
  (Wants ops o tm false ∧ e = ⟨.tup [], none, none, []⟩) ∨
  (Wants ops o tm true ∧ ((e.own = some (j, .gone) ∧ e.all = none ∧ e.d = [] ∧ blind bd o j = true ∧ ∀ (g : Gh) (a : Act) (w : World), (∀ x ∈ o.op.operands, RelV g w (evalO tm x) (a.eval x)) → ∃ u, (execOp a.eval o).run P w = .ok (.value u) w ∧ RelV g w e.v u) ∨
    (blind bd o j = false ∧ e.all = none ∧ e.d = [] ∧ ∃ H', e.own = some (j, H' (base + j)) ∧ OpOk P o (evalO (seen o tm)) (hideFor H base (((ancs ops [])[j]?).getD 0) ops.length) (base + j) (nn + j * 4096) (nn + j * 4096) e.v H' []) ∨
    (memN wr j = true ∧ barrier wr bd ops (ancs ops []) j = true ∧ ∃ H' n', e.all = some H' ∧ n' ≤ nn + (j + 1) * 4096 ∧ OpOk P o (evalO (seen o tm)) (hideFor H base (2 ^ j - 1) ops.length) (base + j) (nn + j * 4096) n' e.v H' e.d) ∨
    (blind bd o j = false ∧ e.all = none ∧ ∃ i H', (((ancs ops [])[j]?).getD 0).testBit i = true ∧ barrierAt bd ops (ancs ops []) j i = true ∧ e.own = some (i, H' (base + i)) ∧ e.d = [base + i] ∧
      OpOk P o (evalO (seen o tm)) (hideFor H base (((ancs ops [])[j]?).getD 0) ops.length) (base + j) (nn + j * 4096) (nn + j * 4096) e.v H' [base + i])))

/-- A row that a step made, under another number; what else it made is forgotten. -/
theorem Went.fresh {g g' : Gh} {H H' : Hp} {w w' : World} {N : Nat → Prop} {b k m : Nat} {t : Ty} {l : List t.den} {D : List Nat} {u : Value} (hw : Went g H w N (.own b k) H' D u w' g') (hr : HRel g H w) (hD : ∀ x ∈ D, g.G x = .none)
    (hb : g.G b = .none) (hb' : H' b = .arr t l k) (hm : g.G m = .none) : Went g H w (fun x => x = m) (.own m 0) (upd H m (.arr t l 0)) [] u w' ⟨g'.F, upd g.i m (g'.i b), upd g.G m (.arr t 0 l.length)⟩ := by
  have hk : g'.G b = .arr t k l.length := by rw [hw.rel.kd b (fun e => by rw [hb'] at e; cases e), hb']; rfl
  have hne : ∀ x, g.G x ≠ .none → x ≠ m := fun x hx e => hx (e ▸ hm)
  have same : ∀ x, g.G x ≠ .none → g'.G x = g.G x ∧ g'.i x = g.i x := fun x hx => by
    obtain ⟨h1, h2, _⟩ := hw.ext.same x hx fun hx' => hx (hD x hx')
    exact ⟨h1, h2⟩
  have gG : ∀ {x}, upd g.G m (Kd.arr t 0 l.length) x ≠ .none → x ≠ m → g.G x ≠ .none := fun {x} h e => by rwa [upd_ne _ _ e] at h
  have he : Ext g H w [] ⟨g'.F, upd g.i m (g'.i b), upd g.G m (.arr t 0 l.length)⟩ (upd H m (.arr t l 0)) w' := by
    refine ⟨hw.ext.mono, fun r hr' => ?_, hw.ext.size, fun r hlt _ => hw.ext.frame r hlt fun x hx hn => absurd (hD x hx) hn, (fun b hb => by cases hb), fun x hx _ => ⟨upd_ne _ _ (hne x hx), upd_ne _ _ (hne x hx), upd_ne _ _ (hne x hx)⟩, (fun b hb => by cases hb), (fun b hb => by cases hb), fun x r c h h' hi => ?_, hw.ext.env⟩
    · rcases hw.ext.more r hr' with h | ⟨x, hx, hn, _⟩ | h
      · exact .inl h
      · exact absurd (hD x hx) hn
      · exact .inr (.inr h)
    · by_cases e : x = m
      · subst e
        have hi' : upd g.i x (g'.i b) x = some (r, c) := hi
        rw [upd_same] at hi'
        exact hw.ext.fresh b r c hb (by rw [hk]; exact fun h => by cases h) hi'
      · exact absurd h (gG h' e)
  have live : ∀ x, g'.G x = .none → g.G x = .none := fun x hx => Classical.byContradiction fun hn => hn (by rw [← (same x hn).1]; exact hx)
  refine ⟨he, ⟨fun x => ?_, fun x hx => ?_, fun x x' r c c' h1 h2 h3 h4 h5 h6 => ?_, fun x r c h1 h2 h3 => ?_, hw.rel.ex⟩, ?_, fun x h h' => ?_⟩
  · by_cases e : x = m
    · subst e; rw [upd_same]
      have hB := hw.rel.blk b
      rw [hb'] at hB
      rcases hB with ⟨h1, h2⟩ | ⟨r, cap, vs, e, h1, h2⟩
      · exact .inl ⟨by show upd g.i x (g'.i b) x = none; rw [upd_same]; exact h1, h2⟩
      · exact .inr ⟨r, cap, vs, e, by show upd g.i x (g'.i b) x = _; rw [upd_same]; exact h1, h2⟩
    · rw [upd_ne _ _ e]
      by_cases hg : H x = .gone
      · rw [hg]; exact trivial
      · exact RelB.step he hr hg (fun h => by cases h)
  · show upd g.G m (Kd.arr t 0 l.length) x = _
    by_cases e : x = m
    · subst e; rw [upd_same, upd_same]; rfl
    · rw [upd_ne _ _ e, upd_ne _ _ e]
      exact hr.kd x (fun h => hx (by rw [upd_ne _ _ e]; exact h))
  · have h1' : upd g.i m (g'.i b) x = some (r, c) := h1
    have h2' : upd g.i m (g'.i b) x' = some (r, c') := h2
    have k3 : upd g.G m (Kd.arr t 0 l.length) x ≠ .none := h3
    have k4 : upd g.G m (Kd.arr t 0 l.length) x ≠ .dead := h4
    have k5 : upd g.G m (Kd.arr t 0 l.length) x' ≠ .none := h5
    have k6 : upd g.G m (Kd.arr t 0 l.length) x' ≠ .dead := h6
    have kb : g'.G b ≠ .none ∧ g'.G b ≠ .dead := by rw [hk]; exact ⟨(fun h => by cases h), (fun h => by cases h)⟩
    by_cases e : x = m
    · by_cases e' : x' = m
      · rw [e, e']
      · exfalso
        subst e
        rw [upd_same] at h1'; rw [upd_ne _ _ e'] at h2' k5 k6
        obtain ⟨s1, s2⟩ := same x' k5
        have := hw.rel.inj b x' r c c' h1' (by rw [s2]; exact h2') kb.1 kb.2 (by rw [s1]; exact k5) (by rw [s1]; exact k6)
        rw [this] at hb; exact k5 hb
    · by_cases e' : x' = m
      · exfalso
        subst e'
        rw [upd_same] at h2'; rw [upd_ne _ _ e] at h1' k3 k4
        obtain ⟨s1, s2⟩ := same x k3
        have := hw.rel.inj x b r c c' (by rw [s2]; exact h1') h2' (by rw [s1]; exact k3) (by rw [s1]; exact k4) kb.1 kb.2
        rw [← this] at hb; exact k3 hb
      · rw [upd_ne _ _ e] at h1' k3 k4
        rw [upd_ne _ _ e'] at h2' k5 k6
        exact hr.inj x x' r c c' h1' h2' k3 k4 k5 k6
  · have h1' : upd g.i m (g'.i b) x = some (r, c) := h1
    have k2 : upd g.G m (Kd.arr t 0 l.length) x ≠ .none := h2
    have k3 : upd g.G m (Kd.arr t 0 l.length) x ≠ .dead := h3
    by_cases e : x = m
    · subst e
      rw [upd_same] at h1'
      exact hw.rel.disj b r c h1' (by rw [hk]; exact fun h => by cases h) (by rw [hk]; exact fun h => by cases h)
    · rw [upd_ne _ _ e] at h1' k2 k3
      obtain ⟨s1, s2⟩ := same x k2
      exact hw.rel.disj x r c (by rw [s2]; exact h1') (by rw [s1]; exact k2) (by rw [s1]; exact k3)
  · have hv := hw.val
    cases hv with
    | own _ _ _ q1 q2 q3 =>
      obtain ⟨_, q4⟩ := q3 t k l.length hk
      refine .own m 0 u (by show upd g.G m (Kd.arr t 0 l.length) m ≠ .none; rw [upd_same]; exact fun h => by cases h) q2 fun t' k' n' hG => ?_
      have hG : upd g.G m (Kd.arr t 0 l.length) m = .arr t' k' n' := hG
      rw [upd_same] at hG
      cases hG
      refine ⟨Nat.le_refl _, fun _ => ?_⟩
      obtain ⟨a, cap, e1, e2, e3⟩ := q4 rfl
      refine ⟨a, cap, e1, e2, ?_⟩
      show (upd g.i m (g'.i b) m = none ∧ _) ∨ ∃ r, upd g.i m (g'.i b) m = _ ∧ _
      rw [upd_same]; exact e3
  · by_cases e : x = m
    · exact e
    · have h' : upd g.G m (Kd.arr t 0 l.length) x ≠ .none := h'
      rw [upd_ne _ _ e] at h'
      exact absurd h h'
theorem OpOk.fresh {o : Oper} {ρ : Operand → AV} {H H' : Hp} {nb n n' b k : Nat} {t : Ty} {l : List t.den} {D : List Nat} (h : OpOk P o ρ H nb n n' (.own b k) H' D) (hb : n ≤ b) (hb' : H' b = .arr t l k) (hD : ∀ x ∈ D, x = nb ∨ n ≤ x) :
    OpOk P o ρ H nb n n (.own nb 0) (upd H nb (.arr t l 0)) [] :=
  ⟨Nat.le_refl _, fun g a w hr hρ hs hn => (h.2 g a w hr hρ hs hn).mono fun u w' ⟨g', hw⟩ => by
    have hf := hw.fresh hr (fun x hx => by
      rcases hD x hx with e | e
      · rw [e]; exact hs
      · exact hn x e) (hn b hb) hb' hs
    exact ⟨_, hf.ext, hf.rel, hf.val, fun x h1 h2 => .inl (hf.new x h1 h2)⟩⟩

/-- What an operation does to its own block alone leaves what there was as it was. -/
theorem OpOk.own {o : Oper} {ρ : Operand → AV} {H H' : Hp} {nb n n' : Nat} {v : AV} {D : List Nat} (h : OpOk P o ρ H nb n n' v H' D) (hD : ∀ b ∈ D, b = nb) : OpOk P o ρ H nb n n' v H' [] :=
  ⟨h.1, fun g a w hr hρ hs hn => (h.2 g a w hr hρ hs hn).mono fun u w' ⟨g', hw⟩ => by
    have hDn : ∀ b ∈ D, g.G b = .none := fun b hb => by rw [hD b hb]; exact hs
    refine ⟨g', ⟨⟨hw.ext.mono, fun r hr' => ?_, hw.ext.size, fun r hlt _ => hw.ext.frame r hlt fun b hb hne => absurd (hDn b hb) hne, (fun b hb => by cases hb), fun b hb _ => hw.ext.same b hb fun hb' => hb (hDn b hb'), (fun b hb => by cases hb), (fun b hb => by cases hb), hw.ext.fresh, hw.ext.env⟩, hw.rel, hw.val, hw.new⟩⟩
    rcases hw.ext.more r hr' with h | ⟨b, hb, hne, _⟩ | h
    · exact .inl h
    · exact absurd (hDn b hb) hne
    · exact .inr (.inr h)⟩

section text
variable {E : FuncId → Option Entry} {inl : Inl R} {H : Hints} {id base : Nat} {ops : List Oper} {tm0 : Nat → AV} {hp0 : Hp} {d0 : List Nat} {κ : St → Option R} {r : R} {nt nn : Nat}

theorem evAt_app {pre suf : List Ev} {i : Nat} (h : i < pre.length) : evAt (pre ++ suf) i = evAt pre i := by
  unfold evAt; rw [List.getElem?_append_left h]
theorem tmD_pre {pre suf : List Ev} {D : Nat → Bool} : ∀ {m : Nat}, m ≤ pre.length → tmD ops (pre ++ suf) tm0 D m = tmD ops pre tm0 D m
  | 0, _ => rfl
  | m + 1, h => by simp only [tmD]; rw [tmD_pre (by omega), evAt_app (by omega)]
theorem hpD_pre {pre suf : List Ev} {D : Nat → Bool} : ∀ {m : Nat}, m ≤ pre.length → hpD (pre ++ suf) base hp0 D m = hpD pre base hp0 D m
  | 0, _ => rfl
  | m + 1, h => by simp only [hpD]; rw [hpD_pre (by omega), evAt_app (by omega)]
theorem dD_pre {pre suf : List Ev} {D : Nat → Bool} : ∀ {m : Nat}, m ≤ pre.length → dD (pre ++ suf) d0 D m = dD pre d0 D m
  | 0, _ => rfl
  | m + 1, h => by simp only [dD]; rw [dD_pre (by omega), evAt_app (by omega)]

/-- The text's own order, told operation by operation. -/
theorem runOps_text (hE : ∀ f e, E f = some e → Holds P f e) (hI : InlOk P inl) : ∀ (os : List Oper) (pre : List Ev) (st : St), (∀ i, os[i]? = ops[pre.length + i]?) → pre.length + os.length = ops.length →
    st.nt = nt → st.n = nn → st.tm = tmD ops pre tm0 (fun _ => true) pre.length → st.hp = hpD pre base hp0 (fun _ => true) pre.length → st.dirty = dD pre d0 (fun _ => true) pre.length →
    runOps P E inl H id ops (ancs ops []) true base os pre.length st κ = some r →
    ∃ suf, suf.length = os.length ∧ κ ⟨nt, tmD ops (pre ++ suf) tm0 (fun _ => true) ops.length, hpD (pre ++ suf) base hp0 (fun _ => true) ops.length, nn, dD (pre ++ suf) d0 (fun _ => true) ops.length⟩ = some r ∧
      ∀ i o, pre.length ≤ i → ops[i]? = some o → dstOk nt o.dst = true ∧ Fact P (H.wr id) (H.bd id) ops base nn i o (tmD ops (pre ++ suf) tm0 (fun _ => true) i) (hpD (pre ++ suf) base hp0 (fun _ => true) i) (evAt (pre ++ suf) i)
  | [], pre, st, hos, hlen, e1, e2, e3, e4, e5, h => by
    have hl : pre.length = ops.length := by simpa using hlen
    refine ⟨[], rfl, ?_, fun i o hi ho => ?_⟩
    · have h : κ st = some r := h
      rw [List.append_nil, ← hl, ← e3, ← e4, ← e5, ← e1, ← e2]; exact h
    · have := (List.getElem?_eq_some_iff.1 ho).1
      omega
  | o :: os, pre, st, hos, hlen, e1, e2, e3, e4, e5, h => by
    have ho : ops[pre.length]? = some o := by have := hos 0; simpa using this.symm
    simp only [List.length_cons] at hlen
    simp only [runOps] at h
    obtain ⟨hd, h⟩ := br_none h
    have hdst : dstAt ops pre.length = o.dst := by simp [dstAt, ho]
    -- what goes on behind an operation of which e came
    have next : ∀ (e : Ev) (st1 : St), st1.nt = nt → st1.n = nn → st1.tm = setDst o.dst st.tm e.v → st1.hp = e.eff base pre.length st.hp → st1.dirty = e.d ++ st.dirty →
        Fact P (H.wr id) (H.bd id) ops base nn pre.length o st.tm st.hp e → runOps P E inl H id ops (ancs ops []) true base os (pre.length + 1) st1 κ = some r →
        ∃ suf, suf.length = (o :: os).length ∧ κ ⟨nt, tmD ops (pre ++ suf) tm0 (fun _ => true) ops.length, hpD (pre ++ suf) base hp0 (fun _ => true) ops.length, nn, dD (pre ++ suf) d0 (fun _ => true) ops.length⟩ = some r ∧
          ∀ i o, pre.length ≤ i → ops[i]? = some o → dstOk nt o.dst = true ∧ Fact P (H.wr id) (H.bd id) ops base nn i o (tmD ops (pre ++ suf) tm0 (fun _ => true) i) (hpD (pre ++ suf) base hp0 (fun _ => true) i) (evAt (pre ++ suf) i) := by
      intro e st1 f1 f2 f3 f4 f5 hf hk
      have hev : evAt (pre ++ [e]) pre.length = e := by simp [evAt]
      have hlen1 : (pre ++ [e]).length = pre.length + 1 := by simp
      obtain ⟨suf, s1, s2, s3⟩ := runOps_text hE hI os (pre ++ [e]) st1 (fun i => by rw [hlen1]; have := hos (i + 1); simpa [Nat.add_assoc, Nat.add_comm 1 i] using this) (by rw [hlen1]; omega) f1 f2
        (by rw [hlen1, f3]; simp only [tmD, if_true]; rw [hdst, tmD_pre (Nat.le_refl _), hev, e3]) (by rw [hlen1, f4]; simp only [hpD, if_true]; rw [hpD_pre (Nat.le_refl _), hev, e4]) (by rw [hlen1, f5]; simp only [dD, if_true]; rw [dD_pre (Nat.le_refl _), hev, e5]) (by rw [hlen1]; exact hk)
      refine ⟨e :: suf, by simp [s1], ?_, fun i o' hi ho' => ?_⟩
      · rw [show pre ++ e :: suf = pre ++ [e] ++ suf by simp]; exact s2
      · rw [show pre ++ e :: suf = pre ++ [e] ++ suf by simp]
        by_cases hi' : i = pre.length
        · subst hi'
          rw [ho] at ho'; cases ho'
          rw [tmD_pre (by rw [hlen1]; omega), hpD_pre (by rw [hlen1]; omega), evAt_app (by rw [hlen1]; omega), hev, tmD_pre (Nat.le_refl _), hpD_pre (Nat.le_refl _), ← e3, ← e4]
          exact ⟨by rw [← e1]; exact hd, hf⟩
        · exact s3 i o' (by rw [hlen1]; omega) ho'
    have exec : ∀ (st1 : St), st1.nt = st.nt → st1.n = st.n → st1.tm = st.tm → st1.hp = st.hp → st1.dirty = st.dirty → Wants ops o st.tm true → stepOp P E inl H id ops (ancs ops []) true base pre.length o st1 (fun st' => runOps P E inl H id ops (ancs ops []) true base os (pre.length + 1) st' κ) = some r →
        ∃ suf, suf.length = (o :: os).length ∧ κ ⟨nt, tmD ops (pre ++ suf) tm0 (fun _ => true) ops.length, hpD (pre ++ suf) base hp0 (fun _ => true) ops.length, nn, dD (pre ++ suf) d0 (fun _ => true) ops.length⟩ = some r ∧
          ∀ i o, pre.length ≤ i → ops[i]? = some o → dstOk nt o.dst = true ∧ Fact P (H.wr id) (H.bd id) ops base nn i o (tmD ops (pre ++ suf) tm0 (fun _ => true) i) (hpD (pre ++ suf) base hp0 (fun _ => true) i) (evAt (pre ++ suf) i) := by
      intro st1 f1 f2 f3 f4 f5 hw hs
      unfold stepOp at hs
      obtain ⟨_, hs⟩ := br_none hs
      have hs : br (memN (H.bd id) pre.length) _ _ = some r := hs
      rcases br_some hs with ⟨hbd, hs'⟩ | ⟨hbd, hs'⟩ <;> clear hs
      · unfold loadC at hs'
        split at hs' <;> try (cases hs'; done)
        rename_i t x hop
        split at hs' <;> try (cases hs'; done)
        rename_i cs hcs
        split at hs' <;> try (cases hs'; done)
        rename_i v hv
        refine next ⟨v, some (pre.length, .gone), none, []⟩ _ (by show st1.nt = nt; rw [f1, e1]) (by show st1.n = nn; rw [f2, e2]) (by show setDst o.dst st1.tm v = _; rw [f3]) (by show upd st1.hp (base + pre.length) _ = upd st.hp (base + pre.length) .gone; rw [f4]) (by show st1.dirty = _; rw [f5]; rfl) ?_ hs'
        refine .inr ⟨hw, .inl ⟨rfl, rfl, rfl, by unfold blind; rw [hbd]; exact Bool.or_true _, fun g a w hρ => ?_⟩⟩
        have hx := hρ x (by rw [hop]; simp [Op.operands])
        rw [← f3, hcs] at hx
        generalize hu : a.eval x = u at hx
        cases hx with
        | cptr _ ad f h1 h2 =>
          obtain ⟨u', q1, q2⟩ := partV_load (ad := ad) hv (fun j c hj => ⟨f j, (h1 j c hj).2, h2 j c hj⟩)
          refine ⟨u', ?_, q2⟩
          rw [Addr.add_zero'] at q1
          unfold execOp
          rw [hop]
          simp [hu, Instr.loadAt, Instr.sureAddr, q1]
      have hs : br (memN (H.jo id) pre.length) _ _ = some r := hs'
      clear hs'
      rcases br_some hs with ⟨_, hs'⟩ | ⟨_, hs'⟩ <;> clear hs
      · obtain ⟨hh, hs⟩ := none_br hs'
        clear hs'
        rw [aopT_congr (ρ' := evalO (seen o st1.tm)) fun x hx => (seen_eval hx).symm] at hs
        obtain ⟨v, H', n', D, hk, hop⟩ := step_sound hE hI hs
        unfold joinOwn at hk
        split at hk <;> try (cases hk; done)
        rename_i b k
        split at hk <;> try (cases hk; done)
        rename_i t l k' hH'
        obtain ⟨hc, hk2⟩ := br_none hk
        obtain ⟨hc1, hc2⟩ := and_spec hc
        obtain ⟨hc4, hc3⟩ := and_spec hc2
        cases Nat.eq_of_beq_eq_true hc1
        have hop := hop.fresh (Nat.le_of_ble_eq_true hc4) hH' fun x hx => by
          have := List.all_eq_true.1 hc3 x hx
          have this : ((Nat.beq x (base + pre.length)) || (Nat.ble (st1.n + pre.length * 4096) x)) = true := this
          rw [Bool.or_eq_true] at this
          exact this.imp Nat.eq_of_beq_eq_true Nat.le_of_ble_eq_true
        refine next ⟨.own (base + pre.length) 0, some (pre.length, .arr t l 0), none, []⟩ _ (by show st1.nt = nt; rw [f1, e1]) (by show st1.n = nn; rw [f2, e2]) (by show setDst o.dst st1.tm _ = _; rw [f3]) (by show upd st1.hp (base + pre.length) _ = upd st.hp (base + pre.length) _; rw [f4]) (by show st1.dirty = _; rw [f5]; rfl) ?_ hk2
        rw [f2, e2, f3, f4] at hop
        exact .inr ⟨hw, .inr (.inl ⟨by unfold blind; rw [hh, hbd]; rfl, rfl, rfl, _, by rw [upd_same], hop⟩)⟩
      have hs : br (memN (H.lw id) pre.length) _ _ = some r := hs'
      clear hs'
      rcases br_some hs with ⟨_, hs'⟩ | ⟨_, hs'⟩ <;> clear hs
      · obtain ⟨hh, hs⟩ := none_br hs'
        clear hs'
        rw [aopT_congr (ρ' := evalO (seen o st1.tm)) fun x hx => (seen_eval hx).symm] at hs
        obtain ⟨v, H', n', D, hk, hop⟩ := step_sound hE hI hs
        split at hk <;> try (cases hk; done)
        rename_i b
        obtain ⟨hc, hk⟩ := br_none hk
        obtain ⟨hc1, hc2⟩ := and_spec hc
        obtain ⟨hb1, hc3⟩ := and_spec hc2
        obtain ⟨hb2, hb3⟩ := and_spec hc3
        have hn := Nat.eq_of_beq_eq_true hc1
        obtain ⟨i, rfl⟩ : ∃ i, b = base + i := ⟨b - base, by have := Nat.le_of_ble_eq_true hb1; omega⟩
        rw [Nat.add_sub_cancel_left] at hb2 hb3
        refine next ⟨v, some (i, H' (base + i)), none, [base + i]⟩ _ (by show st1.nt = nt; rw [f1, e1]) (by show st1.n = nn; rw [f2, e2]) (by show setDst o.dst st1.tm v = _; rw [f3]) (by show upd st1.hp (base + i) _ = upd st.hp (base + i) _; rw [f4]) (by show [base + i] ++ st1.dirty = _; rw [f5]) ?_ hk
        rw [f2, e2] at hn hop
        rw [f3, f4, hn] at hop
        exact .inr ⟨hw, .inr (.inr (.inr ⟨by unfold blind; rw [hh, hbd]; rfl, rfl, i, H', hb2, hb3, rfl, rfl, hop⟩))⟩
      have hs : br (memN (H.wr id) pre.length) _ _ = some r := hs'
      clear hs'
      rcases br_some hs with ⟨hwr, hs'⟩ | ⟨_, hs'⟩ <;> clear hs
      · obtain ⟨hbar, hs⟩ := br_none hs'
        clear hs'
        rw [aopT_congr (ρ' := evalO (seen o st1.tm)) fun x hx => (seen_eval hx).symm] at hs
        obtain ⟨v, H', n', D, hk, hop⟩ := step_sound hE hI hs
        obtain ⟨hn, hk⟩ := br_none hk
        have hn := Nat.le_of_ble_eq_true hn
        refine next ⟨v, none, some H', D⟩ _ (by show st1.nt = nt; rw [f1, e1]) (by show st1.n = nn; rw [f2, e2]) (by show setDst o.dst st1.tm v = _; rw [f3]) rfl (by show D ++ st1.dirty = _; rw [f5]) ?_ hk
        rw [f2, e2] at hn hop
        rw [f3, f4] at hop
        exact .inr ⟨hw, .inr (.inr (.inl ⟨hwr, hbar, H', n', rfl, hn, hop⟩))⟩
      · obtain ⟨hth, hs⟩ := none_br hs'
        clear hs'
        cases hh : heapless o with
        | true =>
          rw [hh] at hth
          have hth : (memN (H.thaw id) pre.length || memN (H.freeze id) pre.length) = false := hth
          rw [Bool.or_eq_false_iff] at hth
          rw [hth.1, hth.2] at hs
          have hs : aop P E inl o (evalO st1.tm) (hideFor st1.hp base (((ancs ops [])[pre.length]?).getD 0) ops.length) (base + pre.length) (st1.n + pre.length * 4096) (fun v hp' n' d => br (d.all (Nat.beq (base + pre.length))) (br (Nat.beq n' (st1.n + pre.length * 4096)) (runOps P E inl H id ops (ancs ops []) true base os (pre.length + 1) { st1 with tm := setDst o.dst st1.tm v, hp := upd st1.hp (base + pre.length) (hp' (base + pre.length)) } κ) none) none) = some r := hs
          obtain ⟨v, hk, hop⟩ := heapless_sound hh hs
          obtain ⟨_, hk⟩ := br_none hk
          obtain ⟨hn, hk⟩ := br_none hk
          have hgone : hideFor st1.hp base (((ancs ops [])[pre.length]?).getD 0) ops.length (base + pre.length) = .gone := by
            rcases hide_spec (H := st1.hp) (base := base) (m := ((ancs ops [])[pre.length]?).getD 0) (k := ops.length) (b := base + pre.length) with h | ⟨_, h⟩
            · exact h
            · have := anc_lt _ _ (h pre.length (by omega) rfl); omega
          refine next ⟨v, some (pre.length, .gone), none, []⟩ _ (by show st1.nt = nt; rw [f1, e1]) (by show st1.n = nn; rw [f2, e2]) (by show setDst o.dst st1.tm v = _; rw [f3]) (by show upd st1.hp (base + pre.length) _ = upd st.hp (base + pre.length) .gone; rw [hgone, f4]) (by show st1.dirty = _; rw [f5]; rfl) ?_ hk
          rw [f3] at hop
          exact .inr ⟨hw, .inl ⟨rfl, rfl, rfl, by unfold blind; rw [hh]; rfl, hop⟩⟩
        | false =>
          rw [aopT_congr (ρ' := evalO (seen o st1.tm)) fun x hx => (seen_eval hx).symm] at hs
          obtain ⟨v, H', n', D, hk, hop⟩ := step_sound hE hI hs
          obtain ⟨hD, hk⟩ := br_none hk
          have hop := hop.own fun b hb => (Nat.eq_of_beq_eq_true (List.all_eq_true.1 hD b hb)).symm
          clear hD
          obtain ⟨hn, hk⟩ := br_none hk
          have hn := Nat.eq_of_beq_eq_true hn
          refine next ⟨v, some (pre.length, H' (base + pre.length)), none, []⟩ _ (by show st1.nt = nt; rw [f1, e1]) (by show st1.n = nn; rw [f2, e2]) (by show setDst o.dst st1.tm v = _; rw [f3]) (by show upd st1.hp (base + pre.length) _ = upd st.hp (base + pre.length) _; rw [f4]) (by show st1.dirty = _; rw [f5]; rfl) ?_ hk
          rw [f2, e2] at hn hop
          rw [f3, f4, hn] at hop
          exact .inr ⟨hw, .inr (.inl ⟨by unfold blind; rw [hh, hbd]; rfl, rfl, rfl, H', rfl, hop⟩)⟩
    have skip : ∀ (st1 : St), st1.nt = st.nt → st1.n = st.n → st1.tm = setDst o.dst st.tm (.tup []) → st1.hp = st.hp → st1.dirty = st.dirty → Wants ops o st.tm false → runOps P E inl H id ops (ancs ops []) true base os (pre.length + 1) st1 κ = some r →
        ∃ suf, suf.length = (o :: os).length ∧ κ ⟨nt, tmD ops (pre ++ suf) tm0 (fun _ => true) ops.length, hpD (pre ++ suf) base hp0 (fun _ => true) ops.length, nn, dD (pre ++ suf) d0 (fun _ => true) ops.length⟩ = some r ∧
          ∀ i o, pre.length ≤ i → ops[i]? = some o → dstOk nt o.dst = true ∧ Fact P (H.wr id) (H.bd id) ops base nn i o (tmD ops (pre ++ suf) tm0 (fun _ => true) i) (hpD (pre ++ suf) base hp0 (fun _ => true) i) (evAt (pre ++ suf) i) := by
      intro st1 f1 f2 f3 f4 f5 hw hk
      exact next ⟨.tup [], none, none, []⟩ st1 (by rw [f1, e1]) (by rw [f2, e2]) f3 f4 (by rw [f5]; rfl) (.inl ⟨hw, rfl⟩) hk
    split at h
    · rename_i hgd
      exact exec st rfl rfl rfl rfl rfl (.inl ⟨hgd, rfl⟩) h
    · rename_i gi want hgd
      split at h <;> try (cases h; done)
      rename_i t ht
      split at h <;> try (cases h; done)
      · rename_i b hb
        have e0 : upd st.tm t (.bool b) = st.tm := upd_eq hb
        have hw : ∀ c, c = (b == want) → Wants ops o st.tm c := fun c hc => .inr ⟨gi, want, t, hgd, ht, .inl ⟨b, hb, hc⟩⟩
        cases b <;> cases want <;> simp only [br] at h
        · refine exec _ ?_ ?_ ?_ ?_ ?_ (hw true rfl) h <;> first | exact e0 | rfl
        · refine skip _ ?_ ?_ ?_ ?_ ?_ (hw false rfl) h <;> first | (exact congrArg (fun f => setDst o.dst f (.tup [])) e0) | rfl
        · refine skip _ ?_ ?_ ?_ ?_ ?_ (hw false rfl) h <;> first | (exact congrArg (fun f => setDst o.dst f (.tup [])) e0) | rfl
        · refine exec _ ?_ ?_ ?_ ?_ ?_ (hw true rfl) h <;> first | exact e0 | rfl
      · rename_i hb
        refine skip { st with tm := setDst o.dst st.tm (.tup []) } rfl rfl rfl rfl rfl (.inr ⟨gi, want, t, hgd, ht, .inr ⟨hb, rfl⟩⟩) h
end text
end Go.VI
