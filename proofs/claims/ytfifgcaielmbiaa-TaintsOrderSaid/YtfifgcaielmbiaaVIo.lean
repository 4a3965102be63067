/- A region in its own order; what an operation looks at. -/
import Derived.Test.YtfifgcaielmbiaaVIn
namespace Go.VI
set_option linter.unusedVariables false
set_option linter.unusedSimpArgs false
variable {R : Type} {P : Program}

theorem upd_eq {α : Type} {f : Nat → α} {i : Nat} {v : α} (h : f i = v) : upd f i v = f := by
  funext j
  by_cases e : j = i
  · subst e; rw [upd_same, h]
  · exact upd_ne _ _ e

/-- Whether an operation is wanted, and its guard's slot. -/
theorem wanted_none {o : Oper} {y : Nat → Option Bool} (h : o.guard = none) : Region.wanted o y = true := by simp [Region.wanted, h]
theorem yielded_bool {ops : Array Oper} {a : Act} {gi t : Nat} {b : Bool} (h : (ops[gi]?).bind (·.dst) = some t) (hv : a.tmps.getD t Go.undef = .bool b) : yielded ops a.tmps gi = some b := by
  have : a.tmps[t]? = some (.bool b) := by
    rw [Array.getD_eq_getD_getElem?] at hv
    cases e : a.tmps[t]? with
    | none => rw [e] at hv; cases hv
    | some v => rw [e] at hv; simp at hv; rw [hv]
  simp only [yielded, h, Option.bind_some, this]
theorem yielded_tup {ops : Array Oper} {a : Act} {gi t : Nat} (h : (ops[gi]?).bind (·.dst) = some t) (hv : a.tmps.getD t Go.undef = .tuple #[]) : yielded ops a.tmps gi = none := by
  simp only [yielded, h, Option.bind_some]
  rw [Array.getD_eq_getD_getElem?] at hv
  cases e : a.tmps[t]? with
  | none => rfl
  | some v => rw [e] at hv; simp at hv; rw [hv]

theorem relV_tup0 {g : Gh} {w : World} {v : Value} (h : RelV g w (.tup []) v) : v = .tuple #[] := by
  cases h with
  | tup _ vs f h1 _ _ =>
    have : vs = #[] := Array.eq_empty_of_size_eq_zero h1
    rw [this]
theorem relV_undef (g : Gh) (w : World) : RelV g w (.tup []) Go.undef := RelVs.tup .nil

/-- What is asked of a state in the middle of a region: the numbers of the operations to come are not taken. -/
structure Mid (g : Gh) (st : St) (a : Act) (w : World) (base j len : Nat) : Prop where
  tm : ∀ i, RelV g w (st.tm i) (a.tmps.getD i Go.undef)
  nt : a.tmps.size = st.nt
  df : a.defers = []
  hp : HRel g st.hp w
  fr : ∀ b, st.n ≤ b → g.G b = .none
  sl : ∀ i, j ≤ i → i < len → g.G (base + i) = .none
theorem Mid.rel {g : Gh} {st : St} {a : Act} {w : World} {base j len : Nat} (h : Mid g st a w base j len) : Rel g st a w := ⟨h.tm, h.nt, h.df, h.hp, h.fr⟩

/-- What a region comes to. -/
def EndsQ (lo : Nat) (g : Gh) (st : St) (w : World) (st' : St) (Q : Exit → Act → World → Prop) : Prop :=
  ∀ a' w' g', Rel g' st' a' w' → Goes lo g st w g' st' w' → Q .normal a' w'

theorem Goes.refl (lo : Nat) (g : Gh) (st : St) (w : World) : Goes lo g st w g st w := ⟨⟨[], rfl, .refl ..⟩, fun b h h' => absurd h h', Nat.le_refl _, rfl⟩

theorem runOps_seq {E : FuncId → Option Entry} {inl : Inl R} (hE : ∀ f e, E f = some e → Holds P f e) (hI : InlOk P inl) {H : Hints} {id base len : Nat} {ops : List Oper} {an : List Nat} {κ : St → Option R} {r : R} :
    ∀ (os : List Oper) (j : Nat) (st : St), (∀ i, os[i]? = ops[j + i]?) → ops.length = len → base + len ≤ st.n → j + os.length = len → runOps P E inl H id ops an false base os j st κ = some r →
      ∃ st', κ st' = some r ∧ st.n ≤ st'.n ∧ ∀ (lo : Nat) (Q : Exit → Act → World → Prop) (g0 g : Gh) (st0 : St) (w0 : World) (a : Act) (w : World), EndsQ lo g0 st0 w0 st' Q → Mid g st a w base j len → Goes lo g0 st0 w0 g st w → (lo ≤ base) →
        wpOps P ops.toArray Q (List.range' j os.length) a w
  | [], j, st, _, _, _, _, h => ⟨st, h, Nat.le_refl _, fun lo Q g0 g st0 w0 a w hQ hm hg _ => hQ _ _ g hm.rel hg⟩
  | o :: os, j, st, hos, hlen, hn, hj, h => by
    have ho : ops[j]? = some o := by have := hos 0; simpa using this.symm
    have hos' : ∀ i, os[i]? = ops[j + 1 + i]? := fun i => by have := hos (i + 1); simpa [Nat.add_assoc, Nat.add_comm 1 i] using this
    have hoA : ops.toArray[j]? = some o := by simpa using ho
    simp only [List.length_cons] at hj
    simp only [List.length_cons, List.range'_succ, wpOps, hoA]
    simp only [runOps] at h
    obtain ⟨hd, h⟩ := br_none h
    -- an operation that is carried out
    have exec : ∀ (st1 : St), st1.tm = st.tm → st1.hp = st.hp → st1.n = st.n → st1.nt = st.nt → st1.dirty = st.dirty → stepOp P E inl H id ops an false base j o st1 (fun st' => runOps P E inl H id ops an false base os (j + 1) st' κ) = some r →
        ∃ st', κ st' = some r ∧ st.n ≤ st'.n ∧ ∀ (lo : Nat) (Q : Exit → Act → World → Prop) (g0 g : Gh) (st0 : St) (w0 : World) (a : Act) (w : World), EndsQ lo g0 st0 w0 st' Q → Mid g st a w base j len → Goes lo g0 st0 w0 g st w → (lo ≤ base) →
          o.wp P a w (wpOps P ops.toArray Q (List.range' (j + 1) os.length)) Q := by
      intro st1 e1 e2 e3 e4 e5 hs
      unfold stepOp at hs
      obtain ⟨hd1, hs⟩ := br_none hs
      have hs : aopT P E inl (memN (H.thaw id) j) o (evalO st1.tm) st1.hp (base + j) st1.n (post (memN (H.freeze id) j) fun v hp' n' d => runOps P E inl H id ops an false base os (j + 1) { st1 with tm := setDst o.dst st1.tm v, hp := hp', n := n', dirty := d ++ st1.dirty } κ) = some r := hs
      obtain ⟨v, H', n', D, hk, hle, hop⟩ := step_sound hE hI hs
      obtain ⟨st', hk', hn', hrest⟩ := runOps_seq hE hI os (j + 1) _ hos' hlen (by show base + len ≤ n'; rw [e3] at hle; omega) (by omega) hk
      refine ⟨st', hk', by have : n' ≤ st'.n := hn'; rw [e3] at hle; omega, fun lo Q g0 g st0 w0 a w hQ hm hg hb0 => ?_⟩
      have := hop g a w (by rw [e2]; exact hm.hp) (fun x => by rw [e1]; exact hm.rel.eval x) (hm.sl j (Nat.le_refl _) (by omega)) (fun b hb => hm.fr b (by rw [e3] at hb; exact hb))
      refine this.wp fun u w' ⟨g', hw⟩ => ?_
      refine hrest lo Q g0 g' st0 w0 _ w' hQ ?_ ?_ hb0
      · refine ⟨?_, by rw [put_size, hm.nt]; exact e4.symm, by rw [put_defers]; exact hm.df, hw.rel, fun b hb => ?_, fun i h1 h2 => ?_⟩
        · rw [e1]
          exact put_tm (fun i => (hm.tm i).step (by have := hw.ext; rw [e2] at this; exact this) hm.hp) hm.nt (by rw [← e4]; exact hd1) hw.val
        · by_cases hb' : g'.G b = .none
          · exact hb'
          · exfalso
            have hb : n' ≤ b := hb
            have hbn := hm.fr b (by rw [e3] at hle; omega)
            rcases hw.new b hbn hb' with e | ⟨_, h2⟩
            · rw [e3] at hle; omega
            · omega
        · by_cases hb' : g'.G (base + i) = .none
          · exact hb'
          · exfalso
            have hbn := hm.sl i (by omega) h2
            rcases hw.new _ hbn hb' with e | ⟨h3, _⟩
            · omega
            · rw [e3] at h3; omega
      · refine hg.trans ⟨⟨D, by show D ++ st1.dirty = _; rw [e5], by have := hw.ext; rw [e2] at this; exact this⟩, fun b h1 h2 => ?_, by rw [e3] at hle; exact hle, e4⟩ hm.hp
        rcases hw.new b h1 h2 with e | ⟨h3, _⟩
        · omega
        · rw [e3] at h3; omega
    have skip : ∀ (st1 : St), st1.tm = setDst o.dst st.tm (.tup []) → st1.hp = st.hp → st1.n = st.n → st1.nt = st.nt → st1.dirty = st.dirty → runOps P E inl H id ops an false base os (j + 1) st1 κ = some r →
        ∃ st', κ st' = some r ∧ st.n ≤ st'.n ∧ ∀ (lo : Nat) (Q : Exit → Act → World → Prop) (g0 g : Gh) (st0 : St) (w0 : World) (a : Act) (w : World), EndsQ lo g0 st0 w0 st' Q → Mid g st a w base j len → Goes lo g0 st0 w0 g st w → (lo ≤ base) →
          wpOps P ops.toArray Q (List.range' (j + 1) os.length) (a.put o.dst Go.undef) w := by
      intro st1 e1 e2 e3 e4 e5 hk
      obtain ⟨st', hk', hn', hrest⟩ := runOps_seq hE hI os (j + 1) st1 hos' hlen (by rw [e3]; exact hn) (by omega) hk
      refine ⟨st', hk', by rw [e3] at hn'; exact hn', fun lo Q g0 g st0 w0 a w hQ hm hg hb0 => ?_⟩
      refine hrest lo Q g0 g st0 w0 _ w hQ ?_ ?_ hb0
      · refine ⟨?_, by rw [put_size, hm.nt, e4], by rw [put_defers]; exact hm.df, by rw [e2]; exact hm.hp, fun b hb => hm.fr b (by rw [e3] at hb; exact hb), fun i h1 h2 => hm.sl i (by omega) h2⟩
        rw [e1]
        exact put_tm hm.tm hm.nt hd (relV_undef g w)
      · exact hg.trans ⟨⟨[], by rw [e5]; rfl, by rw [e2]; exact .refl ..⟩, fun b h1 h2 => absurd h1 h2, by rw [e3]; exact Nat.le_refl _, e4⟩ hm.hp
    split at h
    · rename_i hgd
      obtain ⟨st', h1, h2, h3⟩ := exec st rfl rfl rfl rfl rfl h
      refine ⟨st', h1, h2, fun lo Q g0 g st0 w0 a w hQ hm hg hb0 => ?_⟩
      have hw := wanted_none (y := yielded ops.toArray a.tmps) hgd
      rw [if_pos hw]
      exact .inl (h3 lo Q g0 g st0 w0 a w hQ hm hg hb0)
    · rename_i gi want hgd
      split at h <;> try (cases h; done)
      rename_i t ht
      have htA : (ops.toArray[gi]?).bind (·.dst) = some t := by simpa using ht
      split at h <;> try (cases h; done)
      · rename_i b hb
        have e0 : upd st.tm t (.bool b) = st.tm := upd_eq hb
        have hwd : ∀ {g : Gh} {a : Act} {w : World}, Mid g st a w base j len → Region.wanted o (yielded ops.toArray a.tmps) = (b == want) := by
          intro g a w hm
          have htm := hm.tm t
          rw [hb] at htm
          generalize hv : a.tmps.getD t Go.undef = v at htm
          cases htm
          have hy := yielded_bool htA hv
          simp only [Region.wanted, hgd, hy]
          cases b <;> cases want <;> rfl
        have run : b == want → (∃ st1 : St, st1.tm = st.tm ∧ st1.hp = st.hp ∧ st1.n = st.n ∧ st1.nt = st.nt ∧ st1.dirty = st.dirty ∧ stepOp P E inl H id ops an false base j o st1 (fun st' => runOps P E inl H id ops an false base os (j + 1) st' κ) = some r) →
            ∃ st', κ st' = some r ∧ st.n ≤ st'.n ∧ ∀ (lo : Nat) (Q : Exit → Act → World → Prop) (g0 g : Gh) (st0 : St) (w0 : World) (a : Act) (w : World), EndsQ lo g0 st0 w0 st' Q → Mid g st a w base j len → Goes lo g0 st0 w0 g st w → (lo ≤ base) →
              if Region.wanted o (yielded ops.toArray a.tmps) = true then (o.wp P a w (wpOps P ops.toArray Q (List.range' (j + 1) os.length)) Q ∨ Oper.asks P o a w ∧ LetsOut Q) else wpOps P ops.toArray Q (List.range' (j + 1) os.length) (a.put o.dst Go.undef) w := by
          rintro hbw ⟨st1, e1, e2, e3, e4, e5, hs⟩
          obtain ⟨st', h1, h2, h3⟩ := exec st1 e1 e2 e3 e4 e5 hs
          refine ⟨st', h1, h2, fun lo Q g0 g st0 w0 a w hQ hm hg hb0 => ?_⟩
          rw [hwd hm, if_pos hbw]
          exact .inl (h3 lo Q g0 g st0 w0 a w hQ hm hg hb0)
        have pass : ¬ (b == want) = true → (∃ st1 : St, st1.tm = setDst o.dst st.tm (.tup []) ∧ st1.hp = st.hp ∧ st1.n = st.n ∧ st1.nt = st.nt ∧ st1.dirty = st.dirty ∧ runOps P E inl H id ops an false base os (j + 1) st1 κ = some r) →
            ∃ st', κ st' = some r ∧ st.n ≤ st'.n ∧ ∀ (lo : Nat) (Q : Exit → Act → World → Prop) (g0 g : Gh) (st0 : St) (w0 : World) (a : Act) (w : World), EndsQ lo g0 st0 w0 st' Q → Mid g st a w base j len → Goes lo g0 st0 w0 g st w → (lo ≤ base) →
              if Region.wanted o (yielded ops.toArray a.tmps) = true then (o.wp P a w (wpOps P ops.toArray Q (List.range' (j + 1) os.length)) Q ∨ Oper.asks P o a w ∧ LetsOut Q) else wpOps P ops.toArray Q (List.range' (j + 1) os.length) (a.put o.dst Go.undef) w := by
          rintro hbw ⟨st1, e1, e2, e3, e4, e5, hs⟩
          obtain ⟨st', h1, h2, h3⟩ := skip st1 e1 e2 e3 e4 e5 hs
          refine ⟨st', h1, h2, fun lo Q g0 g st0 w0 a w hQ hm hg hb0 => ?_⟩
          rw [hwd hm, if_neg hbw]
          exact h3 lo Q g0 g st0 w0 a w hQ hm hg hb0
        cases b <;> cases want <;> simp only [br] at h
        · refine run rfl ⟨_, ?_, ?_, ?_, ?_, ?_, h⟩ <;> first | exact e0 | rfl
        · refine pass (by decide) ⟨_, ?_, ?_, ?_, ?_, ?_, h⟩ <;> first | (exact congrArg (fun f => setDst o.dst f (.tup [])) e0) | rfl
        · refine pass (by decide) ⟨_, ?_, ?_, ?_, ?_, ?_, h⟩ <;> first | (exact congrArg (fun f => setDst o.dst f (.tup [])) e0) | rfl
        · refine run rfl ⟨_, ?_, ?_, ?_, ?_, ?_, h⟩ <;> first | exact e0 | rfl
      · rename_i hb
        obtain ⟨st', h1, h2, h3⟩ := skip { st with tm := setDst o.dst st.tm (.tup []) } rfl rfl rfl rfl rfl h
        refine ⟨st', h1, h2, fun lo Q g0 g st0 w0 a w hQ hm hg hb0 => ?_⟩
        have htm := hm.tm t
        rw [hb] at htm
        have hv := relV_tup0 htm
        have hy := yielded_tup htA hv
        have hwd : Region.wanted o (yielded ops.toArray a.tmps) = false := by simp only [Region.wanted, hgd, hy]; rfl
        rw [hwd, if_neg (by decide)]
        exact h3 lo Q g0 g st0 w0 a w hQ hm hg hb0

/-- A region in its own order. -/
theorem region_seq {E : FuncId → Option Entry} {inl : Inl R} (hE : ∀ f e, E f = some e → Holds P f e) (hI : InlOk P inl) {H : Hints} {id : Nat} {ops : List Oper} {st : St} {κ : KC R} {r : R} (h : regionO P E inl H id ops false st κ = some r) :
    ∃ st', κ .normal st' = some r ∧ st.n ≤ st'.n ∧ ∀ (g : Gh) (a : Act) (w : World) (Q : Exit → Act → World → Prop), Rel g st a w → EndsQ st.n g st w st' Q → wpOps P ops.toArray Q (List.range ops.toArray.size) a w := by
  have h : runOps P E inl H id ops [] false st.n ops 0 { st with n := st.n + ops.length } (fun st' => κ .normal st') = some r := h
  obtain ⟨st', h1, h2, h3⟩ := runOps_seq hE hI ops 0 { st with n := st.n + ops.length } (fun i => by rw [Nat.zero_add]) rfl (Nat.le_refl _) (by simp) h
  refine ⟨st', h1, by have : st.n + ops.length ≤ st'.n := h2; omega, fun g a w Q hr hQ => ?_⟩
  have := h3 st.n Q g g st w a w hQ ⟨hr.tm, hr.nt, hr.df, hr.hp, fun b hb => hr.fr b (by have : st.n + ops.length ≤ b := hb; omega), fun i _ hi => hr.fr _ (by omega)⟩ ⟨⟨[], rfl, .refl ..⟩, fun b h h' => absurd h h', by show st.n ≤ st.n + _; omega, rfl⟩ (Nat.le_refl _)
  rw [List.range_eq_range', List.size_toArray]
  exact this
end Go.VI
