/- Conversions; calls. -/
import Derived.Test.YtfifgcaielmbiaaVIk
namespace Go.VI
set_option linter.unusedVariables false
set_option linter.unusedSimpArgs false
variable {R : Type} {P : Program}

theorem ofBytes_fold (l : List Int) : l.foldl (fun r n => r.push (UInt8.ofNat n.toNat)) ByteArray.empty = ofBytes l := by
  have key : ∀ (l : List Int) (s : ByteArray), l.foldl (fun r n => r.push (UInt8.ofNat n.toNat)) s = ⟨s.data ++ (l.map fun n => UInt8.ofNat n.toNat).toArray⟩ := by
    intro l
    induction l with
    | nil => intro s; cases s; simp
    | cons n l ih =>
      intro s
      rw [List.foldl_cons, ih]
      congr 1
      apply Array.ext'
      simp [ByteArray.push]
  rw [key]
  unfold ofBytes
  congr 1
  apply Array.ext'
  simp [ByteArray.empty, ByteArray.emptyWithCapacity]
  try rfl

theorem convO_sound {src dst : TypeId} {x : AV} {H : Hp} {κ : AV → Option R} {r : R} (h : convO P src dst x H κ = some r) :
    ∃ v, κ v = some r ∧ ∀ (g : Gh) (w : World) (u : Value), HRel g H w → RelV g w x u → ∃ u', (convert src dst u).run P w = .ok u' w ∧ RelV g w v u' := by
  unfold convO at h
  split at h
  · cases h
  rename_i sd hs
  split at h
  · rename_i k k' m hd
    refine ⟨_, h, fun g w u hr hu => ?_⟩
    cases hu
    exact ⟨_, by simp [convert, run_underlying hs, run_underlying hd, Conv.intToInt], .int ..⟩
  · rename_i s hd
    refine ⟨_, h, fun g w u hr hu => ?_⟩
    cases hu
    refine ⟨.string s, ?_, .str ..⟩
    simp only [convert, Sem.run_bind, run_underlying hs, run_underlying hd, Result.andThen_ok]
    cases sd <;> rfl
  · rename_i k m hd
    refine ⟨_, h, fun g w u hr hu => ?_⟩
    cases hu
    refine ⟨.string (Utf8.encode m), ?_, .str ..⟩
    simp only [convert, Sem.run_bind, run_underlying hs, run_underlying hd, Result.andThen_ok]
    cases sd <;> rfl
  · rename_i v hd n1 n2
    split at h
    case h_2 => cases h
    rename_i e
    split at h
    case h_2 => cases h
    rename_i he
    split at h
    case h_2 => cases h
    rename_i l hl
    refine ⟨_, h, fun g w u hr hu => ?_⟩
    obtain ⟨a, cap, rfl, hle, hc⟩ := listOf_sound hl hr hu
    refine ⟨.string (ofBytes l), ?_, .str ..⟩
    have hconv : (convert src dst (.slice a l.length cap)).run P w = (Conv.bytesToString (.slice a l.length cap)).run P w := by
      cases a <;> simp only [convert, Sem.run_bind, run_underlying hs, run_underlying hd, run_underlying he, Result.andThen_ok]
    rw [hconv]
    cases a with
    | none =>
      have : l = [] := by
        cases l with
        | nil => rfl
        | cons y l => obtain ⟨ad, h, _⟩ := hc 0 y rfl; cases h
      subst this
      rfl
    | some ad =>
      have hcells : ∀ j v, (l.map (Value.int .u8))[j]? = some v → w.cell? (ad.add j) = some v := by
        intro j v hj
        rw [List.getElem?_map] at hj
        cases hy : l[j]? with
        | none => rw [hy] at hj; cases hj
        | some y =>
          rw [hy] at hj
          cases hj
          obtain ⟨ad', e', c, hc1, hc2⟩ := hc j y hy
          cases e'
          have hc1 : c = [.int .u8 y] := hc1
          have := hc2 0 (.int .u8 y) (by rw [hc1]; rfl)
          simpa [Ty.size] using this
      have hload := run_loadCells_list (P := P) w ad (l.map (Value.int .u8)) hcells
      rw [List.length_map] at hload
      rw [run_bytesToString w ad l.length cap l hload, ofBytes_fold]
  · cases h

theorem RelV.monoF {g : Gh} {w : World} {F' : Nat → Prop} (hF : ∀ r, g.F r → F' r) {x : AV} {v : Value} (h : RelV g w x v) : RelV ⟨F', g.i, g.G⟩ w x v := by
  induction h with
  | undef v => exact .undef v
  | int k n => exact .int k n
  | bool b => exact .bool b
  | str s => exact .str s
  | vals t l v ht => exact .vals t l v (ht.mono hF (fun _ _ => rfl))
  | nils => exact .nils
  | lits n sz cs a cap f hn hz hc _ ih =>
    refine .lits n sz cs a cap f hn hz (fun j c hj => ?_) ih
    obtain ⟨ad, ha, hb, hw⟩ := hc j c hj
    exact ⟨ad, ha, hF _ hb, hw⟩
  | own b k v hn hs ha => exact .own b k v hn hs ha
  | sref b off len k lim v hn hs ha => exact .sref b off len k lim v hn hs ha
  | ptr b i o k v hn hp ha hb hi => exact .ptr b i o k v hn hp ha hb hi
  | cptr cs ad f hc _ ih => exact .cptr cs ad f (fun j c hj => ⟨hF _ (hc j c hj).1, (hc j c hj).2⟩) ih
  | nilp => exact .nilp
  | map b v hn hp ha => exact .map b v hn hp ha
  | nilmap => exact .nilmap
  | stamp b i k v hn hp ha => exact .stamp b i k v hn hp ha
  | fn f xs ys vs us fx fy h1 h2 h3 _ h5 _ ih1 ih2 => exact .fn f xs ys vs us fx fy h1 h2 h3 ih1 h5 ih2
  | nilfn => exact .nilfn
  | iface t c v _ ih => exact .iface t c v ih
  | nili => exact .nili
  | agg cs vs f h1 h2 _ ih => exact .agg cs vs f h1 h2 ih
  | tup cs vs f h1 h2 _ ih => exact .tup cs vs f h1 h2 ih

/-- All memory that is known. -/
def Gh.all (g : Gh) : Gh := ⟨fun r => g.F r ∨ ∃ b c, g.i b = some (r, c) ∧ g.G b ≠ .none ∧ g.G b ≠ .dead, g.i, g.G⟩

theorem borrow1_sound {g : Gh} {H : Hp} {w : World} {v : AV} {u : Value} (hr : HRel g H w) (h : RelV g w v u) : RelV g.all w (borrow1 H v) u := by
  have hm : RelV g.all w v u := h.monoF (fun r h => .inl h)
  have arr : ∀ {b k' : Nat} {t : Ty} {l : List t.den}, H b = .arr t l k' → g.G b = .arr t k' l.length ∧ ∀ i y, l[i]? = some y → ∃ r c', g.i b = some (r, c') ∧ g.all.F r ∧ ∃ c, RelT g.all.F w t y c ∧ ∀ j v, c[j]? = some v → w.cell? ⟨r, i * t.size + j, none⟩ = some v := by
    intro b k' t l hb
    have hs : H b ≠ .gone := by rw [hb]; exact fun h => by cases h
    obtain ⟨hn, hd⟩ := live_of hr hs
    have hG : g.G b = .arr t k' l.length := by rw [hr.kd b (fun e => hs e), hb]; rfl
    refine ⟨hG, fun i y hy => ?_⟩
    have hB := hr.blk b
    rw [hb] at hB
    rcases hB with ⟨_, rfl⟩ | ⟨r', cap', vs, e, h1, h2, h3, h4, h5⟩
    · simp at hy
    obtain ⟨c, a1, a2⟩ := h5 i y hy
    exact ⟨r', cap', h1, .inr ⟨b, cap', h1, hn, hd⟩, c, a1.mono (fun r h => .inl h) (fun _ _ => rfl), fun j v hj => by rw [cell_at h2]; exact a2 j v hj⟩
  cases v <;> try exact hm
  · rename_i b k
    simp only [borrow1]
    split
    · rename_i t l k' hb
      cases hk : Nat.beq k k' with
      | false => exact .undef _
      | true =>
        have hk := Nat.eq_of_beq_eq_true hk
        obtain ⟨hG, hc⟩ := arr hb
        cases h with
        | own _ _ _ hn0 hs0 ha =>
          obtain ⟨a, cap, rfl, hle, hor⟩ := (ha _ _ _ hG).2 hk
          refine .vals _ _ _ ⟨a, cap, rfl, hle, fun i y hy => ?_⟩
          obtain ⟨r, c', h1, hF, c, c1, c2⟩ := hc i y hy
          rcases hor with ⟨h6, _⟩ | ⟨r2, h6, rfl⟩
          · rw [h1] at h6; cases h6
          rw [h1] at h6; cases h6
          exact ⟨_, rfl, hF, c, c1, fun j v hj => by rw [add_mk, Nat.zero_add]; exact c2 j v hj⟩
    · exact .undef _
  · rename_i b off len k lim
    simp only [borrow1]
    split
    · rename_i t l k' hb
      cases hk : Nat.beq k k' with
      | false => exact .undef _
      | true =>
        have hk := Nat.eq_of_beq_eq_true hk
        obtain ⟨hG, hc⟩ := arr hb
        cases h with
        | sref _ _ _ _ _ _ hn0 hs0 ha =>
          obtain ⟨hofl, a, cap, rfl, hle, _, hor⟩ := (ha _ _ _ hG).2 hk
          have hll : ((l.drop off).take len).length = len := by simp; omega
          refine .vals _ _ _ ⟨a, cap, by rw [hll], by rw [hll]; exact hle, fun i y hy => ?_⟩
          have hi : i < len := by
            have := (List.getElem?_eq_some_iff.1 hy).1
            rw [hll] at this; exact this
          rw [List.getElem?_take, if_pos hi, List.getElem?_drop] at hy
          obtain ⟨r, c', h1, hF, c, c1, c2⟩ := hc _ y hy
          obtain ⟨r2, c3, h6, rfl⟩ := hor (by omega)
          rw [h1] at h6; cases h6
          exact ⟨_, rfl, hF, c, c1, fun j v hj => by
            rw [add_mk]
            have := c2 j v hj
            rw [← this]; congr 2; rw [Nat.add_mul]; omega⟩
    · exact .undef _

theorem borrow_sound {g : Gh} {H : Hp} {w : World} {v : AV} {u : Value} (hr : HRel g H w) (h : RelV g w v u) : RelV g.all w (borrow H v) u := by
  cases v <;> try exact borrow1_sound hr h
  rename_i cs
  have e := h.isAgg rfl
  have hc := h.cells rfl
  simp only [borrow]
  have : RelC g.all w (cs.map (borrow1 H)) u.cells.toList := by
    refine ⟨by simp [hc.1, cellsOf], fun j c v h1 h2 => ?_⟩
    rw [List.getElem?_map] at h1
    cases hx : cs[j]? with
    | none => rw [hx] at h1; cases h1
    | some c0 =>
      rw [hx] at h1
      cases h1
      exact borrow1_sound hr (hc.2 j c0 v hx h2)
  have := RelV.ofAgg this
  rw [Array.toArray_toList, ← e] at this
  exact this

/-- Values, one by one. -/
inductive RelVs (g : Gh) (w : World) : List AV → List Value → Prop
  | nil : RelVs g w [] []
  | cons {v : AV} {u : Value} {r : List AV} {s : List Value} : RelV g w v u → RelVs g w r s → RelVs g w (v :: r) (u :: s)
inductive RelTs (F : Nat → Prop) (w : World) : (ts : List Ty) → Tup ts → List Value → Prop
  | nil : RelTs F w [] () []
  | cons {t : Ty} {ts : List Ty} {x : t.den} {y : Tup ts} {u : Value} {s : List Value} : RelTV F w t x u → RelTs F w ts y s → RelTs F w (t :: ts) (x, y) (u :: s)

theorem RelVs.append {g : Gh} {w : World} : ∀ {a b : List AV} {c d : List Value}, RelVs g w a c → RelVs g w b d → RelVs g w (a ++ b) (c ++ d)
  | _, _, _, _, .nil, h => h
  | _, _, _, _, .cons h1 h2, h => .cons h1 (h2.append h)
theorem RelVs.of {g : Gh} {w : World} {α : Type} {f : α → AV} {f' : α → Value} (h : ∀ x, RelV g w (f x) (f' x)) : ∀ l : List α, RelVs g w (l.map f) (l.map f')
  | [] => .nil
  | x :: l => .cons (h x) (RelVs.of h l)
theorem RelVs.get {g : Gh} {w : World} : ∀ {a : List AV} {c : List Value}, a.length = c.length → (∀ (j : Nat) (x : AV) (v : Value), a[j]? = some x → c[j]? = some v → RelV g w x v) → RelVs g w a c
  | [], [], _, _ => .nil
  | [], _ :: _, h, _ => by simp at h
  | _ :: _, [], h, _ => by simp at h
  | x :: a, v :: c, h, hx => .cons (hx 0 x v rfl rfl) (RelVs.get (by simpa using h) fun j x v h1 h2 => hx (j + 1) x v (by simpa using h1) (by simpa using h2))

theorem decArgs_sound {g : Gh} {w : World} : ∀ {ts : List Ty} {as : List AV} {x : Tup ts} {us : List Value}, decArgs ts as = some x → RelVs g w as us → RelTs g.F w ts x us
  | [], [], x, _, h, .nil => by cases h; exact .nil
  | t :: ts, v :: vs, x, _, h, .cons h1 h2 => by
    simp only [decArgs] at h
    split at h <;> try (cases h; done)
    rename_i y hy
    split at h <;> try (cases h; done)
    rename_i z hz
    cases h
    exact .cons (decV_sound hy h1) (decArgs_sound hz h2)
  | [], _ :: _, x, _, h, _ => by cases h
  | _ :: _, [], x, _, h, _ => by cases h

theorem RelVs.borrow {g : Gh} {H : Hp} {w : World} (hr : HRel g H w) : ∀ {as : List AV} {us : List Value}, RelVs g w as us → RelVs g.all w (as.map (VI.borrow H)) us
  | _, _, .nil => .nil
  | _, _, .cons h1 h2 => .cons (borrow_sound hr h1) (RelVs.borrow hr h2)

/-- What a call hands back, and typed values. -/
def resV : List Value → Value
  | [v] => v
  | vs => .tuple vs.toArray

theorem encVals_sound {g : Gh} {w : World} : ∀ {ts : List Ty} {x : Tup ts} {us : List Value}, RelTs g.F w ts x us → RelVs g w (encVals ts x) us
  | [], _, _, .nil => .nil
  | t :: ts, _, _, .cons h1 h2 => .cons (val_sound h1) (encVals_sound h2)
theorem RelVs.tup {g : Gh} {w : World} {a : List AV} {c : List Value} (h : RelVs g w a c) : RelV g w (.tup a) (.tuple c.toArray) := by
  have hl : ∀ {a : List AV} {c : List Value}, RelVs g w a c → c.length = a.length := fun h => by
    induction h with
    | nil => rfl
    | cons _ _ ih => simp [ih]
  have hg : ∀ {a : List AV} {c : List Value}, RelVs g w a c → ∀ (j : Nat) (x : AV), a[j]? = some x → ∃ v, c[j]? = some v ∧ RelV g w x v := fun h => by
    induction h with
    | nil => intro j x hx; simp at hx
    | cons h1 h2 ih =>
      intro j x hx
      cases j with
      | zero => simp at hx; subst hx; exact ⟨_, rfl, h1⟩
      | succ j => simp at hx; obtain ⟨v, a, b⟩ := ih j x hx; exact ⟨v, by simpa using a, b⟩
  refine .tup _ _ (fun j => (c[j]?).getD Go.undef) (by simp [hl h]) (fun j x hx => ?_) (fun j x hx => ?_)
  · obtain ⟨v, a, b⟩ := hg h j x hx
    simp [a]
  · obtain ⟨v, a, b⟩ := hg h j x hx
    simpa [a] using b
theorem resVal_sound {g : Gh} {w : World} {a : List AV} {c : List Value} (h : RelVs g w a c) : RelV g w (resVal a) (resV c) := by
  cases h with
  | nil => exact RelVs.tup .nil
  | cons h1 h2 =>
    cases h2 with
    | nil => exact h1
    | cons h2 h3 => exact RelVs.tup (.cons h1 (.cons h2 h3))

/-- Flat data is the same wherever it lies. -/
theorem RelT.flat {F F' : Nat → Prop} {w w' : World} : ∀ {t : Ty} {x : t.den} {cs : List Value}, t.flat = true → RelT F w t x cs → RelT F' w' t x cs
  | .int _, _, _, _, h => h
  | .bool, _, _, _, h => h
  | .str, _, _, _, h => h
  | .slice _, _, _, hf, _ => by cases hf
  | .pair a b, _, _, hf, h => by
    obtain ⟨h1, h2⟩ := and_spec hf
    obtain ⟨c, d, e, h3, h4⟩ := h
    exact ⟨c, d, e, RelT.flat h1 h3, RelT.flat h2 h4⟩
  | .agg t, x, cs, hf, h => RelT.flat (t := t) hf h
  | .nil, _, _, _, h => h
theorem RelTs.flat {F F' : Nat → Prop} {w w' : World} : ∀ {ts : List Ty} {x : Tup ts} {us : List Value}, ts.all Ty.flat = true → RelTs F w ts x us → RelTs F' w' ts x us
  | [], _, _, _, .nil => .nil
  | t :: ts, _, _, hf, .cons h1 h2 => by
    have hf : (t.flat && ts.all Ty.flat) = true := hf
    rw [Bool.and_eq_true] at hf
    exact .cons ⟨h1.rel.flat hf.1, h1.one, h1.agg⟩ (RelTs.flat hf.2 h2)

/-- A contract holds of a function. -/
def Holds (P : Program) (f : FuncId) (e : Entry) : Prop :=
  ∀ (F : Nat → Prop) (w : World) (us : List Value) (x : Tup e.ts) (y : Tup e.rs), (∀ r, F r → r < w.heap.size) → RelTs F w e.ts x us → e.f x = some y →
    Calls P f us.toArray w fun en w' => ∃ F' vs, en = .returned (resV vs) ∧ (∀ r, F r → F' r) ∧ (∀ r, F' r → F r ∨ w.heap.size ≤ r) ∧ (∀ r, F' r → r < w'.heap.size) ∧ w.heap.size ≤ w'.heap.size ∧
      (∀ r, r < w.heap.size → w'.heap[r]? = w.heap[r]?) ∧ Env w w' ∧ RelTs F' w' e.rs y vs

/-- A walked call does what it says. -/
def InlOk (P : Program) (inl : Inl R) : Prop :=
  ∀ f as H n κ r, inl f as H n κ = some r → ∃ v H' n' D, κ v H' n' D = some r ∧ n ≤ n' ∧ ∀ (g : Gh) (w : World) (us : List Value), HRel g H w → RelVs g w as us → (∀ b, n ≤ b → g.G b = .none) →
    Calls P f us.toArray w fun en w' => ∃ u, en = .returned u ∧ ∃ g', Went g H w (fun b => n ≤ b ∧ b < n') v H' D u w' g'

theorem callO_sound {E : FuncId → Option Entry} {inl : Inl R} (hE : ∀ f e, E f = some e → Holds P f e) (hI : InlOk P inl) {f : FuncId} {as : List AV} {H : Hp} {n : Nat} {κ : KO R} {r : R} (h : callO P E inl f as H n κ = some r) :
    enterable P f = true ∧ ∃ v H' n' D, κ v H' n' D = some r ∧ n ≤ n' ∧ ∀ (g : Gh) (w : World) (us : List Value), HRel g H w → RelVs g w as us → (∀ b, n ≤ b → g.G b = .none) →
      Calls P f us.toArray w fun en w' => ∃ u, en = .returned u ∧ ∃ g', Went g H w (fun b => n ≤ b ∧ b < n') v H' D u w' g' := by
  unfold callO at h
  have hx_ := br_none h
  clear h
  obtain ⟨hen, h⟩ := hx_
  refine ⟨hen, ?_⟩
  split at h
  · rename_i e he
    have hold := hE f e he
    have went : ∀ (g : Gh) (w w' : World) (F' : Nat → Prop) (vs : List Value) (y : Tup e.rs), HRel g H w → (∀ r, g.F r → F' r) → (∀ r, F' r → g.F r ∨ w.heap.size ≤ r) → (∀ r, F' r → r < w'.heap.size) → w.heap.size ≤ w'.heap.size →
        (∀ r, r < w.heap.size → w'.heap[r]? = w.heap[r]?) → Env w w' → RelTs F' w' e.rs y vs → ∃ g', Went g H w (fun b => n ≤ b ∧ b < n) (resVal (encVals e.rs y)) H [] (resV vs) w' g' := by
      intro g w w' F' vs y hr h1 h2 h3 h4 h5 henv h6
      have hx : Ext g H w [] ⟨F', g.i, g.G⟩ H w' := ⟨h1, fun r h => by
        rcases h2 r h with h | h
        · exact .inl h
        · exact .inr (.inr h), h4, fun r hlt _ => h5 r hlt, (fun _ h => by cases h), fun _ _ _ => ⟨rfl, rfl, rfl⟩, (fun _ h => by cases h), (fun _ h => by cases h), fun b r c h h' _ => absurd h h', henv⟩
      refine ⟨⟨F', g.i, g.G⟩, hx, ⟨fun b => ?_, hr.kd, hr.inj, fun b r c e1 e2 e3 => ?_, h3⟩, resVal_sound (encVals_sound (g := ⟨F', g.i, g.G⟩) h6), fun b h h' => absurd h h'⟩
      · by_cases hg : H b = .gone
        · rw [hg]; exact trivial
        · exact RelB.step hx hr hg (fun h => by cases h)
      · have hd := hr.disj b r c e1 e2 e3
        refine ⟨fun hF => ?_, by omega⟩
        rcases h2 r hF with h | h
        · exact hd.1 h
        · omega
    rcases br_some h with ⟨hb, h⟩ | ⟨hb, h⟩
    · have hx_ := br_none h
      clear h
      obtain ⟨hfl, h⟩ := hx_
      split at h
      case h_2 => cases h
      rename_i x hx
      have hx_ := Option.bind_eq_some_iff.1 h
      clear h
      obtain ⟨y, hy, h⟩ := hx_
      refine ⟨_, _, _, _, h, Nat.le_refl _, fun g w us hr hv hn => ?_⟩
      have hbv := RelVs.borrow hr hv
      have hts := decArgs_sound hx hbv
      refine (hold g.all.F w us x y (fun r hF => ?_) hts hy).mono fun en w' hres => ?_
      · rcases hF with hF | ⟨b, c, e1, e2, e3⟩
        · exact hr.ex r hF
        · exact (hr.disj b r c e1 e2 e3).2
      · obtain ⟨F', vs, e1, e2, e3, e4, e5, e6, eE, e7⟩ := hres
        exact ⟨_, e1, went g w w' g.F vs y hr (fun _ h => h) (fun _ h => .inl h) (fun r h => by have := hr.ex r h; omega) e5 e6 eE (e7.flat hfl)⟩
    · split at h
      case h_2 => cases h
      rename_i x hx
      have hx_ := Option.bind_eq_some_iff.1 h
      clear h
      obtain ⟨y, hy, h⟩ := hx_
      refine ⟨_, _, _, _, h, Nat.le_refl _, fun g w us hr hv hn => ?_⟩
      refine (hold g.F w us x y hr.ex (decArgs_sound hx hv) hy).mono fun en w' hres => ?_
      obtain ⟨F', vs, e1, e2, e3, e4, e5, e6, eE, e7⟩ := hres
      exact ⟨_, e1, went g w w' F' vs y hr e2 e3 e4 e5 e6 eE e7⟩
  · exact hI _ _ _ _ _ _ h
end Go.VI
