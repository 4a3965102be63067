/- Functions: walked calls, and contracts. -/
import Derived.Test.YtfifgcaielmbiaaVIq
namespace Go.VI
set_option linter.unusedVariables false
set_option linter.unusedSimpArgs false
variable {R : Type} {P : Program}

/-- The loops of code, by their numbers. -/
def loopIds : Code → List Nat
  | .seq a b => loopIds a ++ loopIds b
  | .cond _ a b => loopIds a ++ loopIds b
  | .block _ c => loopIds c
  | .loop c => firstR c :: loopIds c
  | _ => []
def loopAt : Code → Nat → Option Code
  | .seq a b, i => match loopAt a i with
    | some c => some c
    | none => loopAt b i
  | .cond _ a b, i => match loopAt a i with
    | some c => some c
    | none => loopAt b i
  | .block _ c, i => loopAt c i
  | .loop c, i => br (Nat.beq (firstR c) i) (some c) (loopAt c i)
  | _, _ => none

theorem loopAt_none : ∀ {c : Code} {i : Nat}, i ∉ loopIds c → loopAt c i = none
  | .seq a b, i, h => by
    simp only [loopIds, List.mem_append, not_or] at h
    simp only [loopAt, loopAt_none h.1, loopAt_none h.2]
  | .cond _ a b, i, h => by
    simp only [loopIds, List.mem_append, not_or] at h
    simp only [loopAt, loopAt_none h.1, loopAt_none h.2]
  | .block _ c, i, h => loopAt_none (c := c) h
  | .loop c, i, h => by
    simp only [loopIds, List.mem_cons, not_or] at h
    simp only [loopAt]
    rw [show Nat.beq (firstR c) i = false from by
      cases e : Nat.beq (firstR c) i with
      | false => rfl
      | true => exact absurd (Nat.eq_of_beq_eq_true e).symm h.1]
    exact loopAt_none h.2
  | .skip, _, _ => rfl
  | .region _ _ _, _, _ => rfl
  | .rangeFunc _ _ _ _, _, _ => rfl
  | .exit _, _, _ => rfl
  | .scope _, _, _ => rfl
  | .label _, _, _ => rfl
  | .goto _, _, _ => rfl
  | .ret, _, _ => rfl
  | .refuse _, _, _ => rfl

def noDup : List Nat → Bool
  | [] => true
  | a :: l => (!memN l a).and (noDup l)
theorem memN_iff {l : List Nat} {a : Nat} : memN l a = true ↔ a ∈ l := by
  unfold memN
  rw [List.any_eq_true]
  constructor
  · rintro ⟨x, hx, e⟩
    rw [Nat.eq_of_beq_eq_true e]; exact hx
  · intro h
    exact ⟨a, h, Nat.beq_refl a⟩
theorem noDup_app : ∀ {a b : List Nat}, noDup (a ++ b) = true → noDup a = true ∧ noDup b = true ∧ ∀ x ∈ a, x ∉ b
  | [], b, h => ⟨rfl, h, fun x h => by cases h⟩
  | x :: a, b, h => by
    obtain ⟨h1, h2⟩ := and_spec (show ((!memN (a ++ b) x).and (noDup (a ++ b))) = true from h)
    obtain ⟨h3, h4, h5⟩ := noDup_app h2
    have h1 : ¬ memN (a ++ b) x = true := by simpa using h1
    rw [memN_iff, List.mem_append, not_or] at h1
    refine ⟨?_, h4, fun y hy => ?_⟩
    · show ((!memN a x).and (noDup a)) = true
      have : memN a x = false := by
        cases e : memN a x with
        | false => rfl
        | true => exact absurd (memN_iff.1 e) h1.1
      rw [this, h3]; rfl
    · rcases List.mem_cons.1 hy with rfl | hy
      · exact h1.2
      · exact h5 y hy

theorem loopAt_mem : ∀ {c b : Code} {i : Nat}, loopAt c i = some b → i ∈ loopIds c
  | c, b, i, h => by
    by_cases hi : i ∈ loopIds c
    · exact hi
    · rw [loopAt_none hi] at h; cases h

theorem loopsOk_of {LH : Nat → Option (LoopEntry R)} : ∀ {c : Code}, noDup (loopIds c) = true → (∀ i b le, loopAt c i = some b → LH i = some le → LoopOk P b le) → LoopsOk P LH c
  | .seq a b, hn, h => by
    obtain ⟨h1, h2, h3⟩ := noDup_app hn
    refine ⟨loopsOk_of h1 fun i x le hx => h i x le (by simp only [loopAt, hx]), loopsOk_of h2 fun i x le hx => h i x le ?_⟩
    have : i ∉ loopIds a := fun hi => h3 i hi (loopAt_mem hx)
    simp only [loopAt, loopAt_none this, hx]
  | .cond _ a b, hn, h => by
    obtain ⟨h1, h2, h3⟩ := noDup_app hn
    refine ⟨loopsOk_of h1 fun i x le hx => h i x le (by simp only [loopAt, hx]), loopsOk_of h2 fun i x le hx => h i x le ?_⟩
    have : i ∉ loopIds a := fun hi => h3 i hi (loopAt_mem hx)
    simp only [loopAt, loopAt_none this, hx]
  | .block _ c, hn, h => loopsOk_of (c := c) hn h
  | .loop c, hn, h => by
    obtain ⟨h1, h2⟩ := and_spec (show ((!memN (loopIds c) (firstR c)).and (noDup (loopIds c))) = true from hn)
    have h1 : ¬ memN (loopIds c) (firstR c) = true := by simpa using h1
    rw [memN_iff] at h1
    refine ⟨fun le hl => h (firstR c) c le ?_ hl, loopsOk_of h2 fun i x le hx => h i x le ?_⟩
    · simp only [loopAt, show Nat.beq (firstR c) (firstR c) = true from Nat.beq_refl _]; rfl
    · simp only [loopAt]
      rw [show Nat.beq (firstR c) i = false from by
        cases e : Nat.beq (firstR c) i with
        | false => rfl
        | true => exact absurd ((Nat.eq_of_beq_eq_true e) ▸ loopAt_mem hx) h1]
      exact hx
  | .skip, _, _ => trivial
  | .region _ _ _, _, _ => trivial
  | .rangeFunc _ _ _ _, _, _ => trivial
  | .exit _, _, _ => trivial
  | .scope _, _, _ => trivial
  | .label _, _, _ => trivial
  | .goto _, _, _ => trivial
  | .ret, _, _ => trivial
  | .refuse _, _, _ => trivial

def resOne (tmps : Array Value) (x : ResultVar) : Sem Value :=
  match x with
  | .tmp t => pure (tmps.getD t Go.undef)
  | .cell c t => do loadVar t (← asAddr (tmps.getD c Go.undef))

theorem results_run {g : Gh} {st : St} {a : Act} {w : World} (hr : Rel g st a w) : ∀ {rs : List ResultVar} {vs : List AV}, resCells P st.tm st.hp rs = some vs →
    ∃ us, (rs.mapM (resOne a.tmps)).run P w = .ok us w ∧ RelVs g w vs us
  | [], vs, h => by cases h; exact ⟨[], rfl, .nil⟩
  | .tmp t :: rs, vs, h => by
    simp only [resCells] at h
    split at h <;> try (cases h; done)
    rename_i l hl
    cases h
    obtain ⟨us, h1, h2⟩ := results_run hr hl
    refine ⟨a.tmps.getD t Go.undef :: us, ?_, .cons (hr.tm t) h2⟩
    have h0 : (resOne a.tmps (.tmp t)).run P w = .ok (a.tmps.getD t Go.undef) w := rfl
    simp only [List.mapM_cons, Sem.run_bind, Sem.run_pure, Result.andThen_ok, h0, h1]
  | .cell c t :: rs, vs, h => by
    simp only [resCells] at h
    split at h <;> try (cases h; done)
    rename_i b o hc
    split at h <;> try (cases h; done)
    rename_i cs hb
    split at h <;> try (cases h; done)
    rename_i v hv
    split at h <;> try (cases h; done)
    rename_i l hl
    cases h
    obtain ⟨us, h1, h2⟩ := results_run hr hl
    have htm := hr.tm c
    rw [hc] at htm
    have hs : st.hp b ≠ .gone := by rw [hb]; exact fun h => by cases h
    have hG : g.G b = .box := by rw [hr.hp.kd b (fun e => hs e), hb]; rfl
    have hB := hr.hp.blk b
    rw [hb] at hB
    obtain ⟨r', c', ms, e, e1, e2, e3⟩ := hB
    cases hu : a.tmps.getD c Go.undef with
    | pointer p =>
      rw [hu] at htm
      cases htm with
      | ptr _ _ _ _ _ hn hp ha hbx hsi =>
        obtain ⟨r2, c2, f1, f2⟩ := hbx hG rfl
        rw [e1] at f1; cases f1; cases f2
        obtain ⟨u, g1, g2⟩ := partV_load (w := w) (ad := ⟨r', 0, none⟩) hv (fun j c hj => by
          obtain ⟨v', hv', hrv⟩ := e3.get hj
          rw [add_mk, cell_at e2, Nat.zero_add]
          rw [Array.getElem?_toList] at hv'
          exact ⟨v', hv', hrv⟩)
        rw [add_mk, Nat.zero_add] at g1
        refine ⟨u :: us, ?_, .cons g2 h2⟩
        have h0 : (resOne a.tmps (.cell c t)).run P w = .ok u w := by
          unfold resOne
          simp only [Sem.run_bind, hu, asAddr, Sem.run_pure, Result.andThen_ok, g1]
        simp only [List.mapM_cons, Sem.run_bind, Sem.run_pure, Result.andThen_ok, h0, h1]
    | _ => rw [hu] at htm; cases htm with | ptr _ _ _ _ _ hn hp => obtain ⟨ad, e⟩ := hp; cases e

theorem resV_of (us : Array Value) : (if h : us.size = 1 then us[0] else .tuple us) = resV us.toList := by
  obtain ⟨l⟩ := us
  match l with
  | [] => rfl
  | [a] => rfl
  | a :: b :: l => simp [resV]

theorem RelVs.getD {g : Gh} {w : World} : ∀ {a : List AV} {b : List Value}, RelVs g w a b → ∀ i : Nat, RelV g w ((a[i]?).getD .undef) ((b[i]?).getD Go.undef)
  | _, _, .nil, i => .undef _
  | _, _, .cons h1 h2, 0 => h1
  | _, _, .cons h1 h2, i + 1 => h2.getD i
theorem RelVs.len {g : Gh} {w : World} : ∀ {a : List AV} {b : List Value}, RelVs g w a b → b.length = a.length
  | _, _, .nil => rfl
  | _, _, .cons _ h => by simp [h.len]

theorem funO_sound {E : FuncId → Option Entry} {inl : Inl R} (hm : P.follows .mixedOrders = true) (hE : ∀ f e, E f = some e → Holds P f e) (hI : InlOk P inl) {H : Hints} {LH : Nat → Option (LoopEntry R)} {f : FuncId} {fn : Func} (hf : P.funcs[f]? = some fn)
    (hL : ∀ c, fn.body = some c → LoopsOk P LH c) {as : List AV} {Hp0 : Hp} {n : Nat} {κ : AV → Hp → Nat → List Nat → Option R} {r : R} (h : funO P E inl H LH fn as Hp0 n κ = some r) :
    ∃ v H' n' D, κ v H' n' D = some r ∧ n ≤ n' ∧ ∀ (g : Gh) (w : World) (us : List Value), HRel g Hp0 w → RelVs g w as us → (∀ b, n ≤ b → g.G b = .none) →
      Calls P f us.toArray w fun en w' => ∃ u, en = .returned u ∧ ∃ g', Went g Hp0 w (fun b => n ≤ b ∧ b < n') v H' D u w' g' := by
  unfold funO at h
  split at h
  case h_2 => cases h
  rename_i c hc
  obtain ⟨x, st', hk, hle, hwp⟩ := code_sound hm hE hI c (hL c hc) _ _ _ h
  have hk' : (∀ i, x ≠ .exit i) ∧ ∃ vs, resCells P st'.tm st'.hp fn.results.toList = some vs ∧ br H.keep (κ (resVal vs) st'.hp st'.n st'.dirty) (br (there st'.hp (resVal vs)) (κ (freezeV st'.hp (resVal vs)) (dropB st'.hp (frees (resVal vs))) st'.n (frees (resVal vs) ++ st'.dirty)) none) = some r := by
    cases x with
    | exit i => cases hk
    | normal =>
      simp only at hk
      split at hk <;> try (cases hk; done)
      rename_i vs hvs
      exact ⟨(fun i h => by cases h), vs, hvs, hk⟩
    | ret =>
      simp only at hk
      split at hk <;> try (cases hk; done)
      rename_i vs hvs
      exact ⟨(fun i h => by cases h), vs, hvs, hk⟩
  obtain ⟨hx, vs, hvs, hk⟩ := hk'
  have start : ∀ (g : Gh) (w : World) (us : List Value), HRel g Hp0 w → RelVs g w as us → (∀ b, n ≤ b → g.G b = .none) → ∀ (Q : Value → World → Prop),
      (∀ g' us' w' D, st'.dirty = D → Ext g Hp0 w D g' st'.hp w' → HRel g' st'.hp w' → RelVs g' w' vs us' → (∀ b, g.G b = .none → g'.G b ≠ .none → n ≤ b ∧ b < st'.n) → Q (resV us') w') →
      Calls P f us.toArray w fun en w' => ∃ u, en = .returned u ∧ Q u w' := by
    intro g w us hr hrel hn Q hQ
    have hlen : us.length = as.length := hrel.len
    refine calls_of_wp hf hc (wp_mono (hwp g _ w n (Nat.le_refl _) ⟨fun i => ?_, ?_, rfl, hr, hn⟩) ?_)
    · show RelV g w ((as[i]?).getD .undef) _
      by_cases hi : i < us.length
      · have := hrel.getD i
        rw [List.getElem?_eq_getElem hi] at this
        have e : (us.toArray ++ Array.replicate (fn.ntmps - us.toArray.size) Go.undef).getD i Go.undef = us[i] := by
          rw [Array.getD_eq_getD_getElem?, Array.getElem?_append_left (by simpa using hi)]
          simp [hi]
        rw [e]; exact this
      · rw [List.getElem?_eq_none (by omega)]; exact .undef _
    · show (us.toArray ++ Array.replicate (fn.ntmps - us.toArray.size) Go.undef).size = max as.length fn.ntmps
      simp; omega
    · rintro e a' w' ⟨he, g', hr', hg⟩
      obtain ⟨us', hu1, hu2⟩ := results_run hr' hvs
      have hrun : (results fn a'.tmps).run P w' = .ok (resV us') w' := by
        have e0 : (fun x => match x with
          | .tmp t => pure (a'.tmps.getD t Go.undef)
          | .cell c t => do loadVar t (← asAddr (a'.tmps.getD c Go.undef)) : ResultVar → Sem Value) = resOne a'.tmps := by
          funext x; cases x <;> rfl
        have e1 : results fn a'.tmps = (do
          let vs ← fn.results.mapM (resOne a'.tmps)
          pure (if h : vs.size = 1 then vs[0] else .tuple vs)) := by
          rw [← e0]; rfl
        rw [e1, Sem.run_bind, Array.mapM_eq_mapM_toList]
        simp only [Sem.run_map, hu1, Result.andThen_ok, Sem.run_pure]
        congr 1
        exact resV_of us'.toArray
      obtain ⟨D, hd1, hd2⟩ := hg.ext
      have hd1 : st'.dirty = D := by
        have : st'.dirty = D ++ [] := hd1
        rw [this, List.append_nil]
      have done := hQ g' us' w' D hd1 hd2 hr'.hp hu2 fun b h1 h2 => by
        refine ⟨hg.new b h1 h2, ?_⟩
        rcases Nat.lt_or_ge b st'.n with h | h
        · exact h
        · exact absurd (hr'.fr b h) h2
      cases e <;> simp only [exOf] at he <;> try (cases he; done)
      · exact ⟨hr'.df, _, hrun, _, rfl, done⟩
      · cases he; exact absurd rfl (hx _)
      · exact ⟨hr'.df, _, hrun, _, rfl, done⟩
  rcases br_some hk with ⟨_, hk⟩ | ⟨_, hk⟩
  · refine ⟨_, _, _, _, hk, hle, fun g w us hr hrel hn => ?_⟩
    refine start g w us hr hrel hn (fun u w' => ∃ g', Went g Hp0 w (fun b => n ≤ b ∧ b < st'.n) (resVal vs) st'.hp st'.dirty u w' g') fun g' us' w' D hD hx hr' hu hnew => ?_
    exact ⟨g', by rw [hD]; exact hx, hr', resVal_sound hu, hnew⟩
  · obtain ⟨hthere, hk⟩ := br_none hk
    refine ⟨_, _, _, _, hk, hle, fun g w us hr hrel hn => ?_⟩
    refine start g w us hr hrel hn (fun u w' => ∃ g', Went g Hp0 w (fun b => n ≤ b ∧ b < st'.n) (freezeV st'.hp (resVal vs)) (dropB st'.hp (frees (resVal vs))) (frees (resVal vs) ++ st'.dirty) u w' g') fun g' us' w' D hD hx hr' hu hnew => ?_
    obtain ⟨g2, f1, f2, f3, f4⟩ := freeze_went hr' (resVal_sound hu) hthere
    refine ⟨g2, by rw [hD]; exact hx.trans f1 hr', f2, f3, fun b h1 h2 => ?_⟩
    by_cases hb : g'.G b = .none
    · exact (f4 b hb h2).elim
    · exact hnew b h1 hb

theorem inlD_ok {E : FuncId → Option Entry} (hm : P.follows .mixedOrders = true) (hE : ∀ f e, E f = some e → Holds P f e) {HN : FuncId → Hints} {LH : FuncId → Nat → Option (LoopEntry R)}
    (hL : ∀ f fn c, P.funcs[f]? = some fn → fn.body = some c → LoopsOk P (LH f) c) : ∀ d, InlOk P (inlD P E HN LH d)
  | 0 => fun f as H n κ r h => by cases h
  | d + 1 => fun f as H n κ r h => by
    simp only [inlD] at h
    split at h
    case h_2 => cases h
    rename_i fn hf
    exact funO_sound hm hE (inlD_ok hm hE hL d) hf (fun c hc => hL f fn c hf hc) h

/-- Results, as typed values. -/
def decRes : (rs : List Ty) → AV → Option (Tup rs)
  | [t], v => match t.decV v with
    | some x => some (x, ())
    | none => none
  | rs, .tup vs => decArgs rs vs
  | _, _ => none
theorem decRes_sound {g : Gh} {w : World} : ∀ {rs : List Ty} {v : AV} {x : Tup rs} {u : Value}, decRes rs v = some x → RelV g w v u → ∃ us, u = resV us ∧ RelTs g.F w rs x us
  | [t], v, x, u, h, hv => by
    simp only [decRes] at h
    split at h <;> try (cases h; done)
    rename_i y hy
    cases h
    exact ⟨[u], rfl, .cons (decV_sound hy hv) .nil⟩
  | [], v, x, u, h, hv => by
    cases v <;> first | (simp [decRes] at h; done) | skip
    rename_i vs
    have h : decArgs [] vs = some x := h
    cases vs with
    | cons => cases h
    | nil => exact ⟨[], by rw [relV_tup0 hv]; rfl, by cases h; exact .nil⟩
  | t :: t' :: ts, v, x, u, h, hv => by
    cases v <;> first | (simp [decRes] at h; done) | skip
    rename_i vs
    have h : decArgs (t :: t' :: ts) vs = some x := h
    cases hv with
    | tup _ us f h1 h2 h3 =>
      have hrel : RelVs g w vs us.toList := RelVs.get (by simp [h1]) fun j x v a1 a2 => by
        have := h2 j x a1
        rw [Array.getElem?_toList, this] at a2
        cases a2; exact h3 j x a1
      have hts := decArgs_sound h hrel
      refine ⟨us.toList, ?_, hts⟩
      cases hl : us.toList with
      | nil => rw [hl] at hts; cases hts
      | cons a l =>
        cases l with
        | nil => rw [hl] at hts; cases hts with | cons _ h => cases h
        | cons b l =>
          show _ = Value.tuple (a :: b :: l).toArray
          rw [← hl]

theorem encArgs_rel {F : Nat → Prop} {w : World} {g : Gh} (hF : g.F = F) : ∀ {ts : List Ty} {x : Tup ts} {us : List Value}, RelTs F w ts x us → RelVs g w (encVals ts x) us
  | [], _, _, .nil => .nil
  | t :: ts, _, _, .cons h1 h2 => .cons (val_sound (by rw [hF]; exact h1)) (encArgs_rel hF h2)

/-- A contract, of a body's run. -/
theorem holds_of {ts rs : List Ty} {E : FuncId → Option Entry} {inl : Inl (Tup rs)} (hm : P.follows .mixedOrders = true) (hE : ∀ f e, E f = some e → Holds P f e) (hI : InlOk P inl) {H : Hints} {LH : Tup ts → Nat → Option (LoopEntry (Tup rs))} {f : FuncId} {fn : Func} (hf : P.funcs[f]? = some fn)
    {F : Tup ts → Option (Tup rs)} (hL : ∀ x c, fn.body = some c → LoopsOk P (LH x) c)
    (h : ∀ x y, F x = some y → funO P E inl H (LH x) fn (encVals ts x) (fun _ => .gone) 0 (fun v _ _ _ => decRes rs v) = some y) : Holds P f ⟨ts, rs, F⟩ := by
  intro F0 w us x y hF hts hy
  obtain ⟨v, H', n', D, hk, _, hc⟩ := funO_sound hm hE hI hf (hL x) (h x y hy)
  let g : Gh := ⟨F0, fun _ => none, fun _ => .none⟩
  have hr : HRel g (fun _ => .gone) w := ⟨fun _ => trivial, fun b h => (h rfl).elim, (fun b b' r c c' h1 => by cases h1), (fun b r c h1 => by cases h1), hF⟩
  refine (hc g w us hr (encArgs_rel rfl hts) (fun _ _ => rfl)).mono fun en w' ⟨u, hu, g', hw⟩ => ?_
  obtain ⟨vs, e1, e2⟩ := decRes_sound hk hw.val
  refine ⟨g'.F, vs, by rw [hu, e1], hw.ext.mono, fun r hr' => ?_, hw.rel.ex, hw.ext.size, fun r hlt => hw.ext.frame r hlt fun b _ hn => absurd rfl hn, hw.ext.env, e2⟩
  rcases hw.ext.more r hr' with h | ⟨b, _, hn, _⟩ | h
  · exact .inl h
  · exact absurd rfl hn
  · exact .inr h
end Go.VI
