/- An interpreter of the model's code on abstract values, proved right: part VIB. -/
import Derived.Test.YtiiiipdnodgkmaaVIA
import Derived.MapKept
section
/- Maps: what the model's look-ups, stores and deletions come to on lists of pairs. -/
namespace Go.VI
open Go.MapKept (IsKey bytes_beq run_getObj_map run_setObj_map run_checkKey run_findKey)
set_option linter.unusedVariables false
set_option linter.unusedSimpArgs false
variable {R : Type} {P : Program}

def kval : (kt : Ty) → kt.den → Value
  | .str, s => .string s
  | .int k, n => .int k n
  | _, _ => Go.undef
def kdesc : Ty → TypeDesc
  | .int k => .int k
  | _ => .string
def mix (kt : Ty) {β : Type} : List (kt.den × β) → kt.den → Option Nat
  | [], _ => none
  | e :: es, k => br (kt.keq k e.1) (some 0) ((mix kt es k).map (· + 1))

theorem mget_mix (kt : Ty) {β : Type} (k : kt.den) : ∀ es : List (kt.den × β), mget kt es k = (mix kt es k).bind fun i => es[i]?.map (·.2)
  | [] => rfl
  | e :: es => by
    have ih := mget_mix kt k es
    simp only [mget, mix]
    cases kt.keq k e.1
    · show mget kt es k = ((mix kt es k).map (· + 1)).bind _
      rw [ih]
      cases mix kt es k <;> rfl
    · rfl
theorem mset_mix (kt : Ty) {β : Type} (k : kt.den) (v : β) : ∀ es : List (kt.den × β), mset kt es k v = match mix kt es k with
    | some i => es.modify i fun _ => (k, v)
    | none => es ++ [(k, v)]
  | [] => rfl
  | e :: es => by
    have ih := mset_mix kt k v es
    simp only [mset, mix]
    cases kt.keq k e.1
    · show e :: mset kt es k v = match (mix kt es k).map (· + 1) with
        | some i => (e :: es).modify i fun _ => (k, v)
        | none => (e :: es) ++ [(k, v)]
      rw [ih]
      cases mix kt es k <;> rfl
    · rfl
theorem mdel_mix (kt : Ty) {β : Type} (k : kt.den) : ∀ es : List (kt.den × β), mdel kt es k = match mix kt es k with
    | some i => es.eraseIdx i
    | none => es
  | [] => rfl
  | e :: es => by
    have ih := mdel_mix kt k es
    simp only [mdel, mix]
    cases kt.keq k e.1
    · show e :: mdel kt es k = match (mix kt es k).map (· + 1) with
        | some i => (e :: es).eraseIdx i
        | none => e :: es
      rw [ih]
      cases mix kt es k <;> rfl
    · rfl
theorem mix_lt (kt : Ty) {β : Type} (k : kt.den) : ∀ (es : List (kt.den × β)) (i : Nat), mix kt es k = some i → i < es.length ∧ ∃ e, es[i]? = some e ∧ kt.keq k e.1 = true
  | [], i, h => by cases h
  | e :: es, i, h => by
    simp only [mix] at h
    cases hq : kt.keq k e.1 with
    | true => rw [hq] at h; cases h; exact ⟨by simp, e, rfl, hq⟩
    | false =>
      rw [hq] at h
      have h : (mix kt es k).map (· + 1) = some i := h
      cases hm : mix kt es k with
      | none => rw [hm] at h; cases h
      | some j =>
        rw [hm] at h
        cases h
        obtain ⟨h1, e', h2, h3⟩ := mix_lt kt k es j hm
        exact ⟨by simp; omega, e', by simpa using h2, h3⟩

/-- Is it a type of keys that are compared at once? -/
def kOk : Ty → Bool
  | .str => true
  | .int _ => true
  | _ => false
theorem isKey {kt : Ty} (h : kOk kt = true) (k : kt.den) : IsKey (kdesc kt) (kval kt k) := by
  cases kt with
  | int k0 => exact (rfl : k0 = k0)
  | str => exact trivial
  | _ => cases h
theorem sameNow_is {kt : Ty} (h : kOk kt = true) (a b : kt.den) : Instr.sameNow (kdesc kt) (kval kt a) (kval kt b) = some (kt.keq a b) := by
  cases kt <;> first | cases h | skip
  · rename_i k
    show (if k = k then some ((a : Int) == b) else none) = some (decide ((a : Int) = b))
    rw [if_pos rfl, beq_int]
  · show some ((a : ByteArray) == b) = some (decide ((a : ByteArray) = b))
    congr 1
    by_cases e : (a : ByteArray) = b
    · rw [decide_eq_true e]; exact (bytes_beq a b).2 e
    · rw [decide_eq_false e]
      cases hq : (a : ByteArray) == b with
      | false => rfl
      | true => exact absurd ((bytes_beq a b).1 hq) e

/-- The entries' keys, in order. -/
def Keys (kt : Ty) {β : Type} (es : List (kt.den × β)) (ms : List MapEntry) : Prop := ms.length = es.length ∧ ∀ (i : Nat) (e : kt.den × β) (m : MapEntry), es[i]? = some e → ms[i]? = some m → m.key = kval kt e.1
theorem find_is {kt : Ty} (h : kOk kt = true) {β : Type} (k : kt.den) : ∀ (es : List (kt.den × β)) (ms : List MapEntry) (off : Nat), Keys kt es ms →
    Instr.findNow (kdesc kt) (kval kt k) ms off = some ((mix kt es k).bind fun i => ms[i]?.map fun m => (off + i, m.val))
  | [], [], off, _ => rfl
  | [], _ :: _, _, hk => by have := hk.1; simp at this
  | _ :: _, [], _, hk => by have := hk.1; simp at this
  | e :: es, m :: ms, off, hk => by
    have h0 : m.key = kval kt e.1 := hk.2 0 e m rfl rfl
    have hk' : Keys kt es ms := ⟨by have := hk.1; simpa using this, fun i e' m' h1 h2 => hk.2 (i + 1) e' m' (by simpa using h1) (by simpa using h2)⟩
    have ih := find_is h k es ms (off + 1) hk'
    simp only [Instr.findNow, h0, sameNow_is h, mix]
    cases kt.keq k e.1
    · show Instr.findNow _ _ ms (off + 1) = some (((mix kt es k).map (· + 1)).bind _)
      rw [ih]
      cases mix kt es k with
      | none => rfl
      | some i =>
        show some (ms[i]?.map fun m => (off + 1 + i, m.val)) = some ((m :: ms)[i + 1]?.map fun m => (off + (i + 1), m.val))
        rw [List.getElem?_cons_succ, Nat.add_assoc, Nat.add_comm 1 i]
    · rfl

theorem keyOk_spec {kT : TypeId} {kt : Ty} (h : keyOk P kT kt = true) : P.underlying kT = some (kdesc kt) ∧ kOk kt = true := by
  unfold keyOk at h
  split at h
  · rename_i hu; exact ⟨hu, rfl⟩
  · rename_i k k' hu; cases kEq_eq h; exact ⟨hu, rfl⟩
  · cases h
/-- A key's value. -/
theorem key_is {F : Nat → Prop} {w : World} {kt : Ty} (h : kOk kt = true) {k : kt.den} {u : Value} (hr : RelT F w kt k u.cells.toList) (ho : kt.isAgg = false → u.cells = #[u]) : u = kval kt k := by
  cases kt with
  | int k0 =>
    have ho := ho rfl
    rw [ho] at hr
    have hr : [u] = [.int k0 k] := hr
    injection hr
  | str =>
    have ho := ho rfl
    rw [ho] at hr
    have hr : [u] = [.string k] := hr
    injection hr
  | _ => cases h
theorem kOk_agg {kt : Ty} (h : kOk kt = true) : kt.isAgg = false := by cases kt <;> first | rfl | cases h
theorem key_rel {F : Nat → Prop} {w : World} {kt : Ty} (h : kOk kt = true) (k : kt.den) : RelT F w kt k (kval kt k).cells.toList ∧ (kval kt k).cells = #[kval kt k] := by
  cases kt with
  | int k0 => exact ⟨rfl, rfl⟩
  | str => exact ⟨rfl, rfl⟩
  | _ => cases h

/-- What block b holds in memory. -/
theorem map_at {g : Gh} {H : Hp} {w : World} {b gen : Nat} {kt vt : Ty} {es : List (kt.den × vt.den)} {m : AV} {um : Value} (hr : HRel g H w) (hb : H b = .map kt vt es gen) (hm : RelV g w (.map b) um) (hk : kOk kt = true) :
    ∃ r c ms clock, g.i b = some (r, c) ∧ um = .map (some r) ∧ w.heap[r]? = some (.map ms clock) ∧ Keys kt es ms.toList ∧
      (∀ (i : Nat) (e : kt.den × vt.den) (m : MapEntry), es[i]? = some e → ms[i]? = some m → RelTV g.F w vt e.2 m.val ∧ m.born < clock) ∧ (∀ (i j : Nat) (m m' : MapEntry), ms[i]? = some m → ms[j]? = some m' → m.born = m'.born → i = j) := by
  have hG : g.G b = .map kt vt gen := by rw [hr.kd b (fun e => by rw [hb] at e; cases e), hb]; rfl
  have hB := hr.blk b
  rw [hb] at hB
  obtain ⟨r, c, ms, clock, h1, h2, h3, h4, h5⟩ := hB
  cases hm with
  | map _ _ hn hp ha =>
    obtain ⟨r2, c2, e1, rfl⟩ := ha _ _ _ hG
    rw [h1] at e1; cases e1
    refine ⟨r, c, ms, clock, h1, rfl, h2, ⟨by simpa using h3, fun i e m he hm => ?_⟩, fun i e m he hm => ?_, h5⟩
    · obtain ⟨k1, _, k3, _⟩ := h4 i e m he (by simpa using hm)
      exact key_is hk k1 k3
    · obtain ⟨_, k2, _, _, k5, k6, k7⟩ := h4 i e m he hm
      exact ⟨⟨k2, k5, k6⟩, k7⟩

theorem lookupO_sound {t : TypeId} {m ix : AV} {ok : Bool} {H : Hp} {n : Nat} {κ : KO R} {r : R} (h : lookupO P t m ix ok H n κ = some r) :
    ∃ v, κ v H n [] = some r ∧ ∀ (g : Gh) (w : World) (um ui : Value), HRel g H w → RelV g w m um → RelV g w ix ui → ∃ u, (Instr.lookup t um ui ok).run P w = .ok u w ∧ RelV g w v u := by
  unfold lookupO at h
  split at h <;> try (cases h; done)
  rename_i kT e ht
  split at h <;> try (cases h; done)
  rename_i z hz
  obtain ⟨ie, zv, hie, hzv, rfl⟩ := zeroT_spec hz
  have hzero : ∀ w : World, (zeroValue e).run P w = .ok zv w := fun w => by simp only [zeroValue, typeInfo, Sem.run_bind, run_program, hie, hzv, Result.andThen_ok, Sem.run_pure]
  split at h
  case h_3 => cases h
  · -- a map
    rename_i b
    split at h <;> try (cases h; done)
    rename_i kt vt es gen hb
    obtain ⟨hk, h⟩ := br_none h
    obtain ⟨hkT, hko⟩ := keyOk_spec hk
    split at h <;> try (cases h; done)
    rename_i k hdk
    split at h <;> try (cases h; done)
    rename_i z0 hdz
    refine ⟨_, h, fun g w um ui hr hm hi => ?_⟩
    obtain ⟨r', c, ms, clock, h1, rfl, h2, h3, h4, h5⟩ := map_at (m := .map b) hr hb hm hko
    have hti := decV_sound hdk hi
    obtain rfl := key_is hko hti.rel hti.one
    have hf := find_is hko k es ms.toList 0 h3
    have hrun := run_findKey (P := P) (w := w) hkT hf
    have hck := run_checkKey (P := P) (w := w) hkT (isKey hko k) ms.isEmpty 9999
    have base : ∀ (mv : Value) (found : Bool), (match (mix kt es k).bind fun i => ms.toList[i]?.map fun m => (0 + i, m.val) with
        | some (_, v) => (v, true)
        | none => (zv, false)) = (mv, found) → (Instr.lookup t (.map (some r')) (kval kt k) ok).run P w = .ok (if ok then .tuple #[mv, .bool found] else mv) w := fun mv found hq => by
      simp only [Instr.lookup, Sem.run_bind, run_underlying ht, Result.andThen_ok, Go.MapKept.run_getObj_map h2, Sem.run_pure, hck, hrun]
      cases hx : (mix kt es k).bind fun i => ms.toList[i]?.map fun m => (0 + i, m.val) with
      | none => rw [hx] at hq; cases hq; simp only [Sem.run_bind, hzero, Result.andThen_ok, Sem.run_pure]
      | some p => rw [hx] at hq; obtain ⟨q1, q2⟩ := p; cases hq; simp only [Sem.run_bind, Result.andThen_ok, Sem.run_pure]
    have fin : ∀ (x : vt.den) (mv : Value) (found : Bool), RelTV g.F w vt x mv → RelV g w (br ok (.tup [vt.val x, .bool found]) (vt.val x)) (if ok then .tuple #[mv, .bool found] else mv) := fun x mv found hx => by
      have hv := val_sound (g := g) hx
      cases ok
      · exact hv
      · exact RelVs.tup (.cons hv (.cons (.bool found) .nil))
    rw [mget_mix]
    cases hx : mix kt es k with
    | none =>
      refine ⟨_, base zv false (by rw [hx]; rfl), ?_⟩
      exact fin z0 zv false (decV_sound hdz (const_sound zv))
    | some i =>
      obtain ⟨hlt, e', he', _⟩ := mix_lt kt k es i hx
      have hlm : i < ms.toList.length := by rw [h3.1]; exact hlt
      have hm' : ms.toList[i]? = some ms.toList[i] := List.getElem?_eq_getElem hlm
      refine ⟨_, base ms.toList[i].val true (by rw [hx]; simp only [Option.bind_some, hm', Option.map_some]), ?_⟩
      have := (h4 i e' ms.toList[i] he' (by rw [← Array.getElem?_toList]; exact hm')).1
      simp only [Option.bind_some, he', Option.map_some, Option.getD_some, Option.isSome_some]
      exact fin e'.2 _ true this
  · -- no map
    obtain ⟨hk, h⟩ := br_none h
    refine ⟨_, h, fun g w um ui hr hm hi => ?_⟩
    cases hm
    have hkey : ∃ d, P.underlying kT = some d ∧ IsKey d ui ∧ (d = .string ∨ ∃ k, d = .int k) := by
      unfold keyV at hk
      split at hk
      · rename_i hu; cases hi; exact ⟨_, hu, trivial, .inl rfl⟩
      · rename_i hu; cases kEq_eq hk; cases hi; exact ⟨_, hu, rfl, .inr ⟨_, rfl⟩⟩
      · cases hk
    obtain ⟨d, hd, hik, _⟩ := hkey
    have hck := run_checkKey (P := P) (w := w) hd hik true 9999
    have hrun := run_findKey (P := P) (w := w) (l := []) (a := none) hd (k := ui) rfl
    refine ⟨if ok then .tuple #[zv, .bool false] else zv, ?_, ?_⟩
    · simp only [Instr.lookup, Sem.run_bind, run_underlying ht, Result.andThen_ok, Sem.run_pure]
      have e1 : (#[] : Array MapEntry).isEmpty = true := rfl
      have e2 : (#[] : Array MapEntry).toList = [] := rfl
      simp only [e1, e2, hck, hrun, hzero, Result.andThen_ok, Sem.run_bind, Sem.run_pure]
    · cases ok
      · exact const_sound zv
      · exact RelVs.tup (.cons (const_sound zv) (.cons (.bool false) .nil))

theorem keyV_spec {kT : TypeId} {ix : AV} {g : Gh} {w : World} {ui : Value} (hk : keyV P kT ix = true) (hi : RelV g w ix ui) : ∃ d, P.underlying kT = some d ∧ IsKey d ui := by
  unfold keyV at hk
  split at hk
  · rename_i hu; cases hi; exact ⟨_, hu, trivial⟩
  · rename_i hu; cases kEq_eq hk; cases hi; exact ⟨_, hu, rfl⟩
  · cases hk

theorem sameBits_refl {kt : Ty} (h : kOk kt = true) (k : kt.den) (n : Nat) : Instr.sameBits n (kval kt k) (kval kt k) = true := by
  cases kt with
  | int k0 => show Instr.sameBits n (.int k0 k) (.int k0 k) = true; unfold Instr.sameBits; simp
  | str =>
    show Instr.sameBits n (.string k) (.string k) = true
    unfold Instr.sameBits
    exact (bytes_beq k k).2 rfl
  | _ => cases h
theorem keq_eq {kt : Ty} (h : kOk kt = true) {a b : kt.den} (he : kt.keq a b = true) : a = b := by
  cases kt with
  | int k0 => exact of_decide_eq_true he
  | str => exact of_decide_eq_true he
  | _ => cases h

/-- A map's block with other entries. -/
theorem map_write {g : Gh} {H : Hp} {w : World} {b gen r c clock clock' : Nat} {kt vt : Ty} {es es' : List (kt.den × vt.den)} {ms ms' : Array MapEntry} (hr : HRel g H w) (hb : H b = .map kt vt es gen) (hi : g.i b = some (r, c)) (hw : w.heap[r]? = some (.map ms clock)) (hk : kOk kt = true)
    (hkeys : Keys kt es' ms'.toList) (hvals : ∀ (i : Nat) (e : kt.den × vt.den) (m : MapEntry), es'[i]? = some e → ms'[i]? = some m → RelTV g.F w vt e.2 m.val ∧ m.born < clock') (hdist : ∀ (i j : Nat) (m m' : MapEntry), ms'[i]? = some m → ms'[j]? = some m' → m.born = m'.born → i = j) :
    ∃ g', Ext g H w [b] g' (upd H b (.map kt vt es' (gen + 1))) { w with heap := w.heap.setIfInBounds r (.map ms' clock') } ∧ HRel g' (upd H b (.map kt vt es' (gen + 1))) { w with heap := w.heap.setIfInBounds r (.map ms' clock') } ∧ ∀ b', g.G b' = .none → g'.G b' ≠ .none → False := by
  have hs : H b ≠ .gone := by rw [hb]; exact fun h => by cases h
  have hG : g.G b = .map kt vt gen := by rw [hr.kd b (fun e => hs e), hb]; rfl
  have hlt : r < w.heap.size := (Array.getElem?_eq_some_iff.1 hw).1
  obtain ⟨x1, x2, x3⟩ := HRel.write (w' := { w with heap := w.heap.setIfInBounds r (.map ms' clock') }) (blk := .map kt vt es' (gen + 1)) hr hs hi (fun h => by cases h) (by simp) (fun r'' hne => by simp [Array.getElem?_setIfInBounds, Ne.symm hne])
    (.inr (.inr (.inr (.inr ⟨kt, vt, gen, gen + 1, hG, rfl, Nat.lt_succ_self _⟩)))) (fun he => ⟨r, c, ms', clock', hi, by simp [Array.getElem?_setIfInBounds, hlt], by have := hkeys.1; simpa using this, fun i e m h1 h2 => by
      have hkm : m.key = kval kt e.1 := hkeys.2 i e m h1 (by rw [Array.getElem?_toList]; exact h2)
      obtain ⟨k1, k2⟩ := key_rel (F := g.F) (w := { w with heap := w.heap.setIfInBounds r (.map ms' clock') }) hk e.1
      obtain ⟨v1, v2⟩ := hvals i e m h1 h2
      refine ⟨by rw [hkm]; exact k1, v1.rel.mono he.mono (he.keepF hr), (fun _ => by rw [hkm]; exact k2), (fun h => by rw [kOk_agg hk] at h; cases h), v1.one, v1.agg, v2⟩, hdist⟩)
  exact ⟨_, x1, x2, x3⟩

theorem modify_get {α : Type} (f : α → α) (l : List α) (i j : Nat) : (l.modify i f)[j]? = if i = j then l[j]?.map f else l[j]? := by
  rw [List.getElem?_modify]
  by_cases h : i = j <;> simp [h]

theorem mapUpdateO_sound {t : TypeId} {m k v : AV} {H : Hp} {n : Nat} {κ : KO R} {r : R} (h : mapUpdateO P t m k v H n κ = some r) :
    ∃ H' D, κ .undef H' n D = some r ∧ ∀ (g : Gh) (w : World) (um uk uv : Value), HRel g H w → RelV g w m um → RelV g w k uk → RelV g w v uv → ∃ w', (Instr.mapUpdate t um uk uv).run P w = .ok () w' ∧ ∃ g', Went g H w (fun _ => False) .undef H' D Go.undef w' g' := by
  unfold mapUpdateO at h
  split at h <;> try (cases h; done)
  rename_i kT e ht
  split at h <;> try (cases h; done)
  rename_i b
  split at h <;> try (cases h; done)
  rename_i kt vt es gen hb
  obtain ⟨hk, h⟩ := br_none h
  obtain ⟨hkT, hko⟩ := keyOk_spec hk
  split at h <;> try (cases h; done)
  rename_i kx hdk
  split at h <;> try (cases h; done)
  rename_i vx hdv
  refine ⟨_, _, h, fun g w um uk uv hr hm hi hv => ?_⟩
  obtain ⟨r', c, ms, clock, h1, rfl, h2, h3, h4, h5⟩ := map_at (m := .map b) hr hb hm hko
  have hti := decV_sound hdk hi
  obtain rfl := key_is hko hti.rel hti.one
  have htv := decV_sound hdv hv
  have hf := find_is hko kx es ms.toList 0 h3
  have hrun := run_findKey (P := P) (w := w) hkT hf
  have hck := run_checkKey (P := P) (w := w) hkT (isKey hko kx) false 9999
  rw [mset_mix]
  cases hx : mix kt es kx with
  | none =>
    rw [hx] at hrun
    have hrun' : (Instr.mapUpdate t (.map (some r')) (kval kt kx) uv).run P w = .ok () { w with heap := w.heap.setIfInBounds r' (.map (ms.push { key := kval kt kx, val := uv, born := clock }) (clock + 1)) } := by
      simp only [Instr.mapUpdate, Sem.run_bind, run_underlying ht, Result.andThen_ok, Go.MapKept.run_getObj_map h2, hck, hrun, Option.bind_none, Go.MapKept.run_setObj_map _ h2]
    obtain ⟨g', x1, x2, x3⟩ := map_write (es' := es ++ [(kx, vx)]) (ms' := ms.push { key := kval kt kx, val := uv, born := clock }) (clock' := clock + 1) hr hb h1 h2 hko
      ⟨by have := h3.1; simp at this ⊢; exact this, fun i e m he hm => by
        have hl := h3.1
        rw [Array.length_toList] at hl
        rw [Array.toList_push] at hm
        by_cases hi : i < es.length
        · rw [List.getElem?_append_left hi] at he
          rw [List.getElem?_append_left (by rw [Array.length_toList]; omega)] at hm
          exact h3.2 i e m he hm
        · have hi' : i = es.length := by
            have := (List.getElem?_eq_some_iff.1 he).1
            simp at this; omega
          subst hi'
          rw [List.getElem?_append_right (Nat.le_refl _), Nat.sub_self] at he
          rw [← h3.1, List.getElem?_append_right (Nat.le_refl _), Nat.sub_self] at hm
          cases he; cases hm; rfl⟩
      (fun i e m he hm => by
        have hl := h3.1
        rw [Array.length_toList] at hl
        by_cases hi : i < es.length
        · rw [List.getElem?_append_left hi] at he
          rw [Array.getElem?_push_lt (by omega)] at hm
          obtain ⟨a1, a2⟩ := h4 i e m he (by rw [Array.getElem?_eq_getElem (by omega)]; exact hm)
          exact ⟨a1, by omega⟩
        · have hi' : i = es.length := by
            have := (List.getElem?_eq_some_iff.1 he).1
            simp at this; omega
          subst hi'
          rw [List.getElem?_append_right (Nat.le_refl _), Nat.sub_self] at he
          rw [← hl, Array.getElem?_push_size] at hm
          cases he; cases hm
          exact ⟨htv, Nat.lt_succ_self _⟩)
      (fun i j m m' hm hm' hbm => by
        have hl := h3.1
        rw [Array.length_toList] at hl
        have old : ∀ (i : Nat) (m : MapEntry), i < ms.size → (ms.push { key := kval kt kx, val := uv, born := clock })[i]? = some m → ms[i]? = some m ∧ m.born < clock := fun i m hi hm => by
          rw [Array.getElem?_push_lt hi] at hm
          have hm : ms[i]? = some m := by rw [Array.getElem?_eq_getElem hi]; exact hm
          exact ⟨hm, (h4 i es[i] m (List.getElem?_eq_getElem (by omega)) hm).2⟩
        have new : ∀ (i : Nat) (m : MapEntry), ¬ i < ms.size → (ms.push { key := kval kt kx, val := uv, born := clock })[i]? = some m → i = ms.size ∧ m.born = clock := fun i m hi hm => by
          have := (Array.getElem?_eq_some_iff.1 hm).1
          rw [Array.size_push] at this
          have hi' : i = ms.size := by omega
          subst hi'
          rw [Array.getElem?_push_size] at hm
          cases hm; exact ⟨rfl, rfl⟩
        by_cases hi : i < ms.size
        · obtain ⟨a1, a2⟩ := old i m hi hm
          by_cases hj : j < ms.size
          · obtain ⟨b1, b2⟩ := old j m' hj hm'
            exact h5 i j m m' a1 b1 hbm
          · obtain ⟨_, b2⟩ := new j m' hj hm'
            omega
        · obtain ⟨a1, a2⟩ := new i m hi hm
          by_cases hj : j < ms.size
          · obtain ⟨_, b2⟩ := old j m' hj hm'
            omega
          · obtain ⟨b1, _⟩ := new j m' hj hm'
            omega)
    exact ⟨_, hrun', g', x1, x2, .undef _, fun b h h' => (x3 b h h').elim⟩
  | some i =>
    obtain ⟨hlt, e', he', hq⟩ := mix_lt kt kx es i hx
    have hqe := keq_eq hko hq
    have hlm : i < ms.toList.length := by rw [h3.1]; exact hlt
    have hms : ms.toList[i]? = some ms.toList[i] := List.getElem?_eq_getElem hlm
    have hms' : ms[i]? = some ms.toList[i] := by rw [← Array.getElem?_toList]; exact hms
    have hkey : ms.toList[i].key = kval kt kx := by rw [h3.2 i e' _ he' hms, hqe]
    rw [hx] at hrun
    simp only [Option.bind_some, hms, Option.map_some] at hrun
    have hstay : (Instr.keyThatStays (kval kt kx) (kval kt kx)).run P w = .ok (kval kt kx) w := by
      unfold Instr.keyThatStays
      rw [if_pos (sameBits_refl hko kx 10000)]
      rfl
    have hrun' : (Instr.mapUpdate t (.map (some r')) (kval kt kx) uv).run P w = .ok () { w with heap := w.heap.setIfInBounds r' (.map (ms.modify i fun e => { e with key := kval kt kx, val := uv }) clock) } := by
      simp only [Instr.mapUpdate, Sem.run_bind, run_underlying ht, Result.andThen_ok, Go.MapKept.run_getObj_map h2, hck, hrun, Nat.zero_add, hms', Option.map_some, Option.getD_some, hkey, hstay, Go.MapKept.run_setObj_map _ h2]
    have hget : ∀ j, (ms.modify i fun e => { e with key := kval kt kx, val := uv })[j]? = if i = j then ms[j]?.map (fun e => { e with key := kval kt kx, val := uv }) else ms[j]? := fun j => by
      rw [Array.getElem?_modify]
    obtain ⟨g', x1, x2, x3⟩ := map_write (es' := es.modify i fun _ => (kx, vx)) (ms' := ms.modify i fun e => { e with key := kval kt kx, val := uv }) (clock' := clock) hr hb h1 h2 hko
      ⟨by have := h3.1; simp at this ⊢; exact this, fun j e m he hm => by
        rw [modify_get] at he
        rw [Array.getElem?_toList, hget] at hm
        by_cases hij : i = j
        · rw [if_pos hij] at he hm
          subst hij
          rw [he'] at he; rw [hms'] at hm
          cases he; cases hm; rfl
        · rw [if_neg hij] at he hm
          exact h3.2 j e m he (by rw [Array.getElem?_toList]; exact hm)⟩
      (fun j e m he hm => by
        rw [modify_get] at he
        rw [hget] at hm
        by_cases hij : i = j
        · rw [if_pos hij] at he hm
          subst hij
          rw [he'] at he; rw [hms'] at hm
          cases he; cases hm
          exact ⟨htv, (h4 i e' _ he' hms').2⟩
        · rw [if_neg hij] at he hm
          exact h4 j e m he hm)
      (fun j j' m m' hm hm' hbm => by
        rw [hget] at hm hm'
        have back : ∀ (j : Nat) (m : MapEntry), (if i = j then ms[j]?.map (fun e => { e with key := kval kt kx, val := uv }) else ms[j]?) = some m → ∃ m0, ms[j]? = some m0 ∧ m0.born = m.born := fun j m hm => by
          by_cases hij : i = j
          · rw [if_pos hij] at hm
            cases hq : ms[j]? with
            | none => rw [hq] at hm; cases hm
            | some m0 => rw [hq] at hm; cases hm; exact ⟨m0, rfl, rfl⟩
          · rw [if_neg hij] at hm; exact ⟨m, hm, rfl⟩
        obtain ⟨m0, a1, a2⟩ := back j m hm
        obtain ⟨m1, b1, b2⟩ := back j' m' hm'
        exact h5 j j' m0 m1 a1 b1 (by rw [a2, b2, hbm]))
    exact ⟨_, hrun', g', x1, x2, .undef _, fun b h h' => (x3 b h h').elim⟩

theorem erase_get {α : Type} (l : List α) (i j : Nat) : (l.eraseIdx i)[j]? = if j < i then l[j]? else l[j + 1]? := List.getElem?_eraseIdx ..
theorem erase_arr {α : Type} (a : Array α) (i : Nat) (h : i < a.size) (j : Nat) : (a.eraseIdxIfInBounds i)[j]? = if j < i then a[j]? else a[j + 1]? := by
  rw [← Array.getElem?_toList]
  have e : (a.eraseIdxIfInBounds i).toList = a.toList.eraseIdx i := by
    unfold Array.eraseIdxIfInBounds
    rw [dif_pos h, Array.toList_eraseIdx]
  rw [e, erase_get]
  by_cases h : j < i
  · rw [if_pos h, if_pos h, Array.getElem?_toList]
  · rw [if_neg h, if_neg h, Array.getElem?_toList]

theorem deleteO_sound {t : TypeId} {m k : AV} {H : Hp} {n : Nat} {κ : KO R} {r : R} (h : deleteO P t m k H n κ = some r) :
    ∃ H' D, κ (.tup []) H' n D = some r ∧ ∀ (g : Gh) (w : World) (um uk : Value) (ats : Array TypeId) (ty : TypeId), ats[0]? = some t → HRel g H w → RelV g w m um → RelV g w k uk → ∃ w', (Builtin.delete_ ats ty #[um, uk]).run P w = .ok (.tuple #[]) w' ∧ ∃ g', Went g H w (fun _ => False) (.tup []) H' D (.tuple #[]) w' g' := by
  unfold deleteO at h
  split at h <;> try (cases h; done)
  rename_i kT e ht
  have tup0 : ∀ (g : Gh) (w : World), RelV g w (.tup []) (.tuple #[]) := fun g w => .tup [] #[] (fun _ => Go.undef) rfl (fun j c h => by simp at h) (fun j c h => by simp at h)
  split at h
  case h_3 => cases h
  · obtain ⟨hk, h⟩ := br_none h
    refine ⟨_, _, h, fun g w um uk ats ty hts hr hm hi => ?_⟩
    cases hm
    obtain ⟨d, hd, hik⟩ := keyV_spec hk hi
    have hck := run_checkKey (P := P) (w := w) hd hik true 9999
    exact ⟨w, by simp [Builtin.delete_, hts, run_underlying ht, hck], g, Went.same hr (tup0 g w)⟩
  · rename_i b
    split at h <;> try (cases h; done)
    rename_i kt vt es gen hb
    obtain ⟨hk, h⟩ := br_none h
    obtain ⟨hkT, hko⟩ := keyOk_spec hk
    split at h <;> try (cases h; done)
    rename_i kx hdk
    refine ⟨_, _, h, fun g w um uk ats ty hts hr hm hi => ?_⟩
    obtain ⟨r', c, ms, clock, h1, rfl, h2, h3, h4, h5⟩ := map_at (m := .map b) hr hb hm hko
    have hti := decV_sound hdk hi
    obtain rfl := key_is hko hti.rel hti.one
    have hf := find_is hko kx es ms.toList 0 h3
    have hrun := run_findKey (P := P) (w := w) hkT hf
    have hck := run_checkKey (P := P) (w := w) hkT (isKey hko kx) ms.isEmpty 9999
    rw [mdel_mix]
    cases hx : mix kt es kx with
    | none =>
      rw [hx] at hrun
      obtain ⟨g', x1, x2, x3⟩ := map_write (es' := es) (ms' := ms) (clock' := clock) hr hb h1 h2 hko h3 h4 h5
      refine ⟨_, ?_, g', x1, x2, tup0 _ _, fun b h h' => (x3 b h h').elim⟩
      simp only [Builtin.delete_, Sem.run_bind, hts, List.getElem?_toArray, List.getElem?_cons_zero, List.getElem?_cons_succ, run_underlying ht, Result.andThen_ok, Go.MapKept.run_getObj_map h2, hck, hrun, Option.bind_none, Go.MapKept.run_setObj_map _ h2, Sem.run_pure]
    | some i =>
      obtain ⟨hlt, e', he', hq⟩ := mix_lt kt kx es i hx
      have hlm : i < ms.toList.length := by rw [h3.1]; exact hlt
      have hms : ms.toList[i]? = some ms.toList[i] := List.getElem?_eq_getElem hlm
      rw [hx] at hrun
      simp only [Option.bind_some, hms, Option.map_some, Nat.zero_add] at hrun
      have hsz : i < ms.size := by rw [← Array.length_toList]; exact hlm
      have hget := erase_arr ms i hsz
      obtain ⟨g', x1, x2, x3⟩ := map_write (es' := es.eraseIdx i) (ms' := ms.eraseIdxIfInBounds i) (clock' := clock) hr hb h1 h2 hko
        ⟨by
          have hl := h3.1
          rw [Array.length_toList] at hl
          have : (ms.eraseIdxIfInBounds i).size = ms.size - 1 := by unfold Array.eraseIdxIfInBounds; rw [dif_pos hsz, Array.size_eraseIdx]
          rw [Array.length_toList, this, List.length_eraseIdx, if_pos hlt, hl], fun j e m he hm => by
          rw [erase_get] at he
          rw [Array.getElem?_toList, hget] at hm
          by_cases hij : j < i
          · rw [if_pos hij] at he hm
            exact h3.2 j e m he (by rw [Array.getElem?_toList]; exact hm)
          · rw [if_neg hij] at he hm
            exact h3.2 (j + 1) e m he (by rw [Array.getElem?_toList]; exact hm)⟩
        (fun j e m he hm => by
          rw [erase_get] at he
          rw [hget] at hm
          by_cases hij : j < i
          · rw [if_pos hij] at he hm
            exact h4 j e m he hm
          · rw [if_neg hij] at he hm
            exact h4 (j + 1) e m he hm)
        (fun j j' m m' hm hm' hbm => by
          rw [hget] at hm hm'
          by_cases hij : j < i <;> by_cases hij' : j' < i
          · rw [if_pos hij] at hm; rw [if_pos hij'] at hm'; exact h5 j j' m m' hm hm' hbm
          · rw [if_pos hij] at hm; rw [if_neg hij'] at hm'
            have := h5 j (j' + 1) m m' hm hm' hbm
            omega
          · rw [if_neg hij] at hm; rw [if_pos hij'] at hm'
            have := h5 (j + 1) j' m m' hm hm' hbm
            omega
          · rw [if_neg hij] at hm; rw [if_neg hij'] at hm'
            have := h5 (j + 1) (j' + 1) m m' hm hm' hbm
            omega)
      refine ⟨_, ?_, g', x1, x2, tup0 _ _, fun b h h' => (x3 b h h').elim⟩
      simp only [Builtin.delete_, Sem.run_bind, hts, List.getElem?_toArray, List.getElem?_cons_zero, List.getElem?_cons_succ, run_underlying ht, Result.andThen_ok, Go.MapKept.run_getObj_map h2, hck, hrun, Go.MapKept.run_setObj_map _ h2, Sem.run_pure]

theorem clearO_sound {t : TypeId} {m : AV} {H : Hp} {n : Nat} {κ : KO R} {r : R} (h : clearO P t m H n κ = some r) :
    ∃ H' D, κ (.tup []) H' n D = some r ∧ ∀ (g : Gh) (w : World) (um : Value) (ats : Array TypeId) (ty : TypeId), ats[0]? = some t → HRel g H w → RelV g w m um → ∃ w', (Builtin.clear_ ats ty #[um]).run P w = .ok (.tuple #[]) w' ∧ ∃ g', Went g H w (fun _ => False) (.tup []) H' D (.tuple #[]) w' g' := by
  unfold clearO at h
  split at h <;> try (cases h; done)
  rename_i kT e ht
  have tup0 : ∀ (g : Gh) (w : World), RelV g w (.tup []) (.tuple #[]) := fun g w => .tup [] #[] (fun _ => Go.undef) rfl (fun j c h => by simp at h) (fun j c h => by simp at h)
  split at h
  case h_3 => cases h
  · refine ⟨_, _, h, fun g w um ats ty hts hr hm => ?_⟩
    cases hm
    exact ⟨w, by simp [Builtin.clear_, hts, run_underlying ht], g, Went.same hr (tup0 g w)⟩
  · rename_i b
    split at h <;> try (cases h; done)
    rename_i kt vt es gen hb
    obtain ⟨hk, h⟩ := br_none h
    obtain ⟨hkT, hko⟩ := keyOk_spec hk
    refine ⟨_, _, h, fun g w um ats ty hts hr hm => ?_⟩
    obtain ⟨r', c, ms, clock, h1, rfl, h2, h3, h4, h5⟩ := map_at (m := .map b) hr hb hm hko
    obtain ⟨g', x1, x2, x3⟩ := map_write (es' := []) (ms' := #[]) (clock' := clock) hr hb h1 h2 hko ⟨rfl, fun i e m he => by simp at he⟩ (fun i e m he => by simp at he) (fun i j m m' hm => by simp at hm)
    refine ⟨_, ?_, g', x1, x2, tup0 _ _, fun b h h' => (x3 b h h').elim⟩
    simp only [Builtin.clear_, Sem.run_bind, hts, List.getElem?_toArray, List.getElem?_cons_zero, run_underlying ht, Result.andThen_ok, Go.MapKept.run_getObj_map h2, Go.MapKept.run_setObj_map _ h2, Sem.run_pure]
end Go.VI

end
section
/- One operation. -/
namespace Go.VI
set_option linter.unusedVariables false
set_option linter.unusedSimpArgs false
variable {R : Type} {P : Program}

/-- An operation yields a value of which K holds. -/
def Gives (P : Program) (o : Oper) (a : Act) (w : World) (K : Value → World → Prop) : Prop :=
  match (execOp a.eval o).run P w with
  | .ok (.value u) w' => K u w'
  | .ok .skip w' => K Go.undef w'
  | .ok (.enter f args) w' => Calls P f args w' fun en w'' => ∃ u, en = .returned u ∧ K u w''
  | _ => False

theorem Gives.wp {o : Oper} {a : Act} {w : World} {K : Value → World → Prop} {next : Act → World → Prop} {Q : Exit → Act → World → Prop} (h : Gives P o a w K) (hn : ∀ u w', K u w' → next (a.put o.dst u) w') : o.wp P a w next Q := by
  unfold Gives at h
  unfold Oper.wp
  split at h
  · rename_i u w' e; rw [e]; exact hn _ _ h
  · rename_i w' e; rw [e]; exact hn _ _ h
  · rename_i f args w' e
    rw [e]
    refine h.mono fun en w'' ⟨u, hu, hk⟩ => ?_
    subst hu
    exact hn _ _ hk
  · cases h

theorem Gives.mono {o : Oper} {a : Act} {w : World} {K K' : Value → World → Prop} (h : Gives P o a w K) (hk : ∀ u w', K u w' → K' u w') : Gives P o a w K' := by
  unfold Gives at *
  split at h
  · exact hk _ _ h
  · exact hk _ _ h
  · exact h.mono fun en w'' ⟨u, hu, h'⟩ => ⟨u, hu, hk _ _ h'⟩
  · cases h

theorem Gives.val {o : Oper} {a : Act} {w w' : World} {K : Value → World → Prop} {s : Sem Value} {u : Value} (h : execOp a.eval o = (do pure (.value (← s)))) (hs : s.run P w = .ok u w') (hk : K u w') : Gives P o a w K := by
  unfold Gives
  rw [h]
  simp only [Sem.run_bind, hs, Result.andThen_ok, Sem.run_pure]
  exact hk
theorem Gives.unit {o : Oper} {a : Act} {w w' : World} {K : Value → World → Prop} {s : Sem Unit} (h : execOp a.eval o = (do s; pure .skip)) (hs : s.run P w = .ok () w') (hk : K Go.undef w') : Gives P o a w K := by
  unfold Gives
  rw [h]
  simp only [Sem.run_bind, hs, Result.andThen_ok, Sem.run_pure]
  exact hk

theorem Went.wide {g g' : Gh} {H H' : Hp} {w w' : World} {N N' : Nat → Prop} {v : AV} {D : List Nat} {u : Value} (h : Went g H w N v H' D u w' g') (hN : ∀ b, N b → N' b) : Went g H w N' v H' D u w' g' :=
  ⟨h.ext, h.rel, h.val, fun b h1 h2 => hN b (h.new b h1 h2)⟩

/-- What is said of an operation, of its operands' values. -/
def OpOk (P : Program) (o : Oper) (ρ : Operand → AV) (H : Hp) (nb n n' : Nat) (v : AV) (H' : Hp) (D : List Nat) : Prop :=
  n ≤ n' ∧ ∀ (g : Gh) (a : Act) (w : World), HRel g H w → (∀ x, RelV g w (ρ x) (a.eval x)) → g.G nb = .none → (∀ b, n ≤ b → g.G b = .none) →
    Gives P o a w fun u w' => ∃ g', Went g H w (fun b => b = nb ∨ (n ≤ b ∧ b < n')) v H' D u w' g'

theorem parts_rel {g : Gh} {w : World} {a : Act} {ρ : Operand → AV} (hρ : ∀ x, RelV g w (ρ x) (a.eval x)) (ps : Array (Nat × Operand)) : RelPs g w (parts ρ ps) (ps.map fun (i, x) => (i, a.eval x)).toList := by
  unfold parts
  rw [Array.toList_map]
  generalize ps.toList = l
  induction l with
  | nil => exact .nil
  | cons p l ih => exact .cons (hρ _) ih

theorem loadLike {o : Oper} {ρ : Operand → AV} {H : Hp} {nb n : Nat} {v : AV} (s : (Operand → Value) → Sem Value) (ho : ∀ a : Act, execOp a.eval o = (do pure (.value (← s a.eval))))
    (h : ∀ (g : Gh) (a : Act) (w : World), HRel g H w → (∀ x, RelV g w (ρ x) (a.eval x)) → ∃ u, (s a.eval).run P w = .ok u w ∧ RelV g w v u) : OpOk P o ρ H nb n n v H [] := by
  refine ⟨Nat.le_refl _, fun g a w hr hρ _ _ => ?_⟩
  obtain ⟨u, h1, h2⟩ := h g a w hr hρ
  exact Gives.val (ho a) h1 ⟨g, Went.same hr h2⟩

theorem newLike {o : Oper} {ρ : Operand → AV} {H H' : Hp} {nb n : Nat} {v : AV} {D : List Nat} (s : (Operand → Value) → Sem Value) (ho : ∀ a : Act, execOp a.eval o = (do pure (.value (← s a.eval))))
    (h : ∀ (g : Gh) (a : Act) (w : World), HRel g H w → (∀ x, RelV g w (ρ x) (a.eval x)) → g.G nb = .none → ∃ u w', (s a.eval).run P w = .ok u w' ∧ ∃ g', Went g H w (fun b => b = nb) v H' D u w' g') : OpOk P o ρ H nb n n v H' D := by
  refine ⟨Nat.le_refl _, fun g a w hr hρ hnb _ => ?_⟩
  obtain ⟨u, w', h1, g', h2⟩ := h g a w hr hρ hnb
  exact Gives.val (ho a) h1 ⟨g', h2.wide fun b e => .inl e⟩

theorem intsOf_spec {k : IntKind} {g : Gh} {w : World} : ∀ {as : List AV} {l : List Int} {us : List Value}, intsOf k as = some l → RelVs g w as us → us = l.map (Value.int k)
  | [], l, _, h, .nil => by cases h; rfl
  | .int k' n :: as, l, _, h, .cons h1 h2 => by
    simp only [intsOf] at h
    obtain ⟨hk, h⟩ := br_none h
    have hk := kEq_eq hk
    subst hk
    split at h <;> try (cases h; done)
    rename_i l' hl
    cases h; cases h1
    rw [intsOf_spec hl h2]; rfl
  | .undef :: _, l, _, h, _ | .bool _ :: _, l, _, h, _ | .str _ :: _, l, _, h, _ | .flt _ :: _, l, _, h, _ | .vals _ _ :: _, l, _, h, _ | .nils :: _, l, _, h, _ | .lits _ _ _ :: _, l, _, h, _ | .own _ _ :: _, l, _, h, _ | .sref _ _ _ _ _ :: _, l, _, h, _ | .ptr _ _ _ _ :: _, l, _, h, _ | .cptr _ :: _, l, _, h, _ | .nilp :: _, l, _, h, _ | .map _ :: _, l, _, h, _ | .nilmap :: _, l, _, h, _ | .stamp _ _ _ :: _, l, _, h, _ | .fn _ _ _ :: _, l, _, h, _ | .nilfn :: _, l, _, h, _ | .iface _ _ :: _, l, _, h, _ | .nili :: _, l, _, h, _ | .agg _ :: _, l, _, h, _ | .tup _ :: _, l, _, h, _ => by simp [intsOf] at h

theorem fold_max {k : IntKind} {w : World} : ∀ (l : List Int) (a : Int), ((l.map (Value.int k)).foldlM Builtin.max2 (.int k a) : Sem Value).run P w = .ok (.int k (l.foldl max a)) w
  | [], a => rfl
  | b :: l, a => by
    simp only [List.map_cons, List.foldlM_cons, Builtin.max2, Sem.run_bind, Sem.run_pure, Result.andThen_ok, List.foldl_cons]
    have : (if b > a then b else a) = max a b := by split <;> omega
    rw [this]; exact fold_max l _
theorem fold_min {k : IntKind} {w : World} : ∀ (l : List Int) (a : Int), ((l.map (Value.int k)).foldlM Builtin.min2 (.int k a) : Sem Value).run P w = .ok (.int k (l.foldl min a)) w
  | [], a => rfl
  | b :: l, a => by
    simp only [List.map_cons, List.foldlM_cons, Builtin.min2, Sem.run_bind, Sem.run_pure, Result.andThen_ok, List.foldl_cons]
    have : (if b < a then b else a) = min a b := by split <;> omega
    rw [this]; exact fold_min l _

theorem enterable_run {f : FuncId} {args : Array Value} {w : World} (h : enterable P f = true) : (callFunc f args).run P w = .ok (.enter f args) w := by
  unfold enterable at h
  split at h
  case h_2 => cases h
  rename_i fn hf
  obtain ⟨h1, h2⟩ := and_spec h
  have h1 : ¬ (fn.name == "runtime.NumGoroutine") = true := by simpa using h1
  have h2 : ¬ fn.body.isNone = true := by
    cases hb : fn.body with
    | none => rw [hb] at h2; cases h2
    | some c => simp
  simp only [callFunc, Sem.run_bind, run_program, Result.andThen_ok, hf, if_neg h1, if_neg h2, Sem.run_pure]

set_option maxHeartbeats 2000000 in
theorem aop_sound {E : FuncId → Option Entry} {inl : Inl R} (hE : ∀ f e, E f = some e → Holds P f e) (hI : InlOk P inl) {o : Oper} {ρ : Operand → AV} {H : Hp} {nb n : Nat} {κ : KO R} {r : R}
    (h : aop P E inl o ρ H nb n κ = some r) : ∃ v H' n' D, κ v H' n' D = some r ∧ OpOk P o ρ H nb n n' v H' D := by
  obtain ⟨dst, op, ty, pos, aft, gd⟩ := o
  unfold aop at h
  simp only at h
  cases op <;> simp only at h <;> try (cases h; done)
  case move x => exact ⟨_, _, _, _, h, Nat.le_refl _, fun g a w hr hρ _ _ => by unfold Gives; exact ⟨g, Went.same hr (hρ x)⟩⟩
  case assign x => exact ⟨_, _, _, _, h, Nat.le_refl _, fun g a w hr hρ _ _ => by unfold Gives; exact ⟨g, Went.same hr (hρ x)⟩⟩
  case pick c x y =>
    split at h
    case h_2 => cases h
    rename_i t hc
    rcases br_some h with ⟨ht, h⟩ | ⟨ht, h⟩
    · refine ⟨_, _, _, _, h, Nat.le_refl _, fun g a w hr hρ _ _ => ?_⟩
      have h1 := hρ c
      rw [hc, ht] at h1
      generalize hu : a.eval c = u at h1
      cases h1
      unfold Gives
      simp only [execOp, hu, asBool, Sem.run_bind, Sem.run_pure, Result.andThen_ok, if_true]
      exact ⟨g, Went.same hr (hρ x)⟩
    · refine ⟨_, _, _, _, h, Nat.le_refl _, fun g a w hr hρ _ _ => ?_⟩
      have h1 := hρ c
      rw [hc, ht] at h1
      generalize hu : a.eval c = u at h1
      cases h1
      unfold Gives
      simp only [execOp, hu, asBool, Sem.run_bind, Sem.run_pure, Result.andThen_ok, Bool.false_eq_true, if_false]
      exact ⟨g, Went.same hr (hρ y)⟩
  case alloc e =>
    split at h
    case h_2 => cases h
    rename_i z hz
    obtain ⟨i, zv, hi, hzv, rfl⟩ := zeroT_spec hz
    obtain ⟨v, H', h', hs⟩ := newBlk_sound h
    refine ⟨v, H', n, _, h', newLike (fun ev => Instr.alloc e true (.tuple #[])) (fun a => by unfold execOp; rfl) fun g a w hr hρ hnb => ?_⟩
    exact ⟨_, _, by simp only [Instr.alloc, Sem.run_bind, zeroValue, typeInfo, run_program, hi, hzv, Result.andThen_ok, Sem.run_pure, newVar, newRow, run_newObj], hs g w { w with heap := w.heap.push (.cells zv.cells e) } zv.cells.toList hr hnb (cells_const zv) (by simp) ⟨rfl, rfl, rfl⟩⟩
  case box e x =>
    obtain ⟨hg, h⟩ := br_none h
    obtain ⟨v, H', h', hs⟩ := newBlk_sound h
    refine ⟨v, H', n, _, h', newLike (fun ev => Instr.box e (ev x)) (fun a => by unfold execOp; rfl) fun g a w hr hρ hnb => ?_⟩
    exact ⟨_, _, by simp only [Instr.box, Sem.run_bind, Result.andThen_ok, Sem.run_pure, newVar, newRow, run_newObj], hs g w { w with heap := w.heap.push (.cells (a.eval x).cells e) } (a.eval x).cells.toList hr hnb ((hρ x).cells hg) (by simp) ⟨rfl, rfl, rfl⟩⟩
  case build t ps =>
    split at h
    case h_2 => cases h
    rename_i v hv
    exact ⟨_, _, _, _, h, loadLike (fun ev => Instr.build t (ps.map fun (i, x) => (i, ev x))) (fun a => by unfold execOp; rfl) fun g a w hr hρ => buildO_sound hv g w _ (parts_rel hρ ps)⟩
  case buildSlice t len ps =>
    obtain ⟨v, H', h', hs⟩ := buildSliceO_sound h
    exact ⟨v, H', n, _, h', newLike (fun ev => Instr.buildSlice t len (ps.map fun (i, x) => (i, ev x))) (fun a => by unfold execOp; rfl) fun g a w hr hρ hnb => hs g w _ hr hnb (parts_rel hρ ps)⟩
  case load t x =>
    obtain ⟨v, h', hs⟩ := loadO_sound h
    exact ⟨v, H, n, _, h', loadLike (fun ev => Instr.loadAt t (ev x)) (fun a => by unfold execOp; rfl) fun g a w hr hρ => hs g w _ hr (hρ x)⟩
  case store t x y =>
    obtain ⟨H', D, h', hs⟩ := storeO_sound h
    refine ⟨_, H', n, D, h', Nat.le_refl _, fun g a w hr hρ hnb _ => ?_⟩
    obtain ⟨w', h1, g', h2⟩ := hs g w _ _ hr (hρ x) (hρ y)
    exact Gives.unit (s := Instr.storeAt t (a.eval x) (a.eval y)) rfl h1 ⟨g', h2.wide fun b e => e.elim⟩
  case nilCheck x =>
    split at h <;> try (cases h; done)
    · rename_i b i off k hx
      refine ⟨_, _, _, _, h, Nat.le_refl _, fun g a w hr hρ _ _ => ?_⟩
      have h1 := hρ x
      rw [hx] at h1
      have h2 := h1
      cases h1 with
      | ptr _ _ _ _ _ _ hp =>
        obtain ⟨ad, hu⟩ := hp
        unfold Gives
        simp only [execOp, hu, Sem.run_pure]
        rw [hu] at h2
        exact ⟨g, Went.same hr h2⟩
    · rename_i cs hx
      refine ⟨_, _, _, _, h, Nat.le_refl _, fun g a w hr hρ _ _ => ?_⟩
      have h1 := hρ x
      rw [hx] at h1
      generalize hu : a.eval x = u at h1
      have h2 := h1
      cases h1
      unfold Gives
      simp only [execOp, hu, Sem.run_pure]
      exact ⟨g, Went.same hr h2⟩
    · rename_i t v hx
      refine ⟨_, _, _, _, h, Nat.le_refl _, fun g a w hr hρ _ _ => ?_⟩
      have h1 := hρ x
      rw [hx] at h1
      generalize hu : a.eval x = u at h1
      have h2 := h1
      cases h1
      unfold Gives
      simp only [execOp, hu, Sem.run_pure]
      exact ⟨g, Went.same hr h2⟩
    · rename_i f xs ys hx
      refine ⟨_, _, _, _, h, Nat.le_refl _, fun g a w hr hρ _ _ => ?_⟩
      have h1 := hρ x
      rw [hx] at h1
      generalize hu : a.eval x = u at h1
      have h2 := h1
      cases h1
      unfold Gives
      simp only [execOp, hu, Sem.run_pure]
      exact ⟨g, Went.same hr h2⟩
  case binOp op t x y yt =>
    obtain ⟨v, h', hs⟩ := binO_sound h
    exact ⟨v, H, n, _, h', loadLike (fun ev => do eqGuard op t x y (ev x) (ev y); binOp op t (ev x) (ev y)) (fun a => by unfold execOp; rfl) fun g a w hr hρ => hs g w _ _ (hρ x) (hρ y)⟩
  case unOp op t x =>
    obtain ⟨v, h', hs⟩ := unO_sound h
    exact ⟨v, H, n, _, h', loadLike (fun ev => Op.unary op (ev x)) (fun a => by unfold execOp; rfl) fun g a w hr hρ => hs g w _ (hρ x)⟩
  case convert s d x =>
    obtain ⟨v, h', hs⟩ := convO_sound h
    exact ⟨v, H, n, _, h', loadLike (fun ev => convert s d (ev x)) (fun a => by unfold execOp; rfl) fun g a w hr hρ => hs g w _ hr (hρ x)⟩
  case makeInterface t x =>
    split at h <;> try (cases h; done)
    rename_i d hd ht
    refine ⟨_, _, _, _, h, loadLike (fun ev => Instr.makeInterface t (ev x)) (fun a => by unfold execOp; rfl) fun g a w hr hρ => ?_⟩
    refine ⟨.iface t (a.eval x), ?_, .iface _ _ _ (hρ x)⟩
    simp only [Instr.makeInterface, Sem.run_bind, run_underlying ht, Result.andThen_ok]
    cases d <;> first | rfl | (exact absurd rfl (hd _))
  case makeFunc f xs ys =>
    refine ⟨_, _, _, _, h, loadLike (fun ev => Instr.makeFunc f (xs.map ev) (ys.map ev)) (fun a => by unfold execOp; rfl) fun g a w hr hρ => ?_⟩
    refine ⟨.func f (xs.map a.eval) (ys.map a.eval), rfl, ?_⟩
    refine .fn f _ _ _ _ (fun j => ((xs.map a.eval)[j]?).getD Go.undef) (fun j => ((ys.map a.eval)[j]?).getD Go.undef) (by simp) (by simp) (fun j c hj => ?_) (fun j c hj => ?_) (fun j c hj => ?_) (fun j c hj => ?_)
    all_goals
      rw [List.getElem?_map, Array.getElem?_toList] at hj
      rw [Array.getElem?_map]
      first
        | (cases hx : xs[j]? with
           | none => rw [hx] at hj; cases hj
           | some x =>
             rw [hx] at hj
             cases hj
             first | rfl | exact hρ x)
        | (cases hx : ys[j]? with
           | none => rw [hx] at hj; cases hj
           | some x =>
             rw [hx] at hj
             cases hj
             first | rfl | exact hρ x)
  case makeSlice t l c =>
    obtain ⟨v, H', h', hs⟩ := makeSliceO_sound h
    exact ⟨v, H', n, _, h', newLike (fun ev => Instr.makeSlice t (ev l) (ev c)) (fun a => by unfold execOp; rfl) fun g a w hr hρ hnb => hs g w _ _ hr hnb (hρ l) (hρ c)⟩
  case slice t x lo hi mx =>
    obtain ⟨v, h', hs⟩ := sliceO_sound h
    refine ⟨v, H, n, _, h', loadLike (fun ev => Instr.sliceAt t (ev x) (lo.map ev) (hi.map ev) (mx.map ev)) (fun a => by unfold execOp; rfl) fun g a w hr hρ => hs g w _ _ _ _ hr (hρ x) ?_ ?_ ?_⟩
    · cases lo <;> first | trivial | exact hρ _
    · cases hi <;> first | trivial | exact hρ _
    · cases mx <;> first | trivial | exact hρ _
  case fieldAddr t x f =>
    split at h <;> try (cases h; done)
    rename_i off hoff
    have hfd : ∃ fs fd i, P.underlying t = some (.struct fs) ∧ fs[f]? = some fd ∧ fd.offset = off ∧ P.info? fd.type = some i ∧ i.size ≠ 0 := by
      unfold fieldO at hoff
      split at hoff <;> try (cases hoff; done)
      rename_i fs hu
      split at hoff <;> try (cases hoff; done)
      rename_i fd hf
      obtain ⟨hz, hoff⟩ := none_br hoff
      cases hoff
      unfold sizeT at hz
      split at hz
      · rename_i i hi
        exact ⟨fs, fd, i, hu, hf, rfl, hi, fun e => by rw [e] at hz; cases hz⟩
      · cases hz
    obtain ⟨fs, fd, i, hu, hf, rfl, hi, hne⟩ := hfd
    have run : ∀ (w : World) (ad : Addr), (Instr.fieldAt t (.pointer (some ad)) f).run P w = .ok (.pointer (some (ad.add fd.offset))) w := fun w ad => by
      simp only [Instr.fieldAt, Sem.run_bind, run_underlying hu, Result.andThen_ok, hf, Instr.sureAddr, Sem.run_pure, fieldPlace, run_sizeOf' hi, if_neg hne]
    split at h <;> try (cases h; done)
    · rename_i b i' o' k hx
      refine ⟨_, _, _, _, h, loadLike (fun ev => Instr.fieldAt t (ev x) f) (fun a => by unfold execOp; rfl) fun g a w hr hρ => ?_⟩
      have h1 := hρ x
      rw [hx] at h1
      generalize hue : a.eval x = u at h1
      cases h1 with
      | ptr _ _ _ _ _ hn hp ha hb hs =>
        obtain ⟨ad, rfl⟩ := hp
        refine ⟨_, run w ad, .ptr _ _ _ _ _ hn ⟨_, rfl⟩ (fun t k' n hG => ?_) (fun hG he => ?_) (fun hG he => ?_)⟩
        · obtain ⟨a1, a2⟩ := ha t k' n hG
          refine ⟨a1, fun e => ?_⟩
          obtain ⟨r', c, e1, e2⟩ := a2 e
          cases e2
          exact ⟨r', c, e1, by rw [add_mk, Nat.add_assoc]⟩
        · obtain ⟨r', c, e1, e2⟩ := hb hG he
          cases e2
          exact ⟨r', c, e1, by rw [add_mk]⟩
        · obtain ⟨r', c, e1, e2⟩ := hs hG (by omega)
          cases e2
          exact ⟨r', c, e1, by
            rw [add_mk]
            have : fd.offset = 0 := by omega
            rw [this]⟩
    · rename_i cs hx
      refine ⟨_, _, _, _, h, loadLike (fun ev => Instr.fieldAt t (ev x) f) (fun a => by unfold execOp; rfl) fun g a w hr hρ => ?_⟩
      have h1 := hρ x
      rw [hx] at h1
      generalize hue : a.eval x = u at h1
      cases h1 with
      | cptr _ ad fv h1 h2 =>
        refine ⟨_, run w ad, .cptr _ _ (fun j => fv (fd.offset + j)) (fun j c hj => ?_) (fun j c hj => ?_)⟩
        · rw [List.getElem?_drop] at hj
          rw [add_block, Addr.add_add]
          exact h1 _ c hj
        · rw [List.getElem?_drop] at hj
          exact h2 _ c hj
  case field t x f =>
    split at h <;> try (cases h; done)
    rename_i fs hu
    split at h <;> try (cases h; done)
    rename_i fd hf
    split at h <;> try (cases h; done)
    rename_i cs hx
    split at h <;> try (cases h; done)
    rename_i v hv
    refine ⟨_, _, _, _, h, loadLike (fun ev => Instr.field t (ev x) f) (fun a => by unfold execOp; rfl) fun g a w hr hρ => ?_⟩
    have h1 := hρ x
    rw [hx] at h1
    have e1 := h1.isAgg rfl
    obtain ⟨u, hu1, hu2⟩ := partV_run hv (h1.cells rfl)
    refine ⟨u, ?_, hu2⟩
    rw [e1]
    simp only [Instr.field, Sem.run_bind, run_underlying hu, Result.andThen_ok, hf, asAgg, Sem.run_pure, hu1]
  case makeMap t res =>
    unfold makeMapO at h
    split at h <;> try (cases h; done)
    rename_i hres
    split at h <;> try (cases h; done)
    rename_i k e hu
    split at h <;> try (cases h; done)
    rename_i kt vt _ _
    cases res with
    | some x => cases hres
    | none =>
      refine ⟨_, _, n, _, h, newLike (fun ev => Instr.makeMap t none) (fun a => by unfold execOp; rfl) fun g a w hr hρ hnb => ?_⟩
      obtain ⟨x1, x2, x3⟩ := HRel.alloc (w' := { w with heap := w.heap.push (.map #[] 0) }) (cap := 0) (blk := .map kt vt [] 0) hr hnb rfl (fun h => by cases h) (fun he => ⟨w.heap.size, 0, #[], 0, Gh.new_i .., by simp, rfl, fun i e m h => by simp at h, fun i j m m' h => by simp at h⟩)
      refine ⟨.map (some w.heap.size), { w with heap := w.heap.push (.map #[] 0) }, by simp only [Instr.makeMap, Sem.run_bind, Result.andThen_ok, Sem.run_pure, run_newObj], _, x1, x2, ?_, x3⟩
      refine .map _ _ (by rw [Gh.new_G]; exact kindOf_none) ⟨_, rfl⟩ (fun kt' vt' k' h => ⟨_, _, Gh.new_i .., rfl⟩)
  case lookup t x ix ok =>
    obtain ⟨v, h', hs⟩ := lookupO_sound h
    exact ⟨v, H, n, _, h', loadLike (fun ev => Instr.lookup t (ev x) (ev ix) ok) (fun a => by unfold execOp; rfl) fun g a w hr hρ => hs g w _ _ hr (hρ x) (hρ ix)⟩
  case mapUpdate t m k v =>
    obtain ⟨H', D, h', hs⟩ := mapUpdateO_sound h
    refine ⟨_, H', n, D, h', Nat.le_refl _, fun g a w hr hρ hnb _ => ?_⟩
    obtain ⟨w', h1, g', h2⟩ := hs g w _ _ _ hr (hρ m) (hρ k) (hρ v)
    exact Gives.unit (s := Instr.mapUpdate t (a.eval m) (a.eval k) (a.eval v)) rfl h1 ⟨g', h2.wide fun b e => e.elim⟩
  case range t x =>
    unfold rangeO at h
    split at h <;> try (cases h; done)
    rename_i s hu hx
    refine ⟨_, _, n, _, h, newLike (fun ev => Instr.range t (ev x)) (fun a => by unfold execOp; rfl) fun g a w hr hρ hnb => ?_⟩
    have h1 := hρ x
    rw [hx] at h1
    generalize a.eval x = u at h1
    cases h1
    obtain ⟨x1, x2, x3⟩ := HRel.alloc (w' := { w with heap := w.heap.push (.stringIter s 0) }) (cap := 0) (blk := .siter s 0) hr hnb rfl (fun h => by cases h) (fun he => ⟨w.heap.size, 0, Gh.new_i .., by simp⟩)
    refine ⟨.pointer (some ⟨w.heap.size, 0, none⟩), { w with heap := w.heap.push (.stringIter s 0) }, by simp only [Instr.range, Sem.run_bind, run_underlying hu, Result.andThen_ok, Sem.run_pure, run_newObj], _, x1, x2, ?_, x3⟩
    refine .ptr _ _ _ _ _ (by rw [Gh.new_G]; exact kindOf_none) ⟨_, rfl⟩ (fun t k' n h => ?_) (fun h _ => ?_) (fun _ _ => ⟨_, _, Gh.new_i .., rfl⟩)
    · rw [Gh.new_G] at h; cases h
    · rw [Gh.new_G] at h; cases h
  case next x isS =>
    have h2 := br_none h
    clear h
    obtain ⟨hS, h⟩ := h2
    subst hS
    unfold nextO at h
    split at h <;> try (cases h; done)
    rename_i b hx
    split at h <;> try (cases h; done)
    rename_i s pos hb
    have base : ∀ (g : Gh) (a : Act) (w : World), HRel g H w → (∀ x, RelV g w (ρ x) (a.eval x)) → ∃ r c, g.i b = some (r, c) ∧ w.heap[r]? = some (.stringIter s pos) ∧ a.eval x = .pointer (some ⟨r, 0, none⟩) := fun g a w hr hρ => by
      have hG : g.G b = .siter := by rw [hr.kd b (fun e => by rw [hb] at e; cases e), hb]; rfl
      have hB := hr.blk b
      rw [hb] at hB
      obtain ⟨r', c', h1, h2⟩ := hB
      have hv := hρ x
      rw [hx] at hv
      generalize hue : a.eval x = u at hv
      cases hv with
      | ptr _ _ _ _ _ hn hp ha hbx hs =>
        obtain ⟨r2, c2, e1, rfl⟩ := hs hG rfl
        rw [h1] at e1; cases e1
        exact ⟨r', c', h1, h2, rfl⟩
    rcases br_some h with ⟨hp, h⟩ | ⟨hp, h⟩
    · have hp : pos < s.size := Nat.le_of_ble_eq_true hp
      refine ⟨_, _, n, [b], h, Nat.le_refl _, fun g a w hr hρ _ _ => ?_⟩
      obtain ⟨r', c', h1, h2, h3⟩ := base g a w hr hρ
      have hrun : (Instr.next (a.eval x) true ty).run P w = .ok (.tuple #[.bool true, goInt pos, .int .i32 (Utf8.decode s pos).1]) { w with heap := w.heap.setIfInBounds r' (.stringIter s (pos + (Utf8.decode s pos).2)) } := by
        rw [h3]
        have e1 : (getObj r').run P w = .ok (.stringIter s pos) w := by simp [getObj, Sem.run, h2]
        have e2 : ∀ o, (setObj r' o).run P w = .ok () { w with heap := w.heap.setIfInBounds r' o } := fun o => by simp [setObj, Sem.run, h2]
        simp only [Instr.next, Sem.run_bind, e1, Result.andThen_ok, if_pos hp, e2, Sem.run_pure]
      have hs : H b ≠ .gone := by rw [hb]; exact fun h => by cases h
      have hlt : r' < w.heap.size := (Array.getElem?_eq_some_iff.1 h2).1
      obtain ⟨x1, x2, x3⟩ := HRel.write (w' := { w with heap := w.heap.setIfInBounds r' (.stringIter s (pos + (Utf8.decode s pos).2)) }) (blk := .siter s (pos + (Utf8.decode s pos).2)) hr hs h1 (fun h => by cases h) (by simp) (fun r'' hne => by simp [Array.getElem?_setIfInBounds, Ne.symm hne])
        (.inr (.inl ⟨by rw [hr.kd b (fun e => by rw [hb] at e; cases e), hb]; rfl, rfl⟩)) (fun he => ⟨r', c', h1, by simp [Array.getElem?_setIfInBounds, hlt]⟩)
      refine Gives.val (s := Instr.next (a.eval x) true ty) (by unfold execOp; rfl) hrun ⟨_, x1, x2, RelVs.tup (.cons (.bool true) (.cons (.int ..) (.cons (.int ..) .nil))), fun b h h' => (x3 b h h').elim⟩
    · have hp : ¬ pos < s.size := fun h' => by
        have := Nat.ble_eq_true_of_le h'
        rw [show Nat.blt pos s.size = Nat.ble (pos + 1) s.size from rfl, this] at hp
        cases hp
      refine ⟨_, _, n, _, h, Nat.le_refl _, fun g a w hr hρ _ _ => ?_⟩
      obtain ⟨r', c', h1, h2, h3⟩ := base g a w hr hρ
      have hrun : (Instr.next (a.eval x) true ty).run P w = .ok (.tuple #[.bool false]) w := by
        rw [h3]
        have e1 : (getObj r').run P w = .ok (.stringIter s pos) w := by simp [getObj, Sem.run, h2]
        simp only [Instr.next, Sem.run_bind, e1, Result.andThen_ok, if_neg hp, Sem.run_pure]
      exact Gives.val (s := Instr.next (a.eval x) true ty) (by unfold execOp; rfl) hrun ⟨g, Went.same hr (RelVs.tup (.cons (.bool false) .nil))⟩
  case indexAddr t x ix =>
    obtain ⟨v, h', hs⟩ := indexAddrO_sound h
    exact ⟨v, H, n, _, h', loadLike (fun ev => Instr.indexAt t (ev x) (ev ix)) (fun a => by unfold execOp; rfl) fun g a w hr hρ => hs g w _ _ hr (hρ x) (hρ ix)⟩
  case index t x ix =>
    split at h <;> try (cases h; done)
    rotate_left
    · rename_i len e cs k i hu hx hix
      obtain ⟨hin, h⟩ := br_none h
      obtain ⟨h0, hlt⟩ := inRange_spec hin
      split at h <;> try (cases h; done)
      rename_i ie hie
      split at h <;> try (cases h; done)
      rename_i v hv
      refine ⟨_, _, _, _, h, loadLike (fun ev => Instr.index t (ev x) (ev ix)) (fun a => by unfold execOp; rfl) fun g a w hr hρ => ?_⟩
      have h1 := hρ x
      have h2 := hρ ix
      rw [hx] at h1; rw [hix] at h2
      have e1 := h1.isAgg rfl
      obtain ⟨u, hu1, hu2⟩ := partV_run hv (h1.cells rfl)
      generalize a.eval ix = ui at h2
      cases h2
      refine ⟨u, ?_, hu2⟩
      rw [e1]
      simp only [Instr.index, Sem.run_bind, asIntOf, Sem.run_pure, Result.andThen_ok, run_underlying hu, if_pos (show 0 ≤ i ∧ i < (len : Int) from ⟨h0, hlt⟩), run_sizeOf' hie, hu1]
    rename_i s k i hu hx hix
    obtain ⟨h0, h⟩ := br_none h
    have h0 : 0 ≤ i := by simpa using h0
    obtain ⟨b, hb, h⟩ := Option.bind_eq_some_iff.1 h
    refine ⟨_, _, _, _, h, loadLike (fun ev => Instr.index t (ev x) (ev ix)) (fun a => by unfold execOp; rfl) fun g a w hr hρ => ?_⟩
    have h1 := hρ x
    have h2 := hρ ix
    rw [hx] at h1; rw [hix] at h2
    generalize a.eval x = ux at h1
    generalize a.eval ix = ui at h2
    cases h1; cases h2
    refine ⟨_, ?_, .int ..⟩
    have hb' : s[i.toNat]? = some b := by
      rw [Array.getElem?_toList] at hb
      exact hb
    simp only [Instr.index, Sem.run_bind, asIntOf, Sem.run_pure, Result.andThen_ok, run_underlying hu, if_pos h0, hb']
  case extract t i =>
    split at h <;> try (cases h; done)
    rename_i vs ht
    split at h <;> try (cases h; done)
    rename_i v hv
    refine ⟨_, _, _, _, h, loadLike (fun ev => Instr.extract (ev t) i) (fun a => by unfold execOp; rfl) fun g a w hr hρ => ?_⟩
    have h1 := hρ t
    rw [ht] at h1
    generalize a.eval t = u at h1
    cases h1 with
    | tup _ us f h1 h2 h3 =>
      refine ⟨f i, ?_, h3 i v hv⟩
      simp only [Instr.extract, h2 i v hv, Sem.run_pure]
  case typeAssert x xt t ok =>
    split at h <;> try (cases h; done)
    rename_i d t' v hd hu hx
    have run : ∀ (a : Act) (w : World) (uv : Value), a.eval x = .iface t' uv → (Instr.typeAssert (a.eval x) xt t ok).run P w = if t' = t then (pure (if ok then .tuple #[uv, .bool true] else uv) : Sem Value).run P w else (if ok then (do pure (.tuple #[← zeroValue t, .bool false]) : Sem Value).run P w else (runtimePanic (.typeAssertion (some xt) (some t') t "") : Sem Value).run P w) := by
      intro a w uv e
      rw [e]
      simp only [Instr.typeAssert, Sem.run_bind, run_underlying hu, Result.andThen_ok]
      cases d <;> first
        | (exact absurd rfl (hd _))
        | (by_cases h1 : t' = t
           · simp only [h1, if_true]
           · simp only [h1, if_false]
             cases ok <;> simp only [Bool.false_eq_true, if_false, if_true, Sem.run_bind])
    rcases br_some h with ⟨ht, h⟩ | ⟨ht, h⟩
    · have ht := Nat.eq_of_beq_eq_true ht
      refine ⟨_, _, _, _, h, loadLike (fun ev => Instr.typeAssert (ev x) xt t ok) (fun a => by unfold execOp; rfl) fun g a w hr hρ => ?_⟩
      have h1 := hρ x
      rw [hx] at h1
      generalize hue : a.eval x = u at h1
      cases h1 with
      | iface _ _ uv h2 =>
        rw [hue.symm, run a w uv hue, if_pos ht]
        cases ok
        · exact ⟨uv, rfl, h2⟩
        · exact ⟨_, rfl, RelVs.tup (.cons h2 (.cons (.bool true) .nil))⟩
    · have ht : ¬ t' = t := fun e => by rw [e, Nat.beq_refl] at ht; cases ht
      obtain ⟨hok, h⟩ := br_none h
      subst hok
      split at h <;> try (cases h; done)
      rename_i z hz
      obtain ⟨i, zv, hi, hzv, rfl⟩ := zeroT_spec hz
      refine ⟨_, _, _, _, h, loadLike (fun ev => Instr.typeAssert (ev x) xt t true) (fun a => by unfold execOp; rfl) fun g a w hr hρ => ?_⟩
      have h1 := hρ x
      rw [hx] at h1
      generalize hue : a.eval x = u at h1
      cases h1 with
      | iface _ _ uv h2 =>
        rw [hue.symm, run a w uv hue, if_neg ht]
        refine ⟨.tuple #[zv, .bool false], ?_, RelVs.tup (.cons (const_sound zv) (.cons (.bool false) .nil))⟩
        simp only [if_true, Sem.run_bind, zeroValue, typeInfo, run_program, hi, hzv, Result.andThen_ok, Sem.run_pure]
  case call c =>
    obtain ⟨callee, args, ats⟩ := c
    cases callee <;> simp only at h <;> try (cases h; done)
    case builtin b =>
      have rel : ∀ (g : Gh) (a : Act) (w : World), (∀ x, RelV g w (ρ x) (a.eval x)) → RelVs g w (args.toList.map ρ) (args.toList.map a.eval) := fun g a w hρ => RelVs.of hρ _
      have back : ∀ (a : Act) (us : List Value), args.toList.map a.eval = us → args.map a.eval = us.toArray := fun a us e => by rw [← e]; apply Array.ext'; simp
      unfold builtinO at h
      split at h <;> try (cases h; done)
      · rename_i x hargs
        split at h <;> try (cases h; done)
        rename_i t hts
        split at h <;> try (cases h; done)
        rename_i m hm
        refine ⟨_, _, _, _, h, Nat.le_refl _, fun g a w hr hρ _ _ => ?_⟩
        have hrel := rel g a w hρ
        rw [hargs] at hrel
        generalize hus : args.toList.map a.eval = us at hrel
        cases hrel with
        | cons h1 h2 =>
          cases h2
          have hrun := lenO_sound hm g w _ ats ty hts hr h1
          unfold Gives
          simp only [execOp, resolve, Sem.run_bind, Sem.run_pure, Result.andThen_ok, invoke, builtin, back a _ hus, hrun]
          exact ⟨g, Went.same hr (.int ..)⟩
      · rename_i x y hargs
        split at h <;> try (cases h; done)
        rename_i t u hts hus'
        split at h <;> try (cases h; done)
        rename_i e e2 ht hu
        obtain ⟨v, H', D, h', hs⟩ := appendO_sound h
        refine ⟨v, H', _, D, h', Nat.le_refl _, fun g a w hr hρ hnb _ => ?_⟩
        have hrel := rel g a w hρ
        rw [hargs] at hrel
        generalize hus : args.toList.map a.eval = us at hrel
        cases hrel with
        | cons h1 h2 =>
          cases h2 with
          | cons h2 h3 =>
            cases h3
            obtain ⟨uv, w', hrun, g', hw⟩ := hs g w _ _ t u ty ht ⟨_, hu⟩ hr hnb h1 h2
            have hts' : ∀ us, Builtin.append_ ats ty us = Builtin.append_ #[t, u] ty us := fun us => by
              unfold Builtin.append_
              simp [hts, hus']
            unfold Gives
            simp only [execOp, resolve, Sem.run_bind, Sem.run_pure, Result.andThen_ok, invoke, builtin, back a _ hus, hts', hrun]
            exact ⟨g', hw.wide fun b e => .inl e⟩
      · rename_i k x r' hargs
        split at h <;> try (cases h; done)
        rename_i l hl
        refine ⟨_, _, _, _, h, Nat.le_refl _, fun g a w hr hρ _ _ => ?_⟩
        have hrel := rel g a w hρ
        rw [hargs] at hrel
        generalize hus : args.toList.map a.eval = us at hrel
        cases hrel with
        | cons h1 h2 =>
          cases h1
          have := intsOf_spec hl h2
          subst this
          unfold Gives
          simp only [execOp, resolve, Sem.run_bind, Sem.run_pure, Result.andThen_ok, invoke, builtin, back a _ hus, Builtin.max_, fold_max]
          exact ⟨g, Went.same hr (.int ..)⟩
      · rename_i k x r' hargs
        split at h <;> try (cases h; done)
        rename_i l hl
        refine ⟨_, _, _, _, h, Nat.le_refl _, fun g a w hr hρ _ _ => ?_⟩
        have hrel := rel g a w hρ
        rw [hargs] at hrel
        generalize hus : args.toList.map a.eval = us at hrel
        cases hrel with
        | cons h1 h2 =>
          cases h1
          have := intsOf_spec hl h2
          subst this
          unfold Gives
          simp only [execOp, resolve, Sem.run_bind, Sem.run_pure, Result.andThen_ok, invoke, builtin, back a _ hus, Builtin.min_, fold_min]
          exact ⟨g, Went.same hr (.int ..)⟩
      · rename_i m k hargs
        split at h <;> try (cases h; done)
        rename_i t hts
        obtain ⟨H', D, h', hs⟩ := deleteO_sound h
        refine ⟨_, H', n, D, h', Nat.le_refl _, fun g a w hr hρ hnb _ => ?_⟩
        have hrel := rel g a w hρ
        rw [hargs] at hrel
        generalize hus : args.toList.map a.eval = us at hrel
        cases hrel with
        | cons h1 h2 =>
          cases h2 with
          | cons h2 h3 =>
            cases h3
            obtain ⟨w', hrun, g', hw⟩ := hs g w _ _ ats ty hts hr h1 h2
            unfold Gives
            simp only [execOp, resolve, Sem.run_bind, Sem.run_pure, Result.andThen_ok, invoke, builtin, back a _ hus, hrun]
            exact ⟨g', hw.wide fun b e => e.elim⟩
      · rename_i m hargs
        split at h <;> try (cases h; done)
        rename_i t hts
        obtain ⟨H', D, h', hs⟩ := clearO_sound h
        refine ⟨_, H', n, D, h', Nat.le_refl _, fun g a w hr hρ hnb _ => ?_⟩
        have hrel := rel g a w hρ
        rw [hargs] at hrel
        generalize hus : args.toList.map a.eval = us at hrel
        cases hrel with
        | cons h1 h2 =>
          cases h2
          obtain ⟨w', hrun, g', hw⟩ := hs g w _ ats ty hts hr h1
          unfold Gives
          simp only [execOp, resolve, Sem.run_bind, Sem.run_pure, Result.andThen_ok, invoke, builtin, back a _ hus, hrun]
          exact ⟨g', hw.wide fun b e => e.elim⟩
    case value f =>
      split at h <;> try (cases h; done)
      rename_i fid first caps hf
      obtain ⟨hen, v, H', n', D, h', hn, hs⟩ := callO_sound hE hI h
      refine ⟨v, H', n', D, h', hn, fun g a w hr hρ hnb hn0 => ?_⟩
      have h1 := hρ f
      rw [hf] at h1
      generalize hfe : a.eval f = u at h1
      cases h1 with
      | fn _ _ _ vs us fx fy e1 e2 e3 e4 e5 e6 =>
        have r1 : RelVs g w first vs.toList := RelVs.get (by simp [e1]) fun j x v a1 a2 => by
          have := e3 j x a1
          rw [Array.getElem?_toList, this] at a2
          cases a2; exact e4 j x a1
        have r2 : RelVs g w caps us.toList := RelVs.get (by simp [e2]) fun j x v a1 a2 => by
          have := e5 j x a1
          rw [Array.getElem?_toList, this] at a2
          cases a2; exact e6 j x a1
        have hrel := (r1.append (RelVs.of hρ args.toList)).append r2
        have hcall := hs g w _ hr hrel hn0
        have hargs : (vs ++ args.map a.eval ++ us) = (vs.toList ++ args.toList.map a.eval ++ us.toList).toArray := by
          apply Array.ext'; simp
        unfold Gives
        simp only [execOp, resolve, hfe, Deferred.ofValue, Sem.run_bind, Sem.run_pure, Result.andThen_ok, invoke, hargs, enterable_run hen]
        refine hcall.mono fun en w'' ⟨u, e, g', hw⟩ => ⟨u, e, g', hw.wide fun b hb => .inr hb⟩
end Go.VI

end
section
/- Slices that are done with; a region in its own order. -/
namespace Go.VI
set_option linter.unusedVariables false
set_option linter.unusedSimpArgs false
variable {R : Type} {P : Program}

theorem dropB_mem {H : Hp} {b : Nat} : ∀ {l : List Nat}, b ∈ l → dropB H l b = .gone
  | c :: l, h => by
    simp only [dropB]
    by_cases e : b = c
    · subst e; exact upd_same _ _ _
    · rw [upd_ne _ _ e]
      exact dropB_mem ((List.mem_cons.1 h).resolve_left e)
theorem dropB_ne {H : Hp} {b : Nat} : ∀ {l : List Nat}, b ∉ l → dropB H l b = H b
  | [], _ => rfl
  | c :: l, h => by
    simp only [dropB]
    have e : b ≠ c := fun e => h (e ▸ List.mem_cons_self)
    rw [upd_ne _ _ e]
    exact dropB_ne fun h' => h (List.mem_cons_of_mem _ h')

open Classical in
/-- What is known behind rows are given up. -/
noncomputable def Gh.dropN (g : Gh) (l : List Nat) : Gh := ⟨fun r => g.F r ∨ ∃ b ∈ l, g.G b ≠ .none ∧ ∃ c, g.i b = some (r, c), g.i, fun b => if b ∈ l ∧ g.G b ≠ .none then .dead else g.G b⟩

open Classical in
theorem drop_ext {g : Gh} {H : Hp} {w : World} {l : List Nat} (hr : HRel g H w) (hl : ∀ b ∈ l, H b ≠ .gone) :
    Ext g H w l (g.dropN l) (dropB H l) w ∧ HRel (g.dropN l) (dropB H l) w ∧ (∀ b, g.G b = .none → (g.dropN l).G b ≠ .none → False) := by
  have hG : ∀ b, b ∈ l → g.G b ≠ .none → (g.dropN l).G b = .dead := fun b hb hn => by
    show (if b ∈ l ∧ g.G b ≠ .none then Kd.dead else g.G b) = _
    rw [if_pos ⟨hb, hn⟩]
  have hG' : ∀ b, b ∉ l → (g.dropN l).G b = g.G b := fun b hb => by
    show (if b ∈ l ∧ g.G b ≠ .none then Kd.dead else g.G b) = _
    rw [if_neg fun h => hb h.1]
  have live : ∀ b, (g.dropN l).G b ≠ .none → (g.dropN l).G b ≠ .dead → b ∉ l ∧ g.G b ≠ .none ∧ g.G b ≠ .dead := fun b h1 h2 => by
    by_cases hb : b ∈ l
    · by_cases hn : g.G b = .none
      · exfalso
        have e : (g.dropN l).G b = g.G b := by
          show (if b ∈ l ∧ g.G b ≠ .none then Kd.dead else g.G b) = _
          rw [if_neg fun h => h.2 hn]
        exact h1 (by rw [e]; exact hn)
      · exact absurd (hG b hb hn) h2
    · rw [hG' b hb] at h1 h2; exact ⟨hb, h1, h2⟩
  have he : Ext g H w l (g.dropN l) (dropB H l) w :=
    ⟨fun r h => .inl h, fun r h => by
      rcases h with h | h
      · exact .inl h
      · exact .inr (.inl h), Nat.le_refl _, fun _ _ _ => rfl, fun b hb _ => hl b hb, fun b hn hb => ⟨hG' b hb, rfl, dropB_ne hb⟩, fun b hb hn r c h => .inl ⟨c, h⟩, fun b hb hn => .inl (hG b hb hn), (fun b r c h h' => by
        by_cases hb : b ∈ l
        · exact absurd h (live_of hr (hl b hb)).1
        · rw [hG' b hb] at h'; exact absurd h h'), .refl w⟩
  refine ⟨he, ⟨fun b => ?_, fun b hb => ?_, fun b b' r c c' h1 h2 h3 h4 h5 h6 => ?_, fun b r c h1 h2 h3 => ?_, fun r hF => ?_⟩, fun b h h' => ?_⟩
  · by_cases hb : b ∈ l
    · rw [dropB_mem hb]; exact trivial
    · rw [dropB_ne hb]
      by_cases hg : H b = .gone
      · rw [hg]; exact trivial
      · exact RelB.step he hr hg hb
  · by_cases hbl : b ∈ l
    · exact (hb (dropB_mem hbl)).elim
    · rw [hG' b hbl, dropB_ne hbl]
      exact hr.kd b (fun h => hb (by rw [dropB_ne hbl]; exact h))
  · obtain ⟨_, a1, a2⟩ := live b h3 h4
    obtain ⟨_, a3, a4⟩ := live b' h5 h6
    exact hr.inj b b' r c c' h1 h2 a1 a2 a3 a4
  · obtain ⟨hb, a1, a2⟩ := live b h2 h3
    have := hr.disj b r c h1 a1 a2
    refine ⟨fun hF => ?_, this.2⟩
    rcases hF with hF | ⟨b', hb', hn', c', hi'⟩
    · exact this.1 hF
    · have hl' := live_of hr (hl b' hb')
      have := hr.inj b b' r c c' h1 hi' a1 a2 hl'.1 hl'.2
      exact hb (this ▸ hb')
  · rcases hF with hF | ⟨b', hb', hn', c', hi'⟩
    · exact hr.ex r hF
    · have hl' := live_of hr (hl b' hb')
      exact (hr.disj b' r c' hi' hl'.1 hl'.2).2
  · by_cases hb : b ∈ l
    · exact (live_of hr (hl b hb)).1 h
    · rw [hG' b hb] at h'; exact h' h

theorem freeze1_sound {g g' : Gh} {H H' : Hp} {w : World} {D : List Nat} {v : AV} {u : Value} (hr : HRel g H w) (he : Ext g H w D g' H' w) (h : RelV g w v u) (hF : ∀ b ∈ frees1 v, g.G b ≠ .none → ∀ r c, g.i b = some (r, c) → g'.F r) : RelV g' w (borrow1 H v) u := by
  have hm : RelV g' w v u := h.step he hr
  have arr : ∀ {b k' : Nat} {t : Ty} {l : List t.den}, b ∈ frees1 v → H b = .arr t l k' → g.G b = .arr t k' l.length ∧ ∀ i y, l[i]? = some y → ∃ r c', g.i b = some (r, c') ∧ g'.F r ∧ ∃ c, RelT g'.F w t y c ∧ ∀ j v, c[j]? = some v → w.cell? ⟨r, i * t.size + j, none⟩ = some v := by
    intro b k' t l hbm hb
    have hs : H b ≠ .gone := by rw [hb]; exact fun h => by cases h
    obtain ⟨hn, hd⟩ := live_of hr hs
    have hG : g.G b = .arr t k' l.length := by rw [hr.kd b (fun e => hs e), hb]; rfl
    refine ⟨hG, fun i y hy => ?_⟩
    have hB := hr.blk b
    rw [hb] at hB
    rcases hB with ⟨_, rfl⟩ | ⟨r', cap', vs, e, h1, h2, h3, h4, h5⟩
    · simp at hy
    obtain ⟨c, a1, a2⟩ := h5 i y hy
    exact ⟨r', cap', h1, hF b hbm hn r' cap' h1, c, a1.mono he.mono (fun _ _ => rfl), fun j v hj => by rw [cell_at h2]; exact a2 j v hj⟩
  cases v <;> try exact hm
  · rename_i b k
    simp only [borrow1]
    split
    · rename_i t l k' hb
      cases hk : Nat.beq k k' with
      | false => exact .undef _
      | true =>
        have hk := Nat.eq_of_beq_eq_true hk
        obtain ⟨hG, hc⟩ := arr (List.mem_singleton.2 rfl) hb
        cases h with
        | own _ _ _ hn0 hs0 ha =>
          obtain ⟨a, cap, rfl, hle, hor⟩ := (ha _ _ _ hG).2 hk
          refine .vals _ _ _ ⟨a, cap, rfl, hle, fun i y hy => ?_⟩
          obtain ⟨r, c', h1, hF, c, c1, c2⟩ := hc i y hy
          rcases hor with ⟨h6, _⟩ | ⟨r2, h6, rfl⟩
          · rw [h1] at h6; cases h6
          rw [h1] at h6; cases h6
          exact ⟨_, rfl, hF, c, c1, fun j v hj => by rw [add_mk, Nat.zero_add]; exact c2 j v hj⟩
    · exact .undef _
  · rename_i b off len k lim
    simp only [borrow1]
    split
    · rename_i t l k' hb
      cases hk : Nat.beq k k' with
      | false => exact .undef _
      | true =>
        have hk := Nat.eq_of_beq_eq_true hk
        obtain ⟨hG, hc⟩ := arr (List.mem_singleton.2 rfl) hb
        cases h with
        | sref _ _ _ _ _ _ hn0 hs0 ha =>
          obtain ⟨hofl, a, cap, rfl, hle, _, hor⟩ := (ha _ _ _ hG).2 hk
          have hll : ((l.drop off).take len).length = len := by simp; omega
          refine .vals _ _ _ ⟨a, cap, by rw [hll], by rw [hll]; exact hle, fun i y hy => ?_⟩
          have hi : i < len := by
            have := (List.getElem?_eq_some_iff.1 hy).1
            rw [hll] at this; exact this
          rw [List.getElem?_take, if_pos hi, List.getElem?_drop] at hy
          obtain ⟨r, c', h1, hF, c, c1, c2⟩ := hc _ y hy
          obtain ⟨r2, c3, h6, rfl⟩ := hor (by omega)
          rw [h1] at h6; cases h6
          exact ⟨_, rfl, hF, c, c1, fun j v hj => by
            rw [add_mk]
            have := c2 j v hj
            rw [← this]; congr 2; rw [Nat.add_mul]; omega⟩
    · exact .undef _

theorem freezeA_sound {g g' : Gh} {H H' : Hp} {w : World} {D : List Nat} {cs : List AV} {us : List Value} (hr : HRel g H w) (he : Ext g H w D g' H' w) (h : RelC g w cs us) (hF : ∀ b ∈ cs.flatMap frees1, g.G b ≠ .none → ∀ r c, g.i b = some (r, c) → g'.F r) : RelC g' w (cs.map (borrow1 H)) us := by
  refine ⟨by simp [h.1], fun j c v h1 h2 => ?_⟩
  rw [List.getElem?_map] at h1
  cases hx : cs[j]? with
  | none => rw [hx] at h1; cases h1
  | some c0 =>
    rw [hx] at h1
    cases h1
    exact freeze1_sound hr he (h.2 j c0 v hx h2) fun b hb => hF b (List.mem_flatMap.2 ⟨c0, List.mem_of_getElem? hx, hb⟩)

/-- One value's blocks. -/
def freesP : AV → List Nat
  | .agg cs => cs.flatMap frees1
  | v => frees1 v
theorem freezeP_sound {g g' : Gh} {H H' : Hp} {w : World} {D : List Nat} {v : AV} {u : Value} (hr : HRel g H w) (he : Ext g H w D g' H' w) (h : RelV g w v u) (hF : ∀ b ∈ freesP v, g.G b ≠ .none → ∀ r c, g.i b = some (r, c) → g'.F r) : RelV g' w (borrow H v) u := by
  cases v <;> try exact freeze1_sound hr he h hF
  rename_i cs
  have e := h.isAgg rfl
  have := RelV.ofAgg (freezeA_sound hr he (h.cells rfl) hF)
  rw [Array.toArray_toList, ← e] at this
  exact this

theorem there1_spec {H : Hp} {v : AV} (h : there1 H v = true) : ∀ b ∈ frees1 v, H b ≠ .gone := by
  intro b hb
  cases v <;> simp only [frees1] at hb <;> try (cases hb; done)
  all_goals
    rw [List.mem_singleton] at hb; subst hb
    simp only [there1] at h
    split at h
    · rename_i e; rw [e]; exact fun h => by cases h
    · cases h

theorem freeze_went {g : Gh} {H : Hp} {w : World} {v : AV} {u : Value} (hr : HRel g H w) (hv : RelV g w v u) (ht : there H v = true) :
    ∃ g', Ext g H w (frees v) g' (dropB H (frees v)) w ∧ HRel g' (dropB H (frees v)) w ∧ RelV g' w (freezeV H v) u ∧ (∀ b, g.G b = .none → g'.G b ≠ .none → False) := by
  have hseen : ∀ b ∈ frees v, H b ≠ .gone := by
    intro b hb
    cases v <;> first
      | (simp [frees, frees1] at hb; done)
      | skip
    · exact there1_spec (v := .own _ _) ht b hb
    · rename_i b0 off len k lim
      exact there1_spec (v := .sref b0 off len k lim) ht b hb
    · rename_i cs
      have hb : b ∈ cs.flatMap frees1 := hb
      obtain ⟨c, hc, hb⟩ := List.mem_flatMap.1 hb
      exact there1_spec (List.all_eq_true.1 ht c hc) b hb
    · rename_i vs
      obtain ⟨c, hc, hb⟩ := List.mem_flatMap.1 (show b ∈ vs.flatMap _ from hb)
      have h1 := List.all_eq_true.1 ht c hc
      cases c <;> first
        | (simp [frees1] at hb; done)
        | skip
      · exact there1_spec (v := .own _ _) h1 b hb
      · rename_i b0 off len k lim
        exact there1_spec (v := .sref b0 off len k lim) h1 b hb
      · rename_i cs
        obtain ⟨c, hc, hb⟩ := List.mem_flatMap.1 (show b ∈ cs.flatMap frees1 from hb)
        exact there1_spec (List.all_eq_true.1 h1 c hc) b hb
  obtain ⟨he, h2, h3⟩ := drop_ext hr hseen
  refine ⟨_, he, h2, ?_, h3⟩
  have hF : ∀ b ∈ frees v, g.G b ≠ .none → ∀ r c, g.i b = some (r, c) → (g.dropN (frees v)).F r := fun b hb hn r c hi => .inr ⟨b, hb, hn, c, hi⟩
  cases v <;> try exact freezeP_sound hr he hv hF
  rename_i vs
  cases hv with
  | tup _ us f h1 h2' h3' =>
    simp only [freezeV]
    refine .tup _ _ f (by simp [h1]) (fun j c hj => ?_) (fun j c hj => ?_)
    · rw [List.getElem?_map] at hj
      cases hx : vs[j]? with
      | none => rw [hx] at hj; cases hj
      | some c0 => exact h2' j c0 hx
    · rw [List.getElem?_map] at hj
      cases hx : vs[j]? with
      | none => rw [hx] at hj; cases hj
      | some c0 =>
        rw [hx] at hj
        cases hj
        refine freezeP_sound hr he (h3' j c0 hx) fun b hb => hF b ?_
        refine List.mem_flatMap.2 ⟨c0, List.mem_of_getElem? hx, ?_⟩
        cases c0 <;> exact hb

theorem thawB_went {g : Gh} {w : World} {H : Hp} {b c nb n : Nat} {ty : Ty} {v : AV} {u : Value} {cs : List AV} (hr : HRel g H w) (hnb : g.G nb = .none) (hb : H b = .box cs) (hc : cs[c]? = some .nils) (hv : RelV g w v u) :
    ∃ g', Went g H w (fun b => b = nb ∨ (n ≤ b ∧ b < n)) v (upd (upd H nb (.arr ty [] 0)) b (.box (cs.set c (.own nb 0)))) [b] u w g' := by
  have hG : g.G b = .box := by rw [hr.kd b (fun e => by rw [hb] at e; cases e), hb]; rfl
  have hne : b ≠ nb := fun e => by rw [e, hnb] at hG; cases hG
  obtain ⟨x1, x2, x3⟩ := HRel.allocNil (t := ty) hr hnb (rfl : w.heap = w.heap)
  have hb1 : upd H nb (.arr ty [] 0) b = .box cs := by rw [upd_ne _ _ hne]; exact hb
  have hB := x2.blk b
  rw [hb1] at hB
  obtain ⟨r, k, vs, e, f1, f2, f3⟩ := hB
  have hG1 : (g.new nb (.arr ty 0 0) none).G b = .box := by show upd g.G nb _ b = _; rw [upd_ne _ _ hne]; exact hG
  obtain ⟨y1, y2, y3⟩ := HRel.write (w' := w) (blk := .box (cs.set c (.own nb 0))) x2 (by rw [hb1]; exact fun h => by cases h) f1 (fun h => by cases h) rfl (fun _ _ => rfl) (.inl ⟨hG1, rfl⟩) (fun he => by
    refine ⟨r, k, vs, e, f1, f2, ?_⟩
    have f4 : RelC _ w cs vs.toList := f3.step he x2
    refine ⟨by rw [f4.1, List.length_set], fun j x y hx hy => ?_⟩
    by_cases hj : c = j
    · subst hj
      have hlt := (List.getElem?_eq_some_iff.1 hc).1
      rw [List.getElem?_set_self hlt] at hx
      cases hx
      have h5 := f4.2 c _ y hc hy
      cases h5
      have hG2 : upd (g.new nb (.arr ty 0 0) none).G b (kindOf (.box (cs.set c (.own nb 0)))) nb = .arr ty 0 0 := by rw [upd_ne _ _ (Ne.symm hne)]; exact Gh.new_G ..
      refine .own _ _ _ (by show upd _ _ _ nb ≠ _; rw [hG2]; exact fun h => by cases h) ⟨_, _, _, rfl⟩ (fun t' k' n' hG' => ?_)
      have hG' : upd (g.new nb (.arr ty 0 0) none).G b (kindOf (.box (cs.set c (.own nb 0)))) nb = .arr t' k' n' := hG'
      rw [hG2] at hG'; cases hG'
      exact ⟨Nat.le_refl _, fun _ => ⟨_, _, rfl, Nat.le_refl _, .inl ⟨Gh.new_i (k := .arr ty 0 0) .., rfl⟩⟩⟩
    · rw [List.getElem?_set_ne hj] at hx
      exact f4.2 j x y hx hy)
  refine ⟨_, (x1.trans y1 x2), y2, (hv.step x1 hr).step y1 x2, fun b' h1 h2 => ?_⟩
  by_cases hn : (g.new nb (.arr ty 0 0) none).G b' = .none
  · exact (y3 b' hn h2).elim
  · exact .inl (x3 b' h1 hn)

theorem aopT_sound {E : FuncId → Option Entry} {inl : Inl R} (hE : ∀ f e, E f = some e → Holds P f e) (hI : InlOk P inl) {thaw : Bool} {o : Oper} {ρ : Operand → AV} {H : Hp} {nb n : Nat} {κ : KO R} {r : R}
    (h : aopT P E inl thaw o ρ H nb n κ = some r) : ∃ v H' n' D, κ v H' n' D = some r ∧ OpOk P o ρ H nb n n' v H' D := by
  unfold aopT at h
  rcases br_some h with ⟨_, h'⟩ | ⟨_, h'⟩ <;> clear h
  case inr => exact aop_sound hE hI h'
  obtain ⟨dst, op, ty, pos, aft, gd⟩ := o
  have core : ∀ (x : Operand), (∀ (a : Act) (w : World), (execOp a.eval ⟨dst, op, ty, pos, aft, gd⟩).run P w = .ok (.value (a.eval x)) w) → thawO P ty (ρ x) H nb n κ = some r → ∃ v H' n' D, κ v H' n' D = some r ∧ OpOk P ⟨dst, op, ty, pos, aft, gd⟩ ρ H nb n n' v H' D := by
    intro x hx h
    unfold thawO at h
    split at h
    · rename_i hv
      split at h <;> try (cases h; done)
      rename_i t ht
      refine ⟨_, _, _, _, h, Nat.le_refl _, fun g a w hr hρ hnb _ => ?_⟩
      have h1 := hρ x
      rw [hv] at h1
      unfold Gives
      rw [hx a w]
      generalize hu : a.eval x = u at h1
      cases h1
      obtain ⟨x1, x2, x3⟩ := HRel.allocNil (t := t) hr hnb (rfl : w.heap = w.heap)
      refine ⟨_, x1, x2, ?_, fun b h1 h2 => .inl (x3 b h1 h2)⟩
      refine .own _ _ _ (by rw [Gh.new_G]; exact fun h => by cases h) ⟨_, _, _, rfl⟩ (fun t' k' n' hG' => ?_)
      rw [Gh.new_G] at hG'; cases hG'
      exact ⟨Nat.le_refl _, fun _ => ⟨_, _, rfl, Nat.le_refl _, .inl ⟨Gh.new_i .., rfl⟩⟩⟩
    · rename_i b0 i0 o0 g0 hv
      have same : κ (.ptr b0 i0 o0 g0) H n [] = some r → ∃ v H' n' D, κ v H' n' D = some r ∧ OpOk P ⟨dst, op, ty, pos, aft, gd⟩ ρ H nb n n' v H' D := fun h => by
        refine ⟨_, _, _, _, h, Nat.le_refl _, fun g a w hr hρ _ _ => ?_⟩
        unfold Gives
        rw [hx a w, ← hv]
        exact ⟨g, Went.same hr (hρ x)⟩
      split at h
      · rename_i cs hb
        split at h
        · rename_i c ty' _
          unfold thawB at h
          split at h
          · rename_i hc
            refine ⟨_, _, _, _, h, Nat.le_refl _, fun g a w hr hρ hnb _ => ?_⟩
            unfold Gives
            rw [hx a w]
            have h1 := hρ x
            rw [hv] at h1
            exact thawB_went hr hnb hb hc h1
          · exact same h
        · exact same h
      · exact same h
    · refine ⟨_, _, _, _, h, Nat.le_refl _, fun g a w hr hρ _ _ => ?_⟩
      unfold Gives
      rw [hx a w]
      exact ⟨g, Went.same hr (hρ x)⟩
  cases op <;> simp only at h' <;> try (cases h'; done)
  · exact core _ (fun a w => rfl) h'
  · exact core _ (fun a w => rfl) h'
  · rename_i t ad x
    unfold thawS at h'
    split at h' <;> try (cases h'; done)
    rename_i hv
    split at h' <;> try (cases h'; done)
    rename_i tt ht
    obtain ⟨H', D, hk, hs⟩ := storeO_sound h'
    refine ⟨_, H', n, D, hk, Nat.le_refl _, fun g a w hr hρ hnb _ => ?_⟩
    have h1 := hρ x
    rw [hv] at h1
    obtain ⟨x1, x2, x3⟩ := HRel.allocNil (t := tt) hr hnb (rfl : w.heap = w.heap)
    have hown : RelV (g.new nb (.arr tt 0 0) none) w (.own nb 0) (a.eval x) := by
      generalize a.eval x = u at h1
      cases h1
      refine .own _ _ _ (by rw [Gh.new_G]; exact fun h => by cases h) ⟨_, _, _, rfl⟩ (fun t' k' n' hG' => ?_)
      rw [Gh.new_G] at hG'; cases hG'
      exact ⟨Nat.le_refl _, fun _ => ⟨_, _, rfl, Nat.le_refl _, .inl ⟨Gh.new_i .., rfl⟩⟩⟩
    obtain ⟨w', q1, g', q2⟩ := hs _ w _ _ x2 ((hρ ad).step x1 hr) hown
    refine Gives.unit (s := Instr.storeAt t (a.eval ad) (a.eval x)) rfl q1 ⟨g', ?_⟩
    have q3 := x1.trans q2.ext x2
    rw [List.append_nil] at q3
    refine ⟨q3, q2.rel, q2.val, fun b' e1 e2 => ?_⟩
    by_cases hn : (g.new nb (.arr tt 0 0) none).G b' = .none
    · exact (q2.new b' hn e2).elim
    · exact .inl (x3 b' e1 hn)

theorem freezeB_went {g : Gh} {H : Hp} {w : World} {b k : Nat} {cs : List AV} {u : Value} (hr : HRel g H w) (hb : H b = .box cs) (hv : RelV g w (.ptr b 0 0 k) u) :
    ∃ g', Ext g H w [b] g' (dropB H [b]) w ∧ HRel g' (dropB H [b]) w ∧ RelV g' w (.cptr cs) u ∧ (∀ b, g.G b = .none → g'.G b ≠ .none → False) := by
  have hG : g.G b = .box := by rw [hr.kd b (fun e => by rw [hb] at e; cases e), hb]; rfl
  obtain ⟨he, h2, h3⟩ := drop_ext (l := [b]) hr (fun b' h => by rw [List.mem_singleton.1 h, hb]; exact fun h => by cases h)
  refine ⟨_, he, h2, ?_, h3⟩
  have hB := hr.blk b
  rw [hb] at hB
  obtain ⟨r, c, vs, e, f1, f2, f3⟩ := hB
  cases hv with
  | ptr _ _ _ _ _ hn hp ha hbx hi =>
    obtain ⟨r', c', q1, rfl⟩ := hbx hG rfl
    rw [f1] at q1
    cases q1
    have f4 : RelC _ w cs vs.toList := f3.step he hr
    have at_ : ∀ j c, cs[j]? = some c → ∃ v, vs.toList[j]? = some v := fun j c hj => by
      have hlt := (List.getElem?_eq_some_iff.1 hj).1
      exact ⟨_, List.getElem?_eq_getElem (by rw [f4.1]; exact hlt)⟩
    refine .cptr _ _ (fun j => (vs.toList[j]?).getD Go.undef) (fun j c hj => ⟨.inr ⟨b, List.mem_singleton.2 rfl, hn, _, f1⟩, ?_⟩) (fun j c hj => ?_)
    · obtain ⟨v, hv⟩ := at_ j c hj
      rw [add_mk, cell_at f2, hv, Nat.zero_add, ← Array.getElem?_toList, hv]; rfl
    · obtain ⟨v, hv⟩ := at_ j c hj
      rw [hv]
      exact f4.2 j c v hj hv

theorem post_sound {o : Oper} {ρ : Operand → AV} {H H' : Hp} {nb n n' : Nat} {v : AV} {D : List Nat} {freeze : Bool} {κ : KO R} {r : R} (hk : post freeze κ v H' n' D = some r) (h : OpOk P o ρ H nb n n' v H' D) :
    ∃ v' H'' D', κ v' H'' n' D' = some r ∧ OpOk P o ρ H nb n n' v' H'' D' := by
  unfold post at hk
  rcases br_some hk with ⟨_, hk'⟩ | ⟨_, hk'⟩ <;> clear hk
  case inr => exact ⟨_, _, _, hk', h⟩
  split at hk'
  · rename_i b0 i0 o0 k0
    split at hk'
    · rename_i cs hb
      rcases br_some hk' with ⟨h1, hk⟩ | ⟨_, hk⟩
      · have h1 : (Nat.beq i0 0 && Nat.beq o0 0) = true := h1
        rw [Bool.and_eq_true] at h1
        have hi := Nat.eq_of_beq_eq_true h1.1
        have ho := Nat.eq_of_beq_eq_true h1.2
        subst hi ho
        refine ⟨_, _, _, hk, h.1, fun g a w hr hρ hnb hn => (h.2 g a w hr hρ hnb hn).mono fun u w' ⟨g', hw⟩ => ?_⟩
        obtain ⟨g2, e1, e2, e3, e4⟩ := freezeB_went hw.rel hb hw.val
        refine ⟨g2, hw.ext.trans e1 hw.rel, e2, e3, fun b h1 h2 => ?_⟩
        by_cases hb : g'.G b = .none
        · exact (e4 b hb h2).elim
        · exact hw.new b h1 hb
      · exact ⟨_, _, _, hk, h⟩
    · exact ⟨_, _, _, hk', h⟩
  obtain ⟨ht, hk⟩ := br_none hk'
  refine ⟨_, _, _, hk, h.1, fun g a w hr hρ hnb hn => (h.2 g a w hr hρ hnb hn).mono fun u w' ⟨g', hw⟩ => ?_⟩
  obtain ⟨g2, e1, e2, e3, e4⟩ := freeze_went hw.rel hw.val ht
  refine ⟨g2, hw.ext.trans e1 hw.rel, e2, e3, fun b h1 h2 => ?_⟩
  by_cases hb : g'.G b = .none
  · exact (e4 b hb h2).elim
  · exact hw.new b h1 hb

theorem step_sound {E : FuncId → Option Entry} {inl : Inl R} (hE : ∀ f e, E f = some e → Holds P f e) (hI : InlOk P inl) {thaw freeze : Bool} {o : Oper} {ρ : Operand → AV} {H : Hp} {nb n : Nat} {κ : KO R} {r : R}
    (h : aopT P E inl thaw o ρ H nb n (post freeze κ) = some r) : ∃ v H' n' D, κ v H' n' D = some r ∧ OpOk P o ρ H nb n n' v H' D := by
  obtain ⟨v, H', n', D, hk, ho⟩ := aopT_sound hE hI h
  obtain ⟨v', H'', D', hk', ho'⟩ := post_sound hk ho
  exact ⟨v', H'', n', D', hk', ho'⟩

/-- A state, and the machine's. -/
structure Rel (g : Gh) (st : St) (a : Act) (w : World) : Prop where
  tm : ∀ i, RelV g w (st.tm i) (a.tmps.getD i Go.undef)
  nt : a.tmps.size = st.nt
  df : a.defers = []
  hp : HRel g st.hp w
  fr : ∀ b, st.n ≤ b → g.G b = .none

theorem Rel.eval {g : Gh} {st : St} {a : Act} {w : World} (h : Rel g st a w) (x : Operand) : RelV g w (evalO st.tm x) (a.eval x) := by
  cases x with
  | tmp t => exact h.tm t
  | const v => exact const_sound v
  | func f => exact .fn _ _ _ _ _ (fun _ => Go.undef) (fun _ => Go.undef) rfl rfl (fun j c h => by simp at h) (fun j c h => by simp at h) (fun j c h => by simp at h) (fun j c h => by simp at h)
  | global i => exact .undef _

theorem put_tm {g : Gh} {w : World} {tm : Nat → AV} {a : Act} {dst : Option Tmp} {v : AV} {u : Value} {nt : Nat} (h : ∀ i, RelV g w (tm i) (a.tmps.getD i Go.undef)) (hnt : a.tmps.size = nt) (hd : dstOk nt dst = true) (hv : RelV g w v u) :
    ∀ i, RelV g w (setDst dst tm v i) ((a.put dst u).tmps.getD i Go.undef) := by
  intro i
  cases dst with
  | none => exact h i
  | some d =>
    have hd : d < nt := by
      have : Nat.blt d nt = true := hd
      exact Nat.le_of_ble_eq_true this
    simp only [setDst, Act.put]
    by_cases e : i = d
    · subst e
      rw [upd_same]
      have : (a.tmps.setIfInBounds i u).getD i Go.undef = u := by simp [Array.getD, hnt, hd]
      rw [this]; exact hv
    · rw [upd_ne _ _ e]
      have : (a.tmps.setIfInBounds d u).getD i Go.undef = a.tmps.getD i Go.undef := by
        simp [Array.getD_eq_getD_getElem?, Array.getElem?_setIfInBounds_ne (Ne.symm e)]
      rw [this]; exact h i
theorem put_size (a : Act) (dst : Option Tmp) (u : Value) : (a.put dst u).tmps.size = a.tmps.size := by cases dst <;> simp [Act.put]
theorem put_defers (a : Act) (dst : Option Tmp) (u : Value) : (a.put dst u).defers = a.defers := by cases dst <;> rfl

/-- From one state to another: what is written is told, new numbers come from lo on. -/
structure Goes (lo : Nat) (g : Gh) (st : St) (w : World) (g' : Gh) (st' : St) (w' : World) : Prop where
  ext : ∃ D, st'.dirty = D ++ st.dirty ∧ Ext g st.hp w D g' st'.hp w'
  new : ∀ b, g.G b = .none → g'.G b ≠ .none → lo ≤ b
  le : st.n ≤ st'.n
  nt : st'.nt = st.nt

theorem Goes.trans {lo : Nat} {g g1 g2 : Gh} {st st1 st2 : St} {w w1 w2 : World} (h : Goes lo g st w g1 st1 w1) (h1 : Goes lo g1 st1 w1 g2 st2 w2) (hr : HRel g1 st1.hp w1) : Goes lo g st w g2 st2 w2 := by
  obtain ⟨D, e, x⟩ := h.ext
  obtain ⟨D1, e1, x1⟩ := h1.ext
  refine ⟨⟨D1 ++ D, by rw [e1, e, List.append_assoc], x.trans x1 hr⟩, fun b hb hb2 => ?_, Nat.le_trans h.le h1.le, by rw [h1.nt, h.nt]⟩
  by_cases hb1 : g1.G b = .none
  · exact h1.new b hb1 hb2
  · exact h.new b hb hb1
theorem Goes.low {lo lo' : Nat} {g g' : Gh} {st st' : St} {w w' : World} (h : Goes lo g st w g' st' w') (hl : lo' ≤ lo) : Goes lo' g st w g' st' w' :=
  ⟨h.ext, fun b h1 h2 => Nat.le_trans hl (h.new b h1 h2), h.le, h.nt⟩
end Go.VI

end
section
/- A region in its own order; what an operation looks at. -/
namespace Go.VI
set_option linter.unusedVariables false
set_option linter.unusedSimpArgs false
variable {R : Type} {P : Program}

theorem upd_eq {α : Type} {f : Nat → α} {i : Nat} {v : α} (h : f i = v) : upd f i v = f := by
  funext j
  by_cases e : j = i
  · subst e; rw [upd_same, h]
  · exact upd_ne _ _ e

/-- Whether an operation is wanted, and its guard's slot. -/
theorem wanted_none {o : Oper} {y : Nat → Option Bool} (h : o.guard = none) : Region.wanted o y = true := by simp [Region.wanted, h]
theorem yielded_bool {ops : Array Oper} {a : Act} {gi t : Nat} {b : Bool} (h : (ops[gi]?).bind (·.dst) = some t) (hv : a.tmps.getD t Go.undef = .bool b) : yielded ops a.tmps gi = some b := by
  have : a.tmps[t]? = some (.bool b) := by
    rw [Array.getD_eq_getD_getElem?] at hv
    cases e : a.tmps[t]? with
    | none => rw [e] at hv; cases hv
    | some v => rw [e] at hv; simp at hv; rw [hv]
  simp only [yielded, h, Option.bind_some, this]
theorem yielded_tup {ops : Array Oper} {a : Act} {gi t : Nat} (h : (ops[gi]?).bind (·.dst) = some t) (hv : a.tmps.getD t Go.undef = .tuple #[]) : yielded ops a.tmps gi = none := by
  simp only [yielded, h, Option.bind_some]
  rw [Array.getD_eq_getD_getElem?] at hv
  cases e : a.tmps[t]? with
  | none => rfl
  | some v => rw [e] at hv; simp at hv; rw [hv]

theorem relV_tup0 {g : Gh} {w : World} {v : Value} (h : RelV g w (.tup []) v) : v = .tuple #[] := by
  cases h with
  | tup _ vs f h1 _ _ =>
    have : vs = #[] := Array.eq_empty_of_size_eq_zero h1
    rw [this]
theorem relV_undef (g : Gh) (w : World) : RelV g w (.tup []) Go.undef := RelVs.tup .nil

/-- What is asked of a state in the middle of a region: the numbers of the operations to come are not taken. -/
structure Mid (g : Gh) (st : St) (a : Act) (w : World) (base j len : Nat) : Prop where
  tm : ∀ i, RelV g w (st.tm i) (a.tmps.getD i Go.undef)
  nt : a.tmps.size = st.nt
  df : a.defers = []
  hp : HRel g st.hp w
  fr : ∀ b, st.n ≤ b → g.G b = .none
  sl : ∀ i, j ≤ i → i < len → g.G (base + i) = .none
theorem Mid.rel {g : Gh} {st : St} {a : Act} {w : World} {base j len : Nat} (h : Mid g st a w base j len) : Rel g st a w := ⟨h.tm, h.nt, h.df, h.hp, h.fr⟩

/-- What a region comes to. -/
def EndsQ (lo : Nat) (g : Gh) (st : St) (w : World) (st' : St) (Q : Exit → Act → World → Prop) : Prop :=
  ∀ a' w' g', Rel g' st' a' w' → Goes lo g st w g' st' w' → Q .normal a' w'

theorem Goes.refl (lo : Nat) (g : Gh) (st : St) (w : World) : Goes lo g st w g st w := ⟨⟨[], rfl, .refl ..⟩, fun b h h' => absurd h h', Nat.le_refl _, rfl⟩

theorem selE_ok {E : FuncId → Option Entry} (hE : ∀ f e, E f = some e → Holds P f e) {b : Bool} : ∀ f e, selE b E f = some e → Holds P f e := fun f e h => by
  unfold selE at h
  cases b
  · exact hE f e h
  · cases h
theorem runOps_seq {E : FuncId → Option Entry} {inl : Inl R} (hE : ∀ f e, E f = some e → Holds P f e) (hI : InlOk P inl) {H : Hints} {id base len : Nat} {ops : List Oper} {an : List Nat} {κ : St → Option R} {r : R} :
    ∀ (os : List Oper) (j : Nat) (st : St), (∀ i, os[i]? = ops[j + i]?) → ops.length = len → base + len ≤ st.n → j + os.length = len → runOps P E inl H id ops an false base os j st κ = some r →
      ∃ st', κ st' = some r ∧ st.n ≤ st'.n ∧ ∀ (lo : Nat) (Q : Exit → Act → World → Prop) (g0 g : Gh) (st0 : St) (w0 : World) (a : Act) (w : World), EndsQ lo g0 st0 w0 st' Q → Mid g st a w base j len → Goes lo g0 st0 w0 g st w → (lo ≤ base) →
        wpOps P ops.toArray Q (List.range' j os.length) a w
  | [], j, st, _, _, _, _, h => ⟨st, h, Nat.le_refl _, fun lo Q g0 g st0 w0 a w hQ hm hg _ => hQ _ _ g hm.rel hg⟩
  | o :: os, j, st, hos, hlen, hn, hj, h => by
    have ho : ops[j]? = some o := by have := hos 0; simpa using this.symm
    have hos' : ∀ i, os[i]? = ops[j + 1 + i]? := fun i => by have := hos (i + 1); simpa [Nat.add_assoc, Nat.add_comm 1 i] using this
    have hoA : ops.toArray[j]? = some o := by simpa using ho
    simp only [List.length_cons] at hj
    simp only [List.length_cons, List.range'_succ, wpOps, hoA]
    simp only [runOps] at h
    obtain ⟨hd, h⟩ := br_none h
    -- an operation that is carried out
    have exec : ∀ (st1 : St), st1.tm = st.tm → st1.hp = st.hp → st1.n = st.n → st1.nt = st.nt → st1.dirty = st.dirty → stepOp P E inl H id ops an false base j o st1 (fun st' => runOps P E inl H id ops an false base os (j + 1) st' κ) = some r →
        ∃ st', κ st' = some r ∧ st.n ≤ st'.n ∧ ∀ (lo : Nat) (Q : Exit → Act → World → Prop) (g0 g : Gh) (st0 : St) (w0 : World) (a : Act) (w : World), EndsQ lo g0 st0 w0 st' Q → Mid g st a w base j len → Goes lo g0 st0 w0 g st w → (lo ≤ base) →
          o.wp P a w (wpOps P ops.toArray Q (List.range' (j + 1) os.length)) Q := by
      intro st1 e1 e2 e3 e4 e5 hs
      unfold stepOp at hs
      obtain ⟨hd1, hs⟩ := br_none hs
      have hs : aopT P (selE (memN (H.wk id) j) E) inl (memN (H.thaw id) j) o (evalO st1.tm) st1.hp (base + j) st1.n (post (memN (H.freeze id) j) fun v hp' n' d => runOps P E inl H id ops an false base os (j + 1) { st1 with tm := setDst o.dst st1.tm v, hp := hp', n := n', dirty := d ++ st1.dirty } κ) = some r := hs
      obtain ⟨v, H', n', D, hk, hle, hop⟩ := step_sound (selE_ok hE) hI hs
      obtain ⟨st', hk', hn', hrest⟩ := runOps_seq hE hI os (j + 1) _ hos' hlen (by show base + len ≤ n'; rw [e3] at hle; omega) (by omega) hk
      refine ⟨st', hk', by have : n' ≤ st'.n := hn'; rw [e3] at hle; omega, fun lo Q g0 g st0 w0 a w hQ hm hg hb0 => ?_⟩
      have := hop g a w (by rw [e2]; exact hm.hp) (fun x => by rw [e1]; exact hm.rel.eval x) (hm.sl j (Nat.le_refl _) (by omega)) (fun b hb => hm.fr b (by rw [e3] at hb; exact hb))
      refine this.wp fun u w' ⟨g', hw⟩ => ?_
      refine hrest lo Q g0 g' st0 w0 _ w' hQ ?_ ?_ hb0
      · refine ⟨?_, by rw [put_size, hm.nt]; exact e4.symm, by rw [put_defers]; exact hm.df, hw.rel, fun b hb => ?_, fun i h1 h2 => ?_⟩
        · rw [e1]
          exact put_tm (fun i => (hm.tm i).step (by have := hw.ext; rw [e2] at this; exact this) hm.hp) hm.nt (by rw [← e4]; exact hd1) hw.val
        · by_cases hb' : g'.G b = .none
          · exact hb'
          · exfalso
            have hb : n' ≤ b := hb
            have hbn := hm.fr b (by rw [e3] at hle; omega)
            rcases hw.new b hbn hb' with e | ⟨_, h2⟩
            · rw [e3] at hle; omega
            · omega
        · by_cases hb' : g'.G (base + i) = .none
          · exact hb'
          · exfalso
            have hbn := hm.sl i (by omega) h2
            rcases hw.new _ hbn hb' with e | ⟨h3, _⟩
            · omega
            · rw [e3] at h3; omega
      · refine hg.trans ⟨⟨D, by show D ++ st1.dirty = _; rw [e5], by have := hw.ext; rw [e2] at this; exact this⟩, fun b h1 h2 => ?_, by rw [e3] at hle; exact hle, e4⟩ hm.hp
        rcases hw.new b h1 h2 with e | ⟨h3, _⟩
        · omega
        · rw [e3] at h3; omega
    have skip : ∀ (st1 : St), st1.tm = setDst o.dst st.tm (.tup []) → st1.hp = st.hp → st1.n = st.n → st1.nt = st.nt → st1.dirty = st.dirty → runOps P E inl H id ops an false base os (j + 1) st1 κ = some r →
        ∃ st', κ st' = some r ∧ st.n ≤ st'.n ∧ ∀ (lo : Nat) (Q : Exit → Act → World → Prop) (g0 g : Gh) (st0 : St) (w0 : World) (a : Act) (w : World), EndsQ lo g0 st0 w0 st' Q → Mid g st a w base j len → Goes lo g0 st0 w0 g st w → (lo ≤ base) →
          wpOps P ops.toArray Q (List.range' (j + 1) os.length) (a.put o.dst Go.undef) w := by
      intro st1 e1 e2 e3 e4 e5 hk
      obtain ⟨st', hk', hn', hrest⟩ := runOps_seq hE hI os (j + 1) st1 hos' hlen (by rw [e3]; exact hn) (by omega) hk
      refine ⟨st', hk', by rw [e3] at hn'; exact hn', fun lo Q g0 g st0 w0 a w hQ hm hg hb0 => ?_⟩
      refine hrest lo Q g0 g st0 w0 _ w hQ ?_ ?_ hb0
      · refine ⟨?_, by rw [put_size, hm.nt, e4], by rw [put_defers]; exact hm.df, by rw [e2]; exact hm.hp, fun b hb => hm.fr b (by rw [e3] at hb; exact hb), fun i h1 h2 => hm.sl i (by omega) h2⟩
        rw [e1]
        exact put_tm hm.tm hm.nt hd (relV_undef g w)
      · exact hg.trans ⟨⟨[], by rw [e5]; rfl, by rw [e2]; exact .refl ..⟩, fun b h1 h2 => absurd h1 h2, by rw [e3]; exact Nat.le_refl _, e4⟩ hm.hp
    split at h
    · rename_i hgd
      obtain ⟨st', h1, h2, h3⟩ := exec st rfl rfl rfl rfl rfl h
      refine ⟨st', h1, h2, fun lo Q g0 g st0 w0 a w hQ hm hg hb0 => ?_⟩
      have hw := wanted_none (y := yielded ops.toArray a.tmps) hgd
      rw [if_pos hw]
      exact .inl (h3 lo Q g0 g st0 w0 a w hQ hm hg hb0)
    · rename_i gi want hgd
      split at h <;> try (cases h; done)
      rename_i t ht
      have htA : (ops.toArray[gi]?).bind (·.dst) = some t := by simpa using ht
      split at h <;> try (cases h; done)
      · rename_i b hb
        have e0 : upd st.tm t (.bool b) = st.tm := upd_eq hb
        have hwd : ∀ {g : Gh} {a : Act} {w : World}, Mid g st a w base j len → Region.wanted o (yielded ops.toArray a.tmps) = (b == want) := by
          intro g a w hm
          have htm := hm.tm t
          rw [hb] at htm
          generalize hv : a.tmps.getD t Go.undef = v at htm
          cases htm
          have hy := yielded_bool htA hv
          simp only [Region.wanted, hgd, hy]
          cases b <;> cases want <;> rfl
        have run : b == want → (∃ st1 : St, st1.tm = st.tm ∧ st1.hp = st.hp ∧ st1.n = st.n ∧ st1.nt = st.nt ∧ st1.dirty = st.dirty ∧ stepOp P E inl H id ops an false base j o st1 (fun st' => runOps P E inl H id ops an false base os (j + 1) st' κ) = some r) →
            ∃ st', κ st' = some r ∧ st.n ≤ st'.n ∧ ∀ (lo : Nat) (Q : Exit → Act → World → Prop) (g0 g : Gh) (st0 : St) (w0 : World) (a : Act) (w : World), EndsQ lo g0 st0 w0 st' Q → Mid g st a w base j len → Goes lo g0 st0 w0 g st w → (lo ≤ base) →
              if Region.wanted o (yielded ops.toArray a.tmps) = true then (o.wp P a w (wpOps P ops.toArray Q (List.range' (j + 1) os.length)) Q ∨ Oper.asks P o a w ∧ LetsOut Q) else wpOps P ops.toArray Q (List.range' (j + 1) os.length) (a.put o.dst Go.undef) w := by
          rintro hbw ⟨st1, e1, e2, e3, e4, e5, hs⟩
          obtain ⟨st', h1, h2, h3⟩ := exec st1 e1 e2 e3 e4 e5 hs
          refine ⟨st', h1, h2, fun lo Q g0 g st0 w0 a w hQ hm hg hb0 => ?_⟩
          rw [hwd hm, if_pos hbw]
          exact .inl (h3 lo Q g0 g st0 w0 a w hQ hm hg hb0)
        have pass : ¬ (b == want) = true → (∃ st1 : St, st1.tm = setDst o.dst st.tm (.tup []) ∧ st1.hp = st.hp ∧ st1.n = st.n ∧ st1.nt = st.nt ∧ st1.dirty = st.dirty ∧ runOps P E inl H id ops an false base os (j + 1) st1 κ = some r) →
            ∃ st', κ st' = some r ∧ st.n ≤ st'.n ∧ ∀ (lo : Nat) (Q : Exit → Act → World → Prop) (g0 g : Gh) (st0 : St) (w0 : World) (a : Act) (w : World), EndsQ lo g0 st0 w0 st' Q → Mid g st a w base j len → Goes lo g0 st0 w0 g st w → (lo ≤ base) →
              if Region.wanted o (yielded ops.toArray a.tmps) = true then (o.wp P a w (wpOps P ops.toArray Q (List.range' (j + 1) os.length)) Q ∨ Oper.asks P o a w ∧ LetsOut Q) else wpOps P ops.toArray Q (List.range' (j + 1) os.length) (a.put o.dst Go.undef) w := by
          rintro hbw ⟨st1, e1, e2, e3, e4, e5, hs⟩
          obtain ⟨st', h1, h2, h3⟩ := skip st1 e1 e2 e3 e4 e5 hs
          refine ⟨st', h1, h2, fun lo Q g0 g st0 w0 a w hQ hm hg hb0 => ?_⟩
          rw [hwd hm, if_neg hbw]
          exact h3 lo Q g0 g st0 w0 a w hQ hm hg hb0
        cases b <;> cases want <;> simp only [br] at h
        · refine run rfl ⟨_, ?_, ?_, ?_, ?_, ?_, h⟩ <;> first | exact e0 | rfl
        · refine pass (by decide) ⟨_, ?_, ?_, ?_, ?_, ?_, h⟩ <;> first | (exact congrArg (fun f => setDst o.dst f (.tup [])) e0) | rfl
        · refine pass (by decide) ⟨_, ?_, ?_, ?_, ?_, ?_, h⟩ <;> first | (exact congrArg (fun f => setDst o.dst f (.tup [])) e0) | rfl
        · refine run rfl ⟨_, ?_, ?_, ?_, ?_, ?_, h⟩ <;> first | exact e0 | rfl
      · rename_i hb
        obtain ⟨st', h1, h2, h3⟩ := skip { st with tm := setDst o.dst st.tm (.tup []) } rfl rfl rfl rfl rfl h
        refine ⟨st', h1, h2, fun lo Q g0 g st0 w0 a w hQ hm hg hb0 => ?_⟩
        have htm := hm.tm t
        rw [hb] at htm
        have hv := relV_tup0 htm
        have hy := yielded_tup htA hv
        have hwd : Region.wanted o (yielded ops.toArray a.tmps) = false := by simp only [Region.wanted, hgd, hy]; rfl
        rw [hwd, if_neg (by decide)]
        exact h3 lo Q g0 g st0 w0 a w hQ hm hg hb0

/-- A region in its own order. -/
theorem region_seq {E : FuncId → Option Entry} {inl : Inl R} (hE : ∀ f e, E f = some e → Holds P f e) (hI : InlOk P inl) {H : Hints} {id : Nat} {ops : List Oper} {st : St} {κ : KC R} {r : R} (h : regionO P E inl H id ops false st κ = some r) :
    ∃ st', κ .normal st' = some r ∧ st.n ≤ st'.n ∧ ∀ (g : Gh) (a : Act) (w : World) (Q : Exit → Act → World → Prop), Rel g st a w → EndsQ st.n g st w st' Q → wpOps P ops.toArray Q (List.range ops.toArray.size) a w := by
  have h : runOps P E inl H id ops [] false st.n ops 0 { st with n := st.n + ops.length } (fun st' => κ .normal st') = some r := h
  obtain ⟨st', h1, h2, h3⟩ := runOps_seq hE hI ops 0 { st with n := st.n + ops.length } (fun i => by rw [Nat.zero_add]) rfl (Nat.le_refl _) (by simp) h
  refine ⟨st', h1, by have : st.n + ops.length ≤ st'.n := h2; omega, fun g a w Q hr hQ => ?_⟩
  have := h3 st.n Q g g st w a w hQ ⟨hr.tm, hr.nt, hr.df, hr.hp, fun b hb => hr.fr b (by have : st.n + ops.length ≤ b := hb; omega), fun i _ hi => hr.fr _ (by omega)⟩ ⟨⟨[], rfl, .refl ..⟩, fun b h h' => absurd h h', by show st.n ≤ st.n + _; omega, rfl⟩ (Nat.le_refl _)
  rw [List.range_eq_range', List.size_toArray]
  exact this
end Go.VI

end
section
/- A region in any order. -/
namespace Go.VI
set_option linter.unusedVariables false
set_option linter.unusedSimpArgs false
variable {R : Type} {P : Program}

/-! ### Operations that leave the heap out of account -/

theorem heapless_sound {E : FuncId → Option Entry} {inl : Inl R} {o : Oper} (ho : heapless o = true) {ρ : Operand → AV} {H : Hp} {nb n : Nat} {κ : KO R} {r : R} (h : aop P E inl o ρ H nb n κ = some r) :
    ∃ v, κ v H n [] = some r ∧ ∀ (g : Gh) (a : Act) (w : World), (∀ x ∈ o.op.operands, RelV g w (ρ x) (a.eval x)) → ∃ u, (execOp a.eval o).run P w = .ok (.value u) w ∧ RelV g w v u := by
  have val : ∀ {a : Act} {w : World} {s : Sem Value} {u : Value}, execOp a.eval o = (do pure (.value (← s))) → s.run P w = .ok u w → (execOp a.eval o).run P w = .ok (.value u) w := by
    intro a w s u e hs
    rw [e]; simp only [Sem.run_bind, hs, Result.andThen_ok, Sem.run_pure]
  obtain ⟨dst, op, ty, pos, aft, gd⟩ := o
  unfold aop at h
  simp only at h
  cases op <;> simp only at h <;> try (cases ho; done)
  case move x => exact ⟨_, h, fun g a w hρ => ⟨_, rfl, hρ x (by simp [Op.operands])⟩⟩
  case assign x => exact ⟨_, h, fun g a w hρ => ⟨_, rfl, hρ x (by simp [Op.operands])⟩⟩
  case pick c x y =>
    split at h
    case h_2 => cases h
    rename_i t hc
    rcases br_some h with ⟨ht, h⟩ | ⟨ht, h⟩
    · refine ⟨_, h, fun g a w hρ => ⟨a.eval x, ?_, hρ x (by simp [Op.operands])⟩⟩
      have h1 := hρ c (by simp [Op.operands])
      rw [hc, ht] at h1
      generalize hu : a.eval c = u at h1
      cases h1
      simp only [execOp, hu, asBool, Sem.run_bind, Sem.run_pure, Result.andThen_ok, if_true]
    · refine ⟨_, h, fun g a w hρ => ⟨a.eval y, ?_, hρ y (by simp [Op.operands])⟩⟩
      have h1 := hρ c (by simp [Op.operands])
      rw [hc, ht] at h1
      generalize hu : a.eval c = u at h1
      cases h1
      simp only [execOp, hu, asBool, Sem.run_bind, Sem.run_pure, Result.andThen_ok, Bool.false_eq_true, if_false]
  case build t ps =>
    split at h
    case h_2 => cases h
    rename_i v hv
    refine ⟨_, h, fun g a w hρ => ?_⟩
    have hps : RelPs g w (parts ρ ps) (ps.map fun (i, x) => (i, a.eval x)).toList := by
      have hmem : ∀ p ∈ ps.toList, RelV g w (ρ p.2) (a.eval p.2) := fun p hp => hρ p.2 (by simp only [Op.operands]; rw [List.mem_toArray]; exact List.mem_map.2 ⟨p, hp, rfl⟩)
      unfold parts
      rw [Array.toList_map]
      generalize ps.toList = l at hmem
      induction l with
      | nil => exact .nil
      | cons p l ih => exact .cons (hmem p (List.mem_cons_self)) (ih fun q hq => hmem q (List.mem_cons_of_mem _ hq))
    obtain ⟨u, h1, h2⟩ := buildO_sound hv g w _ hps
    exact ⟨u, val (by unfold execOp; rfl) h1, h2⟩
  case nilCheck x =>
    split at h <;> try (cases h; done)
    all_goals
      rename_i hx
      refine ⟨_, h, fun g a w hρ => ?_⟩
      have h1 := hρ x (by simp [Op.operands])
      rw [hx] at h1
      have h2 := h1
      first
        | (cases h1 with
           | ptr _ _ _ _ _ _ hp =>
             obtain ⟨ad, hu⟩ := hp
             rw [hu] at h2
             exact ⟨_, by simp only [execOp, hu, Sem.run_pure], h2⟩)
        | (generalize hu : a.eval x = u at h1 h2
           cases h1
           exact ⟨_, by simp only [execOp, hu, Sem.run_pure], h2⟩)
  case binOp op t x y yt =>
    obtain ⟨v, h', hs⟩ := binO_sound h
    refine ⟨v, h', fun g a w hρ => ?_⟩
    obtain ⟨u, h1, h2⟩ := hs g w _ _ (hρ x (by simp [Op.operands])) (hρ y (by simp [Op.operands]))
    exact ⟨u, val (by unfold execOp; rfl) h1, h2⟩
  case unOp op t x =>
    obtain ⟨v, h', hs⟩ := unO_sound h
    refine ⟨v, h', fun g a w hρ => ?_⟩
    obtain ⟨u, h1, h2⟩ := hs g w _ (hρ x (by simp [Op.operands]))
    exact ⟨u, val (by unfold execOp; rfl) h1, h2⟩
  case makeInterface t x =>
    split at h <;> try (cases h; done)
    rename_i d hd ht
    refine ⟨_, h, fun g a w hρ => ⟨.iface t (a.eval x), val (s := Instr.makeInterface t (a.eval x)) (by unfold execOp; rfl) ?_, .iface _ _ _ (hρ x (by simp [Op.operands]))⟩⟩
    simp only [Instr.makeInterface, Sem.run_bind, run_underlying ht, Result.andThen_ok]
    cases d <;> first | rfl | (exact absurd rfl (hd _))
  case makeFunc f xs ys =>
    refine ⟨_, h, fun g a w hρ => ⟨.func f (xs.map a.eval) (ys.map a.eval), val (s := Instr.makeFunc f (xs.map a.eval) (ys.map a.eval)) (by unfold execOp; rfl) rfl, ?_⟩⟩
    refine .fn f _ _ _ _ (fun j => ((xs.map a.eval)[j]?).getD Go.undef) (fun j => ((ys.map a.eval)[j]?).getD Go.undef) (by simp) (by simp) (fun j c hj => ?_) (fun j c hj => ?_) (fun j c hj => ?_) (fun j c hj => ?_)
    all_goals
      rw [List.getElem?_map, Array.getElem?_toList] at hj
      rw [Array.getElem?_map]
      first
        | (cases hx : xs[j]? with
           | none => rw [hx] at hj; cases hj
           | some x =>
             rw [hx] at hj
             cases hj
             first | rfl | exact hρ x (by simp only [Op.operands, Array.mem_append]; exact .inl (Array.mem_of_getElem? hx)))
        | (cases hx : ys[j]? with
           | none => rw [hx] at hj; cases hj
           | some x =>
             rw [hx] at hj
             cases hj
             first | rfl | exact hρ x (by simp only [Op.operands, Array.mem_append]; exact .inr (Array.mem_of_getElem? hx)))
  case fieldAddr t x f =>
    split at h <;> try (cases h; done)
    rename_i off hoff
    have hfd : ∃ fs fd i, P.underlying t = some (.struct fs) ∧ fs[f]? = some fd ∧ fd.offset = off ∧ P.info? fd.type = some i ∧ i.size ≠ 0 := by
      unfold fieldO at hoff
      split at hoff <;> try (cases hoff; done)
      rename_i fs hu
      split at hoff <;> try (cases hoff; done)
      rename_i fd hf
      obtain ⟨hz, hoff⟩ := none_br hoff
      cases hoff
      unfold sizeT at hz
      split at hz
      · rename_i i hi
        exact ⟨fs, fd, i, hu, hf, rfl, hi, fun e => by rw [e] at hz; cases hz⟩
      · cases hz
    obtain ⟨fs, fd, i, hu, hf, rfl, hi, hne⟩ := hfd
    have run : ∀ (w : World) (ad : Addr), (Instr.fieldAt t (.pointer (some ad)) f).run P w = .ok (.pointer (some (ad.add fd.offset))) w := fun w ad => by
      simp only [Instr.fieldAt, Sem.run_bind, run_underlying hu, Result.andThen_ok, hf, Instr.sureAddr, Sem.run_pure, fieldPlace, run_sizeOf' hi, if_neg hne]
    split at h <;> try (cases h; done)
    · rename_i b i' o' k hx
      refine ⟨_, h, fun g a w hρ => ?_⟩
      have h1 := hρ x (by simp [Op.operands])
      rw [hx] at h1
      generalize hue : a.eval x = u at h1
      cases h1 with
      | ptr _ _ _ _ _ hn hp ha hb hs =>
        obtain ⟨ad, rfl⟩ := hp
        refine ⟨_, val (s := Instr.fieldAt t (a.eval x) f) (by unfold execOp; rfl) (by rw [hue]; exact run w ad), .ptr _ _ _ _ _ hn ⟨_, rfl⟩ (fun t k' n hG => ?_) (fun hG he => ?_) (fun hG he => ?_)⟩
        · obtain ⟨a1, a2⟩ := ha t k' n hG
          refine ⟨a1, fun e => ?_⟩
          obtain ⟨r', c, e1, e2⟩ := a2 e
          cases e2
          exact ⟨r', c, e1, by rw [add_mk, Nat.add_assoc]⟩
        · obtain ⟨r', c, e1, e2⟩ := hb hG he
          cases e2
          exact ⟨r', c, e1, by rw [add_mk]⟩
        · obtain ⟨r', c, e1, e2⟩ := hs hG (by omega)
          cases e2
          exact ⟨r', c, e1, by
            rw [add_mk]
            have : fd.offset = 0 := by omega
            rw [this]⟩
    · rename_i cs hx
      refine ⟨_, h, fun g a w hρ => ?_⟩
      have h1 := hρ x (by simp [Op.operands])
      rw [hx] at h1
      generalize hue : a.eval x = u at h1
      cases h1 with
      | cptr _ ad fv h1 h2 =>
        refine ⟨_, val (s := Instr.fieldAt t (a.eval x) f) (by unfold execOp; rfl) (by rw [hue]; exact run w ad), .cptr _ _ (fun j => fv (fd.offset + j)) (fun j c hj => ?_) (fun j c hj => ?_)⟩
        · rw [List.getElem?_drop] at hj
          rw [add_block, Addr.add_add]
          exact h1 _ c hj
        · rw [List.getElem?_drop] at hj
          exact h2 _ c hj
  case field t x f =>
    split at h <;> try (cases h; done)
    rename_i fs hu
    split at h <;> try (cases h; done)
    rename_i fd hf
    split at h <;> try (cases h; done)
    rename_i cs hx
    split at h <;> try (cases h; done)
    rename_i v hv
    refine ⟨_, h, fun g a w hρ => ?_⟩
    have h1 := hρ x (by simp [Op.operands])
    rw [hx] at h1
    have e1 := h1.isAgg rfl
    obtain ⟨u, hu1, hu2⟩ := partV_run hv (h1.cells rfl)
    refine ⟨u, val (s := Instr.field t (a.eval x) f) (by unfold execOp; rfl) ?_, hu2⟩
    rw [e1]
    simp only [Instr.field, Sem.run_bind, run_underlying hu, Result.andThen_ok, hf, asAgg, Sem.run_pure, hu1]
  case index t x ix =>
    split at h <;> try (cases h; done)
    rotate_left
    · rename_i len e cs k i hu hx hix
      obtain ⟨hin, h⟩ := br_none h
      obtain ⟨h0, hlt⟩ := inRange_spec hin
      split at h <;> try (cases h; done)
      rename_i ie hie
      split at h <;> try (cases h; done)
      rename_i v hv
      refine ⟨_, h, fun g a w hρ => ?_⟩
      have h1 := hρ x (by simp [Op.operands])
      have h2 := hρ ix (by simp [Op.operands])
      rw [hx] at h1; rw [hix] at h2
      have e1 := h1.isAgg rfl
      obtain ⟨u, hu1, hu2⟩ := partV_run hv (h1.cells rfl)
      generalize hui : a.eval ix = ui at h2
      cases h2
      refine ⟨u, val (s := Instr.index t (a.eval x) (a.eval ix)) (by unfold execOp; rfl) ?_, hu2⟩
      rw [e1, hui]
      simp only [Instr.index, Sem.run_bind, asIntOf, Sem.run_pure, Result.andThen_ok, run_underlying hu, if_pos (show 0 ≤ i ∧ i < (len : Int) from ⟨h0, hlt⟩), run_sizeOf' hie, hu1]
    rename_i s k i hu hx hix
    obtain ⟨h0, h⟩ := br_none h
    have h0 : 0 ≤ i := by simpa using h0
    obtain ⟨b, hb, h⟩ := Option.bind_eq_some_iff.1 h
    refine ⟨_, h, fun g a w hρ => ?_⟩
    have h1 := hρ x (by simp [Op.operands])
    have h2 := hρ ix (by simp [Op.operands])
    rw [hx] at h1; rw [hix] at h2
    generalize hux : a.eval x = ux at h1
    generalize hui : a.eval ix = ui at h2
    cases h1; cases h2
    refine ⟨_, val (s := Instr.index t (a.eval x) (a.eval ix)) (by unfold execOp; rfl) ?_, .int ..⟩
    have hb' : s[i.toNat]? = some b := by
      rw [Array.getElem?_toList] at hb
      exact hb
    rw [hux, hui]
    simp only [Instr.index, Sem.run_bind, asIntOf, Sem.run_pure, Result.andThen_ok, run_underlying hu, if_pos h0, hb']
  case extract t i =>
    split at h <;> try (cases h; done)
    rename_i vs ht
    split at h <;> try (cases h; done)
    rename_i v hv
    refine ⟨_, h, fun g a w hρ => ?_⟩
    have h1 := hρ t (by simp [Op.operands])
    rw [ht] at h1
    generalize hue : a.eval t = u at h1
    cases h1 with
    | tup _ us f h1 h2 h3 =>
      refine ⟨f i, val (s := Instr.extract (a.eval t) i) (by unfold execOp; rfl) ?_, h3 i v hv⟩
      rw [hue]
      simp only [Instr.extract, h2 i v hv, Sem.run_pure]
end Go.VI

end
section
/- A region in any order: what it is told of each operation, and the state behind some of them. -/
namespace Go.VI
set_option linter.unusedVariables false
set_option linter.unusedSimpArgs false
variable {R : Type} {P : Program}

/-! ### Operands -/

/-- A frame of which only an operation's operands are seen. -/
def seen (o : Oper) (tm : Nat → AV) : Nat → AV := fun t => br (memN (tmpsOf o.op.operands) t) (tm t) .undef

theorem seen_eval {o : Oper} {tm : Nat → AV} {x : Operand} (hx : x ∈ o.op.operands) : evalO (seen o tm) x = evalO tm x := by
  cases x with
  | tmp t =>
    have : memN (tmpsOf o.op.operands) t = true := by
      rw [memN_iff']
      unfold tmpsOf
      exact List.mem_filterMap.2 ⟨.tmp t, Array.mem_toList_iff.2 hx, rfl⟩
    show br (memN (tmpsOf o.op.operands) t) (tm t) .undef = tm t
    rw [this]; rfl
  | _ => rfl
where
  memN_iff' {l : List Nat} {a : Nat} : (memN l a = true) = (a ∈ l) := by
    apply propext
    unfold memN
    rw [List.any_eq_true]
    constructor
    · rintro ⟨x, hx, e⟩
      rw [Nat.eq_of_beq_eq_true e]; exact hx
    · intro h
      exact ⟨a, h, Nat.beq_refl a⟩

theorem aop_congr {E : FuncId → Option Entry} {inl : Inl R} {o : Oper} {ρ ρ' : Operand → AV} {H : Hp} {nb n : Nat} {κ : KO R} (h : ∀ x ∈ o.op.operands, ρ x = ρ' x) : aop P E inl o ρ H nb n κ = aop P E inl o ρ' H nb n κ := by
  obtain ⟨dst, op, ty, pos, aft, gd⟩ := o
  have hl : ∀ {as : Array Operand}, (∀ x ∈ as, ρ x = ρ' x) → as.toList.map ρ = as.toList.map ρ' := fun {as} ha => List.map_congr_left fun x hx => ha x (Array.mem_toList_iff.1 hx)
  have hp : ∀ {ps : Array (Nat × Operand)}, (∀ p ∈ ps.toList, ρ p.2 = ρ' p.2) → parts ρ ps = parts ρ' ps := fun {ps} ha => List.map_congr_left fun p hp => by rw [ha p hp]
  unfold aop
  cases op <;> simp only
  case move x => rw [h x (by simp [Op.operands])]
  case assign x => rw [h x (by simp [Op.operands])]
  case pick c a b => rw [h c (by simp [Op.operands]), h a (by simp [Op.operands]), h b (by simp [Op.operands])]
  case box e x => rw [h x (by simp [Op.operands])]
  case build t ps => rw [hp fun p hp' => h p.2 (by simp only [Op.operands]; rw [List.mem_toArray]; exact List.mem_map.2 ⟨p, hp', rfl⟩)]
  case buildSlice t l ps => rw [hp fun p hp' => h p.2 (by simp only [Op.operands]; rw [List.mem_toArray]; exact List.mem_map.2 ⟨p, hp', rfl⟩)]
  case load t a => rw [h a (by simp [Op.operands])]
  case store t a x => rw [h a (by simp [Op.operands]), h x (by simp [Op.operands])]
  case nilCheck x => rw [h x (by simp [Op.operands])]
  case binOp op t x y yt => rw [h x (by simp [Op.operands]), h y (by simp [Op.operands])]
  case unOp op t x => rw [h x (by simp [Op.operands])]
  case convert s d x => rw [h x (by simp [Op.operands])]
  case makeInterface t x => rw [h x (by simp [Op.operands])]
  case makeFunc f xs ys => rw [hl (as := xs) fun x hx => h x (by simp only [Op.operands, Array.mem_append]; exact .inl hx), hl (as := ys) fun x hx => h x (by simp only [Op.operands, Array.mem_append]; exact .inr hx)]
  case makeSlice t l c => rw [h l (by simp [Op.operands]), h c (by simp [Op.operands])]
  case slice t x lo hi mx =>
    have h0 := h x (by simp [Op.operands])
    have h1 : lo.map ρ = lo.map ρ' := by cases lo <;> first | rfl | exact congrArg some (h _ (by simp [Op.operands]))
    have h2 : hi.map ρ = hi.map ρ' := by cases hi <;> first | rfl | exact congrArg some (h _ (by simp [Op.operands]))
    have h3 : mx.map ρ = mx.map ρ' := by cases mx <;> first | rfl | exact congrArg some (h _ (by simp [Op.operands]))
    rw [h0, h1, h2, h3]
  case range t x => rw [h x (by simp [Op.operands])]
  case lookup t x ix ok => rw [h x (by simp [Op.operands]), h ix (by simp [Op.operands])]
  case mapUpdate t m k v => rw [h m (by simp [Op.operands]), h k (by simp [Op.operands]), h v (by simp [Op.operands])]
  case makeMap t res =>
    have h1 : res.map ρ = res.map ρ' := by cases res <;> first | rfl | exact congrArg some (h _ (by simp [Op.operands]))
    rw [h1]
  case next x s => rw [h x (by simp [Op.operands])]
  case fieldAddr t x f => rw [h x (by simp [Op.operands])]
  case field t x f => rw [h x (by simp [Op.operands])]
  case indexAddr t x ix => rw [h x (by simp [Op.operands]), h ix (by simp [Op.operands])]
  case index t x ix => rw [h x (by simp [Op.operands]), h ix (by simp [Op.operands])]
  case extract t i => rw [h t (by simp [Op.operands])]
  case typeAssert x xt t ok => rw [h x (by simp [Op.operands])]
  case call c =>
    obtain ⟨cal, args, ats⟩ := c
    cases cal <;> simp only
    case value f => rw [h f (by simp [Op.operands, Call.operands]), hl (as := args) fun x hx => h x (by simp only [Op.operands, Call.operands, Array.mem_append]; exact .inr hx)]
    case builtin b => rw [hl (as := args) fun x hx => h x (by simp only [Op.operands, Call.operands, Array.mem_append]; exact .inr hx)]

theorem aopT_congr {E : FuncId → Option Entry} {inl : Inl R} {thaw : Bool} {o : Oper} {ρ ρ' : Operand → AV} {H : Hp} {nb n : Nat} {κ : KO R} (h : ∀ x ∈ o.op.operands, ρ x = ρ' x) : aopT P E inl thaw o ρ H nb n κ = aopT P E inl thaw o ρ' H nb n κ := by
  unfold aopT
  rw [aop_congr h]
  cases hop : o.op <;> simp only
  case move x => rw [h x (by rw [hop]; simp [Op.operands])]
  case assign x => rw [h x (by rw [hop]; simp [Op.operands])]
  case store t a x => rw [h x (by rw [hop]; simp [Op.operands]), h a (by rw [hop]; simp [Op.operands])]

/-! ### The state behind some of the operations -/

/-- What became of one operation. -/
structure Ev where
  v : AV
  own : Option (Nat × Blk)
  all : Option Hp
  d : List Nat
instance : Inhabited Ev := ⟨⟨.tup [], none, none, []⟩⟩

def Ev.eff (base j : Nat) (e : Ev) (H : Hp) : Hp :=
  match e.all with
  | some H' => H'
  | none => match e.own with
    | some p => upd H (base + p.1) p.2
    | none => H

section fold
variable (ops : List Oper) (es : List Ev) (base : Nat)

def dstAt (j : Nat) : Option Tmp := (ops[j]?).bind (·.dst)
def evAt (j : Nat) : Ev := (es[j]?).getD default

def tmD (tm0 : Nat → AV) (D : Nat → Bool) : Nat → (Nat → AV)
  | 0 => tm0
  | m + 1 => if D m then setDst (dstAt ops m) (tmD tm0 D m) (evAt es m).v else tmD tm0 D m
def hpD (hp0 : Hp) (D : Nat → Bool) : Nat → Hp
  | 0 => hp0
  | m + 1 => if D m then (evAt es m).eff base m (hpD hp0 D m) else hpD hp0 D m
def dD (d0 : List Nat) (D : Nat → Bool) : Nat → List Nat
  | 0 => d0
  | m + 1 => if D m then (evAt es m).d ++ dD d0 D m else dD d0 D m
end fold

variable {ops : List Oper} {es : List Ev} {base : Nat}

theorem setDst_ne {dst : Option Tmp} {tm : Nat → AV} {v : AV} {t : Nat} (h : dst ≠ some t) : setDst dst tm v t = tm t := by
  cases dst with
  | none => rfl
  | some d => exact upd_ne _ _ (fun e => h (by rw [e]))
theorem setDst_eq {tm : Nat → AV} {v : AV} {t : Nat} : setDst (some t) tm v t = v := upd_same _ _ _

theorem tmD_agree {tm0 : Nat → AV} {D D' : Nat → Bool} {t : Nat} : ∀ {m : Nat}, (∀ i, i < m → dstAt ops i = some t → D i = D' i) → tmD ops es tm0 D m t = tmD ops es tm0 D' m t
  | 0, _ => rfl
  | m + 1, h => by
    have ih := tmD_agree (tm0 := tm0) (D := D) (D' := D') (m := m) fun i hi => h i (by omega)
    simp only [tmD]
    by_cases hd : dstAt ops m = some t
    · rw [h m (by omega) hd]
      split
      · rw [hd, setDst_eq, setDst_eq]
      · exact ih
    · split <;> split <;> (try rw [setDst_ne hd]) <;> (try rw [setDst_ne hd]) <;> exact ih

/-- An effect at a place that it leaves alone, and that it looks at alone. -/
theorem eff_at {j : Nat} {e : Ev} {H H' : Hp} {b : Nat} (h : H b = H' b) : e.eff base j H b = e.eff base j H' b := by
  obtain ⟨v, own, all, d⟩ := e
  cases all with
  | some H0 => rfl
  | none =>
    cases own with
    | none => exact h
    | some x =>
      show upd H (base + x.1) x.2 b = upd H' (base + x.1) x.2 b
      by_cases hb : b = base + x.1
      · subst hb; rw [upd_same, upd_same]
      · rw [upd_ne _ _ hb, upd_ne _ _ hb]; exact h

theorem hpD_agree {hp0 : Hp} {D D' : Nat → Bool} {b : Nat} : ∀ {m : Nat}, (∀ i, i < m → (∀ H, (evAt es i).eff base i H b = H b) ∨ D i = D' i) → hpD es base hp0 D m b = hpD es base hp0 D' m b
  | 0, _ => rfl
  | m + 1, h => by
    have ih := hpD_agree (hp0 := hp0) (D := D) (D' := D') (m := m) fun i hi => h i (by omega)
    simp only [hpD]
    rcases h m (by omega) with h1 | h1
    · split <;> split <;> (try rw [h1]) <;> (try rw [h1]) <;> exact ih
    · rw [h1]
      split
      · exact eff_at ih
      · exact ih

theorem dD_mem {d0 : List Nat} {D : Nat → Bool} {b : Nat} : ∀ {m : Nat}, b ∈ dD es d0 D m ↔ b ∈ d0 ∨ ∃ i, i < m ∧ D i = true ∧ b ∈ (evAt es i).d
  | 0 => by simp [dD]
  | m + 1 => by
    have ih := dD_mem (d0 := d0) (D := D) (b := b) (m := m)
    simp only [dD]
    by_cases hD : D m = true
    · rw [if_pos hD, List.mem_append, ih]
      constructor
      · rintro (h | h | ⟨i, h1, h2, h3⟩)
        · exact .inr ⟨m, by omega, hD, h⟩
        · exact .inl h
        · exact .inr ⟨i, by omega, h2, h3⟩
      · rintro (h | ⟨i, h1, h2, h3⟩)
        · exact .inr (.inl h)
        · by_cases e : i = m
          · subst e; exact .inl h3
          · exact .inr (.inr ⟨i, by omega, h2, h3⟩)
    · rw [if_neg hD, ih]
      constructor
      · rintro (h | ⟨i, h1, h2, h3⟩)
        · exact .inl h
        · exact .inr ⟨i, by omega, h2, h3⟩
      · rintro (h | ⟨i, h1, h2, h3⟩)
        · exact .inl h
        · by_cases e : i = m
          · subst e; exact absurd h2 hD
          · exact .inr ⟨i, by omega, h2, h3⟩

theorem hide_spec {H : Hp} {m : Nat} {k b : Nat} : hideFor H base m k b = .gone ∨ (hideFor H base m k b = H b ∧ ∀ i, i < k → b = base + i → m.testBit i = true) := by
  unfold hideFor
  cases h : (Nat.ble base b).and ((Nat.blt b (base + k)).and (m.testBit (b - base)).not) with
  | true => exact .inl rfl
  | false =>
    refine .inr ⟨rfl, fun i hi e => ?_⟩
    subst e
    have h1 : Nat.ble base (base + i) = true := Nat.ble_eq_true_of_le (by omega)
    have h2 : Nat.blt (base + i) (base + k) = true := Nat.ble_eq_true_of_le (by omega)
    rw [h1, h2, Nat.add_sub_cancel_left] at h
    simpa using h

/-- Less is seen. -/
theorem HRel.less {g : Gh} {H H' : Hp} {w : World} (hr : HRel g H w) (h : ∀ b, H' b = .gone ∨ H' b = H b) : HRel g H' w := by
  refine ⟨fun b => ?_, fun b hb => ?_, hr.inj, hr.disj, hr.ex⟩
  · rcases h b with e | e <;> rw [e]
    · exact trivial
    · exact hr.blk b
  · rcases h b with e | e
    · exact (hb e).elim
    · rw [e]; exact hr.kd b (fun e' => hb (by rw [e, e']))
end Go.VI

end
section
/- A region in any order: ancestors; what is told of each operation. -/
namespace Go.VI
set_option linter.unusedVariables false
set_option linter.unusedSimpArgs false
variable {R : Type} {P : Program}

theorem ancs_append : ∀ (os : List Oper) (acc : List Nat), ∃ l, ancs os acc = acc ++ l ∧ l.length = os.length
  | [], acc => ⟨[], by simp [ancs]⟩
  | o :: os, acc => by
    obtain ⟨l, h1, h2⟩ := ancs_append os (acc ++ [o.after.toList.foldl (fun s e => br ((Region.binds .any e).and (Nat.blt e.on acc.length)) (s ||| (2 ^ e.on ||| (acc[e.on]?).getD 0)) s) 0])
    exact ⟨_ :: l, by simp only [ancs]; rw [h1, List.append_assoc]; rfl, by simp [h2]⟩

theorem fold_bits {acc : List Nat} {i : Nat} : ∀ (l : List Edge) (s : Nat), (l.foldl (fun s e => br ((Region.binds .any e).and (Nat.blt e.on acc.length)) (s ||| (2 ^ e.on ||| (acc[e.on]?).getD 0)) s) s).testBit i = true →
    s.testBit i = true ∨ ∃ e ∈ l, Region.binds .any e = true ∧ e.on < acc.length ∧ (e.on = i ∨ ((acc[e.on]?).getD 0).testBit i = true)
  | [], s, h => .inl h
  | e :: l, s, h => by
    simp only [List.foldl_cons] at h
    rcases fold_bits l _ h with h | ⟨e', h1, h2⟩
    · cases hb : (Region.binds .any e).and (Nat.blt e.on acc.length) with
      | false => rw [hb] at h; exact .inl h
      | true =>
        rw [hb] at h
        obtain ⟨b1, b2⟩ := and_spec hb
        have b2 : e.on < acc.length := Nat.le_of_ble_eq_true b2
        have h : (s ||| (2 ^ e.on ||| (acc[e.on]?).getD 0)).testBit i = true := h
        rw [Nat.testBit_or, Nat.testBit_or, Bool.or_eq_true, Bool.or_eq_true] at h
        rcases h with h | h | h
        · exact .inl h
        · rw [Nat.testBit_two_pow] at h
          exact .inr ⟨e, List.mem_cons_self, b1, b2, .inl (by simpa using h)⟩
        · exact .inr ⟨e, List.mem_cons_self, b1, b2, .inr h⟩
    · exact .inr ⟨e', List.mem_cons_of_mem _ h1, h2⟩

/-- An ancestor's bit comes by an edge. -/
theorem ancs_edge : ∀ (os : List Oper) (acc : List Nat) (j i : Nat) (o : Oper), os[j]? = some o → (((ancs os acc)[acc.length + j]?).getD 0).testBit i = true →
    ∃ e ∈ o.after.toList, Region.binds .any e = true ∧ e.on < acc.length + j ∧ (e.on = i ∨ (((ancs os acc)[e.on]?).getD 0).testBit i = true)
  | [], _, j, _, _, h, _ => by simp at h
  | o :: os, acc, 0, i, o', h, hb => by
    simp at h; subst h
    obtain ⟨l, h1, _⟩ := ancs_append os (acc ++ [o.after.toList.foldl (fun s e => br ((Region.binds .any e).and (Nat.blt e.on acc.length)) (s ||| (2 ^ e.on ||| (acc[e.on]?).getD 0)) s) 0])
    simp only [ancs, h1] at hb ⊢
    have : ((acc ++ [o.after.toList.foldl (fun s e => br ((Region.binds .any e).and (Nat.blt e.on acc.length)) (s ||| (2 ^ e.on ||| (acc[e.on]?).getD 0)) s) 0] ++ l)[acc.length + 0]?).getD 0 = o.after.toList.foldl (fun s e => br ((Region.binds .any e).and (Nat.blt e.on acc.length)) (s ||| (2 ^ e.on ||| (acc[e.on]?).getD 0)) s) 0 := by
      simp
    rw [this] at hb
    rcases fold_bits _ _ hb with h | ⟨e, h1, h2, h3, h4⟩
    · simp at h
    · refine ⟨e, h1, h2, by omega, ?_⟩
      rcases h4 with h4 | h4
      · exact .inl h4
      · refine .inr ?_
        rw [List.append_assoc, List.getElem?_append_left h3]; exact h4
  | o :: os, acc, j + 1, i, o', h, hb => by
    simp at h
    have := ancs_edge os (acc ++ [o.after.toList.foldl (fun s e => br ((Region.binds .any e).and (Nat.blt e.on acc.length)) (s ||| (2 ^ e.on ||| (acc[e.on]?).getD 0)) s) 0]) j i o' h (by
      simp only [ancs] at hb
      rw [List.length_append, List.length_singleton, show acc.length + 1 + j = acc.length + (j + 1) by omega]; exact hb)
    obtain ⟨e, h1, h2, h3, h4⟩ := this
    refine ⟨e, h1, h2, by rw [List.length_append, List.length_singleton] at h3; omega, ?_⟩
    simp only [ancs]; exact h4

/-- Whoever has come up, his ancestors have. -/
theorem anc_closed {ops : List Oper} {D : Nat → Bool} (hD : ∀ j o, ops[j]? = some o → D j = true → ∀ e ∈ o.after.toList, Region.binds .any e = true → D e.on = true) :
    ∀ (j : Nat) (o : Oper) (i : Nat), ops[j]? = some o → (∀ e ∈ o.after.toList, Region.binds .any e = true → D e.on = true) → (((ancs ops [])[j]?).getD 0).testBit i = true → D i = true := by
  intro j
  induction j using Nat.strongRecOn with
  | _ j ih =>
    intro o i ho hall hb
    obtain ⟨e, h1, h2, h3, h4⟩ := ancs_edge ops [] j i o ho (by simpa using hb)
    have hDe := hall e h1 h2
    rcases h4 with h4 | h4
    · rw [← h4]; exact hDe
    · have hlt : e.on < j := by simpa using h3
      cases hoe : ops[e.on]? with
      | none =>
        have := (List.getElem?_eq_none_iff.1 hoe)
        have := (List.getElem?_eq_some_iff.1 ho).1
        omega
      | some oe => exact ih e.on hlt oe i hoe (hD e.on oe hoe hDe) h4
theorem anc_lt {ops : List Oper} : ∀ (j i : Nat), (((ancs ops [])[j]?).getD 0).testBit i = true → i < j := by
  intro j
  induction j using Nat.strongRecOn with
  | _ j ih =>
    intro i hb
    cases ho : ops[j]? with
    | none =>
      exfalso
      obtain ⟨l, h1, h2⟩ := ancs_append ops []
      have hn := List.getElem?_eq_none_iff.1 ho
      rw [h1, List.nil_append, List.getElem?_eq_none (by omega)] at hb
      simp at hb
    | some o =>
      obtain ⟨e, h1, h2, h3, h4⟩ := ancs_edge ops [] j i o ho (by simpa using hb)
      have hlt : e.on < j := by simpa using h3
      rcases h4 with h4 | h4
      · omega
      · have := ih e.on hlt i h4; omega

/-- Is an operation wanted, seen from a frame? -/
def Wants (ops : List Oper) (o : Oper) (tm : Nat → AV) (b : Bool) : Prop :=
  (o.guard = none ∧ b = true) ∨ ∃ gi want t, o.guard = some (gi, want) ∧ (ops[gi]?).bind (·.dst) = some t ∧ ((∃ c, tm t = .bool c ∧ b = (c == want)) ∨ (tm t = .tup [] ∧ b = false))

/-- What is told of one operation: ops: the region; nn: the numbers from which calls may take theirs. -/
def Fact (P : Program) (wr bd : List Nat) (ops : List Oper) (base nn j : Nat) (o : Oper) (tm : Nat → AV) (H : Hp) (e : Ev) : Prop :=
  (Wants ops o tm false ∧ e = ⟨.tup [], none, none, []⟩) ∨
  (Wants ops o tm true ∧ ((e.own = some (j, .gone) ∧ e.all = none ∧ e.d = [] ∧ blind bd o j = true ∧ ∀ (g : Gh) (a : Act) (w : World), (∀ x ∈ o.op.operands, RelV g w (evalO tm x) (a.eval x)) → ∃ u, (execOp a.eval o).run P w = .ok (.value u) w ∧ RelV g w e.v u) ∨
    (blind bd o j = false ∧ e.all = none ∧ e.d = [] ∧ ∃ H', e.own = some (j, H' (base + j)) ∧ OpOk P o (evalO (seen o tm)) (hideFor H base (((ancs ops [])[j]?).getD 0) ops.length) (base + j) (nn + j * 4096) (nn + j * 4096) e.v H' []) ∨
    (memN wr j = true ∧ barrier wr bd ops (ancs ops []) j = true ∧ ∃ H' n', e.all = some H' ∧ n' ≤ nn + (j + 1) * 4096 ∧ OpOk P o (evalO (seen o tm)) (hideFor H base (2 ^ j - 1) ops.length) (base + j) (nn + j * 4096) n' e.v H' e.d) ∨
    (blind bd o j = false ∧ e.all = none ∧ ∃ i H', (((ancs ops [])[j]?).getD 0).testBit i = true ∧ barrierAt bd ops (ancs ops []) j i = true ∧ e.own = some (i, H' (base + i)) ∧ e.d = [base + i] ∧
      OpOk P o (evalO (seen o tm)) (hideFor H base (((ancs ops [])[j]?).getD 0) ops.length) (base + j) (nn + j * 4096) (nn + j * 4096) e.v H' [base + i])))

/-- A row that a step made, under another number; what else it made is forgotten. -/
theorem Went.fresh {g g' : Gh} {H H' : Hp} {w w' : World} {N : Nat → Prop} {b k m : Nat} {t : Ty} {l : List t.den} {D : List Nat} {u : Value} (hw : Went g H w N (.own b k) H' D u w' g') (hr : HRel g H w) (hD : ∀ x ∈ D, g.G x = .none)
    (hb : g.G b = .none) (hb' : H' b = .arr t l k) (hm : g.G m = .none) : Went g H w (fun x => x = m) (.own m 0) (upd H m (.arr t l 0)) [] u w' ⟨g'.F, upd g.i m (g'.i b), upd g.G m (.arr t 0 l.length)⟩ := by
  have hk : g'.G b = .arr t k l.length := by rw [hw.rel.kd b (fun e => by rw [hb'] at e; cases e), hb']; rfl
  have hne : ∀ x, g.G x ≠ .none → x ≠ m := fun x hx e => hx (e ▸ hm)
  have same : ∀ x, g.G x ≠ .none → g'.G x = g.G x ∧ g'.i x = g.i x := fun x hx => by
    obtain ⟨h1, h2, _⟩ := hw.ext.same x hx fun hx' => hx (hD x hx')
    exact ⟨h1, h2⟩
  have gG : ∀ {x}, upd g.G m (Kd.arr t 0 l.length) x ≠ .none → x ≠ m → g.G x ≠ .none := fun {x} h e => by rwa [upd_ne _ _ e] at h
  have he : Ext g H w [] ⟨g'.F, upd g.i m (g'.i b), upd g.G m (.arr t 0 l.length)⟩ (upd H m (.arr t l 0)) w' := by
    refine ⟨hw.ext.mono, fun r hr' => ?_, hw.ext.size, fun r hlt _ => hw.ext.frame r hlt fun x hx hn => absurd (hD x hx) hn, (fun b hb => by cases hb), fun x hx _ => ⟨upd_ne _ _ (hne x hx), upd_ne _ _ (hne x hx), upd_ne _ _ (hne x hx)⟩, (fun b hb => by cases hb), (fun b hb => by cases hb), fun x r c h h' hi => ?_, hw.ext.env⟩
    · rcases hw.ext.more r hr' with h | ⟨x, hx, hn, _⟩ | h
      · exact .inl h
      · exact absurd (hD x hx) hn
      · exact .inr (.inr h)
    · by_cases e : x = m
      · subst e
        have hi' : upd g.i x (g'.i b) x = some (r, c) := hi
        rw [upd_same] at hi'
        exact (hw.ext.fresh b r c hb (by rw [hk]; exact fun h => by cases h) hi').imp id fun ⟨x, hx, hn, _⟩ => absurd (hD x hx) hn
      · exact absurd h (gG h' e)
  have live : ∀ x, g'.G x = .none → g.G x = .none := fun x hx => Classical.byContradiction fun hn => hn (by rw [← (same x hn).1]; exact hx)
  refine ⟨he, ⟨fun x => ?_, fun x hx => ?_, fun x x' r c c' h1 h2 h3 h4 h5 h6 => ?_, fun x r c h1 h2 h3 => ?_, hw.rel.ex⟩, ?_, fun x h h' => ?_⟩
  · by_cases e : x = m
    · subst e; rw [upd_same]
      have hB := hw.rel.blk b
      rw [hb'] at hB
      rcases hB with ⟨h1, h2⟩ | ⟨r, cap, vs, e, h1, h2⟩
      · exact .inl ⟨by show upd g.i x (g'.i b) x = none; rw [upd_same]; exact h1, h2⟩
      · exact .inr ⟨r, cap, vs, e, by show upd g.i x (g'.i b) x = _; rw [upd_same]; exact h1, h2⟩
    · rw [upd_ne _ _ e]
      by_cases hg : H x = .gone
      · rw [hg]; exact trivial
      · exact RelB.step he hr hg (fun h => by cases h)
  · show upd g.G m (Kd.arr t 0 l.length) x = _
    by_cases e : x = m
    · subst e; rw [upd_same, upd_same]; rfl
    · rw [upd_ne _ _ e, upd_ne _ _ e]
      exact hr.kd x (fun h => hx (by rw [upd_ne _ _ e]; exact h))
  · have h1' : upd g.i m (g'.i b) x = some (r, c) := h1
    have h2' : upd g.i m (g'.i b) x' = some (r, c') := h2
    have k3 : upd g.G m (Kd.arr t 0 l.length) x ≠ .none := h3
    have k4 : upd g.G m (Kd.arr t 0 l.length) x ≠ .dead := h4
    have k5 : upd g.G m (Kd.arr t 0 l.length) x' ≠ .none := h5
    have k6 : upd g.G m (Kd.arr t 0 l.length) x' ≠ .dead := h6
    have kb : g'.G b ≠ .none ∧ g'.G b ≠ .dead := by rw [hk]; exact ⟨(fun h => by cases h), (fun h => by cases h)⟩
    by_cases e : x = m
    · by_cases e' : x' = m
      · rw [e, e']
      · exfalso
        subst e
        rw [upd_same] at h1'; rw [upd_ne _ _ e'] at h2' k5 k6
        obtain ⟨s1, s2⟩ := same x' k5
        have := hw.rel.inj b x' r c c' h1' (by rw [s2]; exact h2') kb.1 kb.2 (by rw [s1]; exact k5) (by rw [s1]; exact k6)
        rw [this] at hb; exact k5 hb
    · by_cases e' : x' = m
      · exfalso
        subst e'
        rw [upd_same] at h2'; rw [upd_ne _ _ e] at h1' k3 k4
        obtain ⟨s1, s2⟩ := same x k3
        have := hw.rel.inj x b r c c' (by rw [s2]; exact h1') h2' (by rw [s1]; exact k3) (by rw [s1]; exact k4) kb.1 kb.2
        rw [← this] at hb; exact k3 hb
      · rw [upd_ne _ _ e] at h1' k3 k4
        rw [upd_ne _ _ e'] at h2' k5 k6
        exact hr.inj x x' r c c' h1' h2' k3 k4 k5 k6
  · have h1' : upd g.i m (g'.i b) x = some (r, c) := h1
    have k2 : upd g.G m (Kd.arr t 0 l.length) x ≠ .none := h2
    have k3 : upd g.G m (Kd.arr t 0 l.length) x ≠ .dead := h3
    by_cases e : x = m
    · subst e
      rw [upd_same] at h1'
      exact hw.rel.disj b r c h1' (by rw [hk]; exact fun h => by cases h) (by rw [hk]; exact fun h => by cases h)
    · rw [upd_ne _ _ e] at h1' k2 k3
      obtain ⟨s1, s2⟩ := same x k2
      exact hw.rel.disj x r c (by rw [s2]; exact h1') (by rw [s1]; exact k2) (by rw [s1]; exact k3)
  · have hv := hw.val
    cases hv with
    | own _ _ _ q1 q2 q3 =>
      obtain ⟨_, q4⟩ := q3 t k l.length hk
      refine .own m 0 u (by show upd g.G m (Kd.arr t 0 l.length) m ≠ .none; rw [upd_same]; exact fun h => by cases h) q2 fun t' k' n' hG => ?_
      have hG : upd g.G m (Kd.arr t 0 l.length) m = .arr t' k' n' := hG
      rw [upd_same] at hG
      cases hG
      refine ⟨Nat.le_refl _, fun _ => ?_⟩
      obtain ⟨a, cap, e1, e2, e3⟩ := q4 rfl
      refine ⟨a, cap, e1, e2, ?_⟩
      show (upd g.i m (g'.i b) m = none ∧ _) ∨ ∃ r, upd g.i m (g'.i b) m = _ ∧ _
      rw [upd_same]; exact e3
  · by_cases e : x = m
    · exact e
    · have h' : upd g.G m (Kd.arr t 0 l.length) x ≠ .none := h'
      rw [upd_ne _ _ e] at h'
      exact absurd h h'
theorem OpOk.fresh {o : Oper} {ρ : Operand → AV} {H H' : Hp} {nb n n' b k : Nat} {t : Ty} {l : List t.den} {D : List Nat} (h : OpOk P o ρ H nb n n' (.own b k) H' D) (hb : n ≤ b) (hb' : H' b = .arr t l k) (hD : ∀ x ∈ D, x = nb ∨ n ≤ x) :
    OpOk P o ρ H nb n n (.own nb 0) (upd H nb (.arr t l 0)) [] :=
  ⟨Nat.le_refl _, fun g a w hr hρ hs hn => (h.2 g a w hr hρ hs hn).mono fun u w' ⟨g', hw⟩ => by
    have hf := hw.fresh hr (fun x hx => by
      rcases hD x hx with e | e
      · rw [e]; exact hs
      · exact hn x e) (hn b hb) hb' hs
    exact ⟨_, hf.ext, hf.rel, hf.val, fun x h1 h2 => .inl (hf.new x h1 h2)⟩⟩

/-- What an operation does to its own block alone leaves what there was as it was. -/
theorem OpOk.own {o : Oper} {ρ : Operand → AV} {H H' : Hp} {nb n n' : Nat} {v : AV} {D : List Nat} (h : OpOk P o ρ H nb n n' v H' D) (hD : ∀ b ∈ D, b = nb) : OpOk P o ρ H nb n n' v H' [] :=
  ⟨h.1, fun g a w hr hρ hs hn => (h.2 g a w hr hρ hs hn).mono fun u w' ⟨g', hw⟩ => by
    have hDn : ∀ b ∈ D, g.G b = .none := fun b hb => by rw [hD b hb]; exact hs
    refine ⟨g', ⟨⟨hw.ext.mono, fun r hr' => ?_, hw.ext.size, fun r hlt _ => hw.ext.frame r hlt fun b hb hne => absurd (hDn b hb) hne, (fun b hb => by cases hb), fun b hb _ => hw.ext.same b hb fun hb' => hb (hDn b hb'), (fun b hb => by cases hb), (fun b hb => by cases hb), fun b r c h1 h2 h3 => (hw.ext.fresh b r c h1 h2 h3).imp id fun ⟨x, hx, hn, _⟩ => absurd (hDn x hx) hn, hw.ext.env⟩, hw.rel, hw.val, hw.new⟩⟩
    rcases hw.ext.more r hr' with h | ⟨b, hb, hne, _⟩ | h
    · exact .inl h
    · exact absurd (hDn b hb) hne
    · exact .inr (.inr h)⟩

section text
variable {E : FuncId → Option Entry} {inl : Inl R} {H : Hints} {id base : Nat} {ops : List Oper} {tm0 : Nat → AV} {hp0 : Hp} {d0 : List Nat} {κ : St → Option R} {r : R} {nt nn : Nat}

theorem evAt_app {pre suf : List Ev} {i : Nat} (h : i < pre.length) : evAt (pre ++ suf) i = evAt pre i := by
  unfold evAt; rw [List.getElem?_append_left h]
theorem tmD_pre {pre suf : List Ev} {D : Nat → Bool} : ∀ {m : Nat}, m ≤ pre.length → tmD ops (pre ++ suf) tm0 D m = tmD ops pre tm0 D m
  | 0, _ => rfl
  | m + 1, h => by simp only [tmD]; rw [tmD_pre (by omega), evAt_app (by omega)]
theorem hpD_pre {pre suf : List Ev} {D : Nat → Bool} : ∀ {m : Nat}, m ≤ pre.length → hpD (pre ++ suf) base hp0 D m = hpD pre base hp0 D m
  | 0, _ => rfl
  | m + 1, h => by simp only [hpD]; rw [hpD_pre (by omega), evAt_app (by omega)]
theorem dD_pre {pre suf : List Ev} {D : Nat → Bool} : ∀ {m : Nat}, m ≤ pre.length → dD (pre ++ suf) d0 D m = dD pre d0 D m
  | 0, _ => rfl
  | m + 1, h => by simp only [dD]; rw [dD_pre (by omega), evAt_app (by omega)]

/-- The text's own order, told operation by operation. -/
theorem runOps_text (hE : ∀ f e, E f = some e → Holds P f e) (hI : InlOk P inl) : ∀ (os : List Oper) (pre : List Ev) (st : St), (∀ i, os[i]? = ops[pre.length + i]?) → pre.length + os.length = ops.length →
    st.nt = nt → st.n = nn → st.tm = tmD ops pre tm0 (fun _ => true) pre.length → st.hp = hpD pre base hp0 (fun _ => true) pre.length → st.dirty = dD pre d0 (fun _ => true) pre.length →
    runOps P E inl H id ops (ancs ops []) true base os pre.length st κ = some r →
    ∃ suf, suf.length = os.length ∧ κ ⟨nt, tmD ops (pre ++ suf) tm0 (fun _ => true) ops.length, hpD (pre ++ suf) base hp0 (fun _ => true) ops.length, nn, dD (pre ++ suf) d0 (fun _ => true) ops.length⟩ = some r ∧
      ∀ i o, pre.length ≤ i → ops[i]? = some o → dstOk nt o.dst = true ∧ Fact P (H.wr id) (H.bd id) ops base nn i o (tmD ops (pre ++ suf) tm0 (fun _ => true) i) (hpD (pre ++ suf) base hp0 (fun _ => true) i) (evAt (pre ++ suf) i)
  | [], pre, st, hos, hlen, e1, e2, e3, e4, e5, h => by
    have hl : pre.length = ops.length := by simpa using hlen
    refine ⟨[], rfl, ?_, fun i o hi ho => ?_⟩
    · have h : κ st = some r := h
      rw [List.append_nil, ← hl, ← e3, ← e4, ← e5, ← e1, ← e2]; exact h
    · have := (List.getElem?_eq_some_iff.1 ho).1
      omega
  | o :: os, pre, st, hos, hlen, e1, e2, e3, e4, e5, h => by
    have ho : ops[pre.length]? = some o := by have := hos 0; simpa using this.symm
    simp only [List.length_cons] at hlen
    simp only [runOps] at h
    obtain ⟨hd, h⟩ := br_none h
    have hdst : dstAt ops pre.length = o.dst := by simp [dstAt, ho]
    -- what goes on behind an operation of which e came
    have next : ∀ (e : Ev) (st1 : St), st1.nt = nt → st1.n = nn → st1.tm = setDst o.dst st.tm e.v → st1.hp = e.eff base pre.length st.hp → st1.dirty = e.d ++ st.dirty →
        Fact P (H.wr id) (H.bd id) ops base nn pre.length o st.tm st.hp e → runOps P E inl H id ops (ancs ops []) true base os (pre.length + 1) st1 κ = some r →
        ∃ suf, suf.length = (o :: os).length ∧ κ ⟨nt, tmD ops (pre ++ suf) tm0 (fun _ => true) ops.length, hpD (pre ++ suf) base hp0 (fun _ => true) ops.length, nn, dD (pre ++ suf) d0 (fun _ => true) ops.length⟩ = some r ∧
          ∀ i o, pre.length ≤ i → ops[i]? = some o → dstOk nt o.dst = true ∧ Fact P (H.wr id) (H.bd id) ops base nn i o (tmD ops (pre ++ suf) tm0 (fun _ => true) i) (hpD (pre ++ suf) base hp0 (fun _ => true) i) (evAt (pre ++ suf) i) := by
      intro e st1 f1 f2 f3 f4 f5 hf hk
      have hev : evAt (pre ++ [e]) pre.length = e := by simp [evAt]
      have hlen1 : (pre ++ [e]).length = pre.length + 1 := by simp
      obtain ⟨suf, s1, s2, s3⟩ := runOps_text hE hI os (pre ++ [e]) st1 (fun i => by rw [hlen1]; have := hos (i + 1); simpa [Nat.add_assoc, Nat.add_comm 1 i] using this) (by rw [hlen1]; omega) f1 f2
        (by rw [hlen1, f3]; simp only [tmD, if_true]; rw [hdst, tmD_pre (Nat.le_refl _), hev, e3]) (by rw [hlen1, f4]; simp only [hpD, if_true]; rw [hpD_pre (Nat.le_refl _), hev, e4]) (by rw [hlen1, f5]; simp only [dD, if_true]; rw [dD_pre (Nat.le_refl _), hev, e5]) (by rw [hlen1]; exact hk)
      refine ⟨e :: suf, by simp [s1], ?_, fun i o' hi ho' => ?_⟩
      · rw [show pre ++ e :: suf = pre ++ [e] ++ suf by simp]; exact s2
      · rw [show pre ++ e :: suf = pre ++ [e] ++ suf by simp]
        by_cases hi' : i = pre.length
        · subst hi'
          rw [ho] at ho'; cases ho'
          rw [tmD_pre (by rw [hlen1]; omega), hpD_pre (by rw [hlen1]; omega), evAt_app (by rw [hlen1]; omega), hev, tmD_pre (Nat.le_refl _), hpD_pre (Nat.le_refl _), ← e3, ← e4]
          exact ⟨by rw [← e1]; exact hd, hf⟩
        · exact s3 i o' (by rw [hlen1]; omega) ho'
    have exec : ∀ (st1 : St), st1.nt = st.nt → st1.n = st.n → st1.tm = st.tm → st1.hp = st.hp → st1.dirty = st.dirty → Wants ops o st.tm true → stepOp P E inl H id ops (ancs ops []) true base pre.length o st1 (fun st' => runOps P E inl H id ops (ancs ops []) true base os (pre.length + 1) st' κ) = some r →
        ∃ suf, suf.length = (o :: os).length ∧ κ ⟨nt, tmD ops (pre ++ suf) tm0 (fun _ => true) ops.length, hpD (pre ++ suf) base hp0 (fun _ => true) ops.length, nn, dD (pre ++ suf) d0 (fun _ => true) ops.length⟩ = some r ∧
          ∀ i o, pre.length ≤ i → ops[i]? = some o → dstOk nt o.dst = true ∧ Fact P (H.wr id) (H.bd id) ops base nn i o (tmD ops (pre ++ suf) tm0 (fun _ => true) i) (hpD (pre ++ suf) base hp0 (fun _ => true) i) (evAt (pre ++ suf) i) := by
      intro st1 f1 f2 f3 f4 f5 hw hs
      unfold stepOp at hs
      obtain ⟨_, hs⟩ := br_none hs
      have hs : br (memN (H.bd id) pre.length) _ _ = some r := hs
      rcases br_some hs with ⟨hbd, hs'⟩ | ⟨hbd, hs'⟩ <;> clear hs
      · unfold loadC at hs'
        split at hs' <;> try (cases hs'; done)
        case h_2 t x ix hop =>
          obtain ⟨v, hk, hi⟩ := idxC_sound hs'
          refine next ⟨v, some (pre.length, .gone), none, []⟩ _ (by show st1.nt = nt; rw [f1, e1]) (by show st1.n = nn; rw [f2, e2]) (by show setDst o.dst st1.tm v = _; rw [f3]) (by show upd st1.hp (base + pre.length) _ = upd st.hp (base + pre.length) .gone; rw [f4]) (by show st1.dirty = _; rw [f5]; rfl) ?_ hk
          refine .inr ⟨hw, .inl ⟨rfl, rfl, rfl, by unfold blind; rw [hbd]; exact Bool.or_true _, fun g a w hρ => ?_⟩⟩
          have hx := hρ x (by rw [hop]; simp [Op.operands])
          have hy := hρ ix (by rw [hop]; simp [Op.operands])
          rw [← f3] at hx hy
          obtain ⟨u', q1, q2⟩ := hi g w _ _ hx hy
          refine ⟨u', ?_, q2⟩
          unfold execOp
          rw [hop]
          simp [q1]
        case h_3 s d x hop =>
          split at hs' <;> try (cases hs'; done)
          rename_i sd hsd
          have conv : ∀ (v : AV), (∀ (a : Act) (w : World) k m, a.eval x = .int k m → evalO st1.tm x = .int k m → ∃ u, (convert s d (a.eval x)).run P w = .ok u w ∧ ∀ g, RelV g w v u) → (∃ k m, evalO st1.tm x = .int k m) →
              runOps P E inl H id ops (ancs ops []) true base os (pre.length + 1) { st1 with tm := setDst o.dst st1.tm v, hp := upd st1.hp (base + pre.length) .gone } κ = some r → ∃ suf, suf.length = (o :: os).length ∧ κ ⟨nt, tmD ops (pre ++ suf) tm0 (fun _ => true) ops.length, hpD (pre ++ suf) base hp0 (fun _ => true) ops.length, nn, dD (pre ++ suf) d0 (fun _ => true) ops.length⟩ = some r ∧
          ∀ i o, pre.length ≤ i → ops[i]? = some o → dstOk nt o.dst = true ∧ Fact P (H.wr id) (H.bd id) ops base nn i o (tmD ops (pre ++ suf) tm0 (fun _ => true) i) (hpD (pre ++ suf) base hp0 (fun _ => true) i) (evAt (pre ++ suf) i) := by
            intro v hv ⟨k, m, hx0⟩ hk
            refine next ⟨v, some (pre.length, .gone), none, []⟩ _ (by show st1.nt = nt; rw [f1, e1]) (by show st1.n = nn; rw [f2, e2]) (by show setDst o.dst st1.tm v = _; rw [f3]) (by show upd st1.hp (base + pre.length) _ = upd st.hp (base + pre.length) .gone; rw [f4]) (by show st1.dirty = _; rw [f5]; rfl) ?_ hk
            refine .inr ⟨hw, .inl ⟨rfl, rfl, rfl, by unfold blind; rw [hbd]; exact Bool.or_true _, fun g a w hρ => ?_⟩⟩
            have hx := hρ x (by rw [hop]; simp [Op.operands])
            rw [← f3, hx0] at hx
            have hx1 : a.eval x = .int k m := by
              generalize a.eval x = u at hx
              cases hx; rfl
            obtain ⟨u', q1, q2⟩ := hv a w k m hx1 hx0
            refine ⟨u', ?_, q2 g⟩
            unfold execOp
            rw [hop]
            simp [q1]
          split at hs' <;> try (cases hs'; done)
          · rename_i k k0 m hd hxv
            exact conv _ (fun a w k m e1 e2 => ⟨_, by rw [hxv] at e2; cases e2; rw [e1]; simp [convert, run_underlying hsd, run_underlying hd, Conv.intToInt], fun g => .int ..⟩) ⟨_, _, hxv⟩ hs'
          · rename_i k0 m hd hxv
            exact conv _ (fun a w k m e1 e2 => ⟨_, by rw [hxv] at e2; cases e2; rw [e1]; simp [convert, run_underlying hsd, run_underlying hd, Conv.intToFloat]; rfl, fun g => .flt ..⟩) ⟨_, _, hxv⟩ hs'
        case h_4 c hop =>
          split at hs' <;> try (cases hs'; done)
          rename_i ty l t hcal hargs hats
          split at hs' <;> try (cases hs'; done)
          rename_i e ht
          refine next ⟨.int .i64 l.length, some (pre.length, .gone), none, []⟩ _ (by show st1.nt = nt; rw [f1, e1]) (by show st1.n = nn; rw [f2, e2]) (by show setDst o.dst st1.tm (.int .i64 l.length) = _; rw [f3]) (by show upd st1.hp (base + pre.length) _ = upd st.hp (base + pre.length) .gone; rw [f4]) (by show st1.dirty = _; rw [f5]; rfl) ?_ hs'
          refine .inr ⟨hw, .inl ⟨rfl, rfl, rfl, by unfold blind; rw [hbd]; exact Bool.or_true _, fun g a w hρ => ?_⟩⟩
          obtain ⟨x, hxs⟩ : ∃ x, c.args.toList = [x] := by
            cases hc : c.args.toList with
            | nil => have := congrArg List.length hargs; simp [hc] at this
            | cons y l' =>
              cases l' with
              | nil => exact ⟨y, rfl⟩
              | cons => have := congrArg List.length hargs; simp [hc] at this
          have hx0 : evalO st1.tm x = .vals ty l := by
            rw [hxs] at hargs; simpa using hargs
          have hx := hρ x (by
            rw [hop]
            have : x ∈ c.args.toList := by rw [hxs]; exact List.mem_singleton.2 rfl
            show x ∈ c.operands
            unfold Call.operands
            exact Array.mem_append.2 (.inr (Array.mem_toList_iff.1 this)))
          rw [← f3, hx0] at hx
          have hx1 : ∃ ad cap, a.eval x = .slice ad l.length cap := by
            generalize a.eval x = u at hx
            cases hx with
            | vals _ _ _ h => obtain ⟨ad, cap, e, _⟩ := h; cases e; exact ⟨ad, cap, rfl⟩
          obtain ⟨ad, cap, hx1⟩ := hx1
          have hus : c.args.map a.eval = #[.slice ad l.length cap] := by
            apply Array.ext'
            rw [Array.toList_map, hxs]; simp [hx1]
          refine ⟨.int .i64 l.length, ?_, .int ..⟩
          obtain ⟨callee, args, ats⟩ := c
          cases hcal
          unfold execOp
          rw [hop]
          simp only [resolve, Sem.run_bind, Sem.run_pure, Result.andThen_ok, invoke, builtin, hus]
          have hats : ats[0]? = some t := hats
          simp [Builtin.len_, hats, run_underlying ht, goInt]
        rename_i t x hop
        split at hs' <;> try (cases hs'; done)
        rename_i cs hcs
        split at hs' <;> try (cases hs'; done)
        rename_i v hv
        refine next ⟨v, some (pre.length, .gone), none, []⟩ _ (by show st1.nt = nt; rw [f1, e1]) (by show st1.n = nn; rw [f2, e2]) (by show setDst o.dst st1.tm v = _; rw [f3]) (by show upd st1.hp (base + pre.length) _ = upd st.hp (base + pre.length) .gone; rw [f4]) (by show st1.dirty = _; rw [f5]; rfl) ?_ hs'
        refine .inr ⟨hw, .inl ⟨rfl, rfl, rfl, by unfold blind; rw [hbd]; exact Bool.or_true _, fun g a w hρ => ?_⟩⟩
        have hx := hρ x (by rw [hop]; simp [Op.operands])
        rw [← f3, hcs] at hx
        generalize hu : a.eval x = u at hx
        cases hx with
        | cptr _ ad f h1 h2 =>
          obtain ⟨u', q1, q2⟩ := partV_load (ad := ad) hv (fun j c hj => ⟨f j, (h1 j c hj).2, h2 j c hj⟩)
          refine ⟨u', ?_, q2⟩
          rw [Addr.add_zero'] at q1
          unfold execOp
          rw [hop]
          simp [hu, Instr.loadAt, Instr.sureAddr, q1]
      have hs : br (memN (H.jo id) pre.length) _ _ = some r := hs'
      clear hs'
      rcases br_some hs with ⟨_, hs'⟩ | ⟨_, hs'⟩ <;> clear hs
      · obtain ⟨hh, hs⟩ := none_br hs'
        clear hs'
        rw [aopT_congr (ρ' := evalO (seen o st1.tm)) fun x hx => (seen_eval hx).symm] at hs
        obtain ⟨v, H', n', D, hk, hop⟩ := step_sound hE hI hs
        unfold joinOwn at hk
        split at hk <;> try (cases hk; done)
        rename_i b k
        split at hk <;> try (cases hk; done)
        rename_i t l k' hH'
        obtain ⟨hc, hk2⟩ := br_none hk
        obtain ⟨hc1, hc2⟩ := and_spec hc
        obtain ⟨hc4, hc3⟩ := and_spec hc2
        cases Nat.eq_of_beq_eq_true hc1
        have hop := hop.fresh (Nat.le_of_ble_eq_true hc4) hH' fun x hx => by
          have := List.all_eq_true.1 hc3 x hx
          have this : ((Nat.beq x (base + pre.length)) || (Nat.ble (st1.n + pre.length * 4096) x)) = true := this
          rw [Bool.or_eq_true] at this
          exact this.imp Nat.eq_of_beq_eq_true Nat.le_of_ble_eq_true
        refine next ⟨.own (base + pre.length) 0, some (pre.length, .arr t l 0), none, []⟩ _ (by show st1.nt = nt; rw [f1, e1]) (by show st1.n = nn; rw [f2, e2]) (by show setDst o.dst st1.tm _ = _; rw [f3]) (by show upd st1.hp (base + pre.length) _ = upd st.hp (base + pre.length) _; rw [f4]) (by show st1.dirty = _; rw [f5]; rfl) ?_ hk2
        rw [f2, e2, f3, f4] at hop
        exact .inr ⟨hw, .inr (.inl ⟨by unfold blind; rw [hh, hbd]; rfl, rfl, rfl, _, by rw [upd_same], hop⟩)⟩
      have hs : br (memN (H.lw id) pre.length) _ _ = some r := hs'
      clear hs'
      rcases br_some hs with ⟨_, hs'⟩ | ⟨_, hs'⟩ <;> clear hs
      · obtain ⟨hh, hs⟩ := none_br hs'
        clear hs'
        rw [aopT_congr (ρ' := evalO (seen o st1.tm)) fun x hx => (seen_eval hx).symm] at hs
        obtain ⟨v, H', n', D, hk, hop⟩ := step_sound hE hI hs
        split at hk <;> try (cases hk; done)
        rename_i b
        obtain ⟨hc, hk⟩ := br_none hk
        obtain ⟨hc1, hc2⟩ := and_spec hc
        obtain ⟨hb1, hc3⟩ := and_spec hc2
        obtain ⟨hb2, hb3⟩ := and_spec hc3
        have hn := Nat.eq_of_beq_eq_true hc1
        obtain ⟨i, rfl⟩ : ∃ i, b = base + i := ⟨b - base, by have := Nat.le_of_ble_eq_true hb1; omega⟩
        rw [Nat.add_sub_cancel_left] at hb2 hb3
        refine next ⟨v, some (i, H' (base + i)), none, [base + i]⟩ _ (by show st1.nt = nt; rw [f1, e1]) (by show st1.n = nn; rw [f2, e2]) (by show setDst o.dst st1.tm v = _; rw [f3]) (by show upd st1.hp (base + i) _ = upd st.hp (base + i) _; rw [f4]) (by show [base + i] ++ st1.dirty = _; rw [f5]) ?_ hk
        rw [f2, e2] at hn hop
        rw [f3, f4, hn] at hop
        exact .inr ⟨hw, .inr (.inr (.inr ⟨by unfold blind; rw [hh, hbd]; rfl, rfl, i, H', hb2, hb3, rfl, rfl, hop⟩))⟩
      have hs : br (memN (H.wr id) pre.length) _ _ = some r := hs'
      clear hs'
      rcases br_some hs with ⟨hwr, hs'⟩ | ⟨_, hs'⟩ <;> clear hs
      · obtain ⟨hbar, hs⟩ := br_none hs'
        clear hs'
        rw [aopT_congr (ρ' := evalO (seen o st1.tm)) fun x hx => (seen_eval hx).symm] at hs
        obtain ⟨v, H', n', D, hk, hop⟩ := step_sound hE hI hs
        obtain ⟨hn, hk⟩ := br_none hk
        have hn := Nat.le_of_ble_eq_true hn
        refine next ⟨v, none, some H', D⟩ _ (by show st1.nt = nt; rw [f1, e1]) (by show st1.n = nn; rw [f2, e2]) (by show setDst o.dst st1.tm v = _; rw [f3]) rfl (by show D ++ st1.dirty = _; rw [f5]) ?_ hk
        rw [f2, e2] at hn hop
        rw [f3, f4] at hop
        exact .inr ⟨hw, .inr (.inr (.inl ⟨hwr, hbar, H', n', rfl, hn, hop⟩))⟩
      · obtain ⟨hth, hs⟩ := none_br hs'
        clear hs'
        cases hh : heapless o with
        | true =>
          rw [hh] at hth
          have hth : (memN (H.thaw id) pre.length || memN (H.freeze id) pre.length) = false := hth
          rw [Bool.or_eq_false_iff] at hth
          rw [hth.1, hth.2] at hs
          have hs : aop P E inl o (evalO st1.tm) (hideFor st1.hp base (((ancs ops [])[pre.length]?).getD 0) ops.length) (base + pre.length) (st1.n + pre.length * 4096) (fun v hp' n' d => br (d.all (Nat.beq (base + pre.length))) (br (Nat.beq n' (st1.n + pre.length * 4096)) (runOps P E inl H id ops (ancs ops []) true base os (pre.length + 1) { st1 with tm := setDst o.dst st1.tm v, hp := upd st1.hp (base + pre.length) (hp' (base + pre.length)) } κ) none) none) = some r := hs
          obtain ⟨v, hk, hop⟩ := heapless_sound hh hs
          obtain ⟨_, hk⟩ := br_none hk
          obtain ⟨hn, hk⟩ := br_none hk
          have hgone : hideFor st1.hp base (((ancs ops [])[pre.length]?).getD 0) ops.length (base + pre.length) = .gone := by
            rcases hide_spec (H := st1.hp) (base := base) (m := ((ancs ops [])[pre.length]?).getD 0) (k := ops.length) (b := base + pre.length) with h | ⟨_, h⟩
            · exact h
            · have := anc_lt _ _ (h pre.length (by omega) rfl); omega
          refine next ⟨v, some (pre.length, .gone), none, []⟩ _ (by show st1.nt = nt; rw [f1, e1]) (by show st1.n = nn; rw [f2, e2]) (by show setDst o.dst st1.tm v = _; rw [f3]) (by show upd st1.hp (base + pre.length) _ = upd st.hp (base + pre.length) .gone; rw [hgone, f4]) (by show st1.dirty = _; rw [f5]; rfl) ?_ hk
          rw [f3] at hop
          exact .inr ⟨hw, .inl ⟨rfl, rfl, rfl, by unfold blind; rw [hh]; rfl, hop⟩⟩
        | false =>
          rw [aopT_congr (ρ' := evalO (seen o st1.tm)) fun x hx => (seen_eval hx).symm] at hs
          obtain ⟨v, H', n', D, hk, hop⟩ := step_sound hE hI hs
          obtain ⟨hD, hk⟩ := br_none hk
          have hop := hop.own fun b hb => (Nat.eq_of_beq_eq_true (List.all_eq_true.1 hD b hb)).symm
          clear hD
          obtain ⟨hn, hk⟩ := br_none hk
          have hn := Nat.eq_of_beq_eq_true hn
          refine next ⟨v, some (pre.length, H' (base + pre.length)), none, []⟩ _ (by show st1.nt = nt; rw [f1, e1]) (by show st1.n = nn; rw [f2, e2]) (by show setDst o.dst st1.tm v = _; rw [f3]) (by show upd st1.hp (base + pre.length) _ = upd st.hp (base + pre.length) _; rw [f4]) (by show st1.dirty = _; rw [f5]; rfl) ?_ hk
          rw [f2, e2] at hn hop
          rw [f3, f4, hn] at hop
          exact .inr ⟨hw, .inr (.inl ⟨by unfold blind; rw [hh, hbd]; rfl, rfl, rfl, H', rfl, hop⟩)⟩
    have skip : ∀ (st1 : St), st1.nt = st.nt → st1.n = st.n → st1.tm = setDst o.dst st.tm (.tup []) → st1.hp = st.hp → st1.dirty = st.dirty → Wants ops o st.tm false → runOps P E inl H id ops (ancs ops []) true base os (pre.length + 1) st1 κ = some r →
        ∃ suf, suf.length = (o :: os).length ∧ κ ⟨nt, tmD ops (pre ++ suf) tm0 (fun _ => true) ops.length, hpD (pre ++ suf) base hp0 (fun _ => true) ops.length, nn, dD (pre ++ suf) d0 (fun _ => true) ops.length⟩ = some r ∧
          ∀ i o, pre.length ≤ i → ops[i]? = some o → dstOk nt o.dst = true ∧ Fact P (H.wr id) (H.bd id) ops base nn i o (tmD ops (pre ++ suf) tm0 (fun _ => true) i) (hpD (pre ++ suf) base hp0 (fun _ => true) i) (evAt (pre ++ suf) i) := by
      intro st1 f1 f2 f3 f4 f5 hw hk
      exact next ⟨.tup [], none, none, []⟩ st1 (by rw [f1, e1]) (by rw [f2, e2]) f3 f4 (by rw [f5]; rfl) (.inl ⟨hw, rfl⟩) hk
    split at h
    · rename_i hgd
      exact exec st rfl rfl rfl rfl rfl (.inl ⟨hgd, rfl⟩) h
    · rename_i gi want hgd
      split at h <;> try (cases h; done)
      rename_i t ht
      split at h <;> try (cases h; done)
      · rename_i b hb
        have e0 : upd st.tm t (.bool b) = st.tm := upd_eq hb
        have hw : ∀ c, c = (b == want) → Wants ops o st.tm c := fun c hc => .inr ⟨gi, want, t, hgd, ht, .inl ⟨b, hb, hc⟩⟩
        cases b <;> cases want <;> simp only [br] at h
        · refine exec _ ?_ ?_ ?_ ?_ ?_ (hw true rfl) h <;> first | exact e0 | rfl
        · refine skip _ ?_ ?_ ?_ ?_ ?_ (hw false rfl) h <;> first | (exact congrArg (fun f => setDst o.dst f (.tup [])) e0) | rfl
        · refine skip _ ?_ ?_ ?_ ?_ ?_ (hw false rfl) h <;> first | (exact congrArg (fun f => setDst o.dst f (.tup [])) e0) | rfl
        · refine exec _ ?_ ?_ ?_ ?_ ?_ (hw true rfl) h <;> first | exact e0 | rfl
      · rename_i hb
        refine skip { st with tm := setDst o.dst st.tm (.tup []) } rfl rfl rfl rfl rfl (.inr ⟨gi, want, t, hgd, ht, .inr ⟨hb, rfl⟩⟩) h
end text
end Go.VI

end
section
/- A region in any order: each order comes to what the text's own comes to. -/
namespace Go.VI
set_option linter.unusedVariables false
set_option linter.unusedSimpArgs false
variable {R : Type} {P : Program}

section fold
variable {ops : List Oper} {es : List Ev} {base : Nat}

theorem eff_alone {e : Ev} {j b : Nat} {H : Hp} (h : e.all = none) (hb : ∀ p, e.own = some p → b ≠ base + p.1) : e.eff base j H b = H b := by
  obtain ⟨v, own, all, d⟩ := e
  simp only at h hb; subst h
  cases own with
  | none => rfl
  | some x => exact upd_ne _ _ (hb x rfl)

theorem eff_less {e : Ev} {j b : Nat} {H H' : Hp} (h : H b = .gone ∨ H b = H' b) : e.eff base j H b = .gone ∨ e.eff base j H b = e.eff base j H' b := by
  obtain ⟨v, own, all, d⟩ := e
  cases all with
  | some _ => exact .inr rfl
  | none =>
    cases own with
    | none => exact h
    | some x =>
      show upd H (base + x.1) x.2 b = _ ∨ upd H (base + x.1) x.2 b = upd H' (base + x.1) x.2 b
      by_cases hb : b = base + x.1
      · subst hb; rw [upd_same, upd_same]; exact .inr rfl
      · rw [upd_ne _ _ hb, upd_ne _ _ hb]; exact h

/-- How an operation counts in one set and in another, at a block. -/
def Sim (es : List Ev) (base : Nat) (D' D : Nat → Bool) (b i : Nat) : Prop :=
  D' i = D i ∨ ((evAt es i).all = none ∧ ((∀ p, (evAt es i).own = some p → b ≠ base + p.1) ∨ (D' i = true ∧ ∃ k, (evAt es i).own = some (k, .gone))))

theorem hpD_less {hp0 : Hp} {D' D : Nat → Bool} {b : Nat} : ∀ {m : Nat}, (∀ i, i < m → Sim es base D' D b i) → hpD es base hp0 D' m b = .gone ∨ hpD es base hp0 D' m b = hpD es base hp0 D m b
  | 0, _ => .inr rfl
  | m + 1, h => by
    have ih := hpD_less (hp0 := hp0) (D' := D') (D := D) (b := b) (m := m) fun i hi => h i (by omega)
    simp only [hpD]
    rcases h m (by omega) with e | ⟨e1, e2⟩
    · rw [e]
      split
      · exact eff_less ih
      · exact ih
    · have alone : (∀ p, (evAt es m).own = some p → b ≠ base + p.1) → _ := fun hb => (by
        split <;> split <;> (try rw [eff_alone e1 hb]) <;> (try rw [eff_alone e1 hb]) <;> exact ih :
          (if D' m = true then (evAt es m).eff base m (hpD es base hp0 D' m) else hpD es base hp0 D' m) b = .gone ∨ (if D' m = true then (evAt es m).eff base m (hpD es base hp0 D' m) else hpD es base hp0 D' m) b = (if D m = true then (evAt es m).eff base m (hpD es base hp0 D m) else hpD es base hp0 D m) b)
      rcases e2 with e2 | ⟨e2, k, e3⟩
      · exact alone e2
      · by_cases hb : b = base + k
        · left
          rw [if_pos e2]
          unfold Ev.eff
          rw [e1, e3]
          simp only
          rw [hb, upd_same]
        · exact alone fun p hp => by rw [e3] at hp; cases hp; exact hb

theorem tmD_last {tm0 : Nat → AV} {D : Nat → Bool} {j t : Nat} (hD : D j = true) (hj : dstAt ops j = some t) : ∀ {m : Nat}, j < m → (∀ i, j < i → i < m → dstAt ops i = some t → D i = false) → tmD ops es tm0 D m t = (evAt es j).v
  | 0, h, _ => by omega
  | m + 1, h, hl => by
    simp only [tmD]
    by_cases e : m = j
    · subst e; rw [if_pos hD, hj, setDst_eq]
    · have ih := tmD_last (tm0 := tm0) hD hj (m := m) (by omega) fun i h1 h2 => hl i h1 (by omega)
      by_cases hd : dstAt ops m = some t
      · rw [if_neg (by rw [hl m (by omega) (by omega) hd]; decide)]; exact ih
      · split
        · rw [setDst_ne hd]; exact ih
        · exact ih

theorem tm_cut {tm0 : Nat → AV} {j t : Nat} : ∀ (k : Nat), tmD ops es tm0 (fun i => decide (i < j)) (j + k) t = tmD ops es tm0 (fun _ => true) j t
  | 0 => tmD_agree fun i hi _ => decide_eq_true hi
  | k + 1 => by
    show tmD ops es tm0 (fun i => decide (i < j)) (j + k + 1) t = _
    simp only [tmD]
    rw [if_neg (by simp)]
    exact tm_cut k
theorem hp_cut {hp0 : Hp} {j b : Nat} : ∀ (k : Nat), hpD es base hp0 (fun i => decide (i < j)) (j + k) b = hpD es base hp0 (fun _ => true) j b
  | 0 => hpD_agree fun i hi => .inr (decide_eq_true hi)
  | k + 1 => by
    show hpD es base hp0 (fun i => decide (i < j)) (j + k + 1) b = _
    simp only [hpD]
    rw [if_neg (by simp)]
    exact hp_cut k
theorem dD_split {d0 : List Nat} {D : Nat → Bool} : ∀ {m : Nat}, dD es d0 D m = dD es [] D m ++ d0
  | 0 => rfl
  | m + 1 => by
    simp only [dD]
    split
    · rw [dD_split, List.append_assoc]
    · exact dD_split
end fold

theorem own_last {ops : List Oper} {es : List Ev} {base : Nat} {hp0 : Hp} {D : Nat → Bool} {j k : Nat} {x : Blk} (hD : D j = true) (ha : (evAt es j).all = none) (ho : (evAt es j).own = some (k, x)) : ∀ {m : Nat}, j < m → (∀ i, j < i → i < m → D i = true → (evAt es i).all = none ∧ ∀ p, (evAt es i).own = some p → k ≠ p.1) → hpD es base hp0 D m (base + k) = x
  | 0, h, _ => by omega
  | m + 1, h, hl => by
    simp only [hpD]
    by_cases e : m = j
    · subst e
      rw [if_pos hD]
      unfold Ev.eff
      rw [ha, ho]
      exact upd_same _ _ _
    · have ih := own_last (ops := ops) (base := base) (hp0 := hp0) hD ha ho (m := m) (by omega) fun i h1 h2 => hl i h1 (by omega)
      split
      · rename_i hm
        obtain ⟨h1, h2⟩ := hl m (by omega) (by omega) hm
        rw [eff_alone h1 fun p hp => by have := h2 p hp; omega]; exact ih
      · exact ih

theorem bar_last {es : List Ev} {base : Nat} {hp0 : Hp} {D : Nat → Bool} {j b : Nat} {H' : Hp} (hD : D j = true) (ha : (evAt es j).all = some H') : ∀ {m : Nat}, j < m → (∀ i, j < i → i < m → D i = true → (evAt es i).all = none ∧ ∀ p, (evAt es i).own = some p → b ≠ base + p.1) → hpD es base hp0 D m b = H' b
  | 0, h, _ => by omega
  | m + 1, h, hl => by
    simp only [hpD]
    by_cases e : m = j
    · subst e
      rw [if_pos hD]
      unfold Ev.eff
      rw [ha]
    · have ih := bar_last (base := base) (hp0 := hp0) (b := b) hD ha (m := m) (by omega) fun i h1 h2 => hl i h1 (by omega)
      split
      · rename_i hm
        obtain ⟨h1, h2⟩ := hl m (by omega) (by omega) hm
        rw [eff_alone h1 h2]; exact ih
      · exact ih

theorem bar_less {es : List Ev} {base : Nat} {hp0 : Hp} {D : Nat → Bool} {j b : Nat} {H' : Hp} (hD : D j = true) (ha : (evAt es j).all = some H') : ∀ {m : Nat}, j < m → (∀ i, j < i → i < m → D i = true → (evAt es i).all = none ∧ ((evAt es i).own = none ∨ ∃ k, (evAt es i).own = some (k, .gone))) → hpD es base hp0 D m b = .gone ∨ hpD es base hp0 D m b = H' b
  | 0, h, _ => by omega
  | m + 1, h, hl => by
    simp only [hpD]
    by_cases e : m = j
    · subst e
      rw [if_pos hD]
      unfold Ev.eff
      rw [ha]
      exact .inr rfl
    · have ih := bar_less (base := base) (hp0 := hp0) (b := b) hD ha (m := m) (by omega) fun i h1 h2 => hl i h1 (by omega)
      split
      · rename_i hm
        obtain ⟨h1, h2⟩ := hl m (by omega) (by omega) hm
        rcases h2 with h2 | ⟨k, h2⟩
        · rw [eff_alone h1 fun p hp => by rw [h2] at hp; cases hp]; exact ih
        · by_cases hb : b = base + k
          · left
            unfold Ev.eff
            rw [h1, h2]
            simp only
            rw [hb, upd_same]
          · rw [eff_alone h1 fun p hp => by rw [h2] at hp; cases hp; exact hb]; exact ih
      · exact ih

theorem hide_seen {H : Hp} {base m : Nat} {k b : Nat} (h : ∀ i, i < k → b = base + i → m.testBit i = true) : hideFor H base m k b = H b := by
  unfold hideFor
  cases e : (Nat.ble base b).and ((Nat.blt b (base + k)).and (m.testBit (b - base)).not) with
  | false => rfl
  | true =>
    obtain ⟨h1, h2⟩ := and_spec e
    obtain ⟨h2, h3⟩ := and_spec h2
    have h1 := Nat.le_of_ble_eq_true h1
    have h2 : b < base + k := Nat.le_of_ble_eq_true h2
    rw [h (b - base) (by omega) (by omega)] at h3
    cases h3

theorem Ext.rebase {g g' : Gh} {H H' K K' : Hp} {w w' : World} {D : List Nat} (h : Ext g H w D g' H' w') (h1 : ∀ b, g.G b ≠ .none → b ∈ D → H b ≠ .gone → K b ≠ .gone) (h2 : ∀ b, g.G b ≠ .none → b ∉ D → H' b = H b → K' b = K b) : Ext g K w D g' K' w' :=
  ⟨h.mono, h.more, h.size, h.frame, fun b hb hn => h1 b hn hb (h.seen b hb hn), fun b hn hb => ⟨(h.same b hn hb).1, (h.same b hn hb).2.1, h2 b hn hb (h.same b hn hb).2.2⟩, h.moved, h.turn, h.fresh, h.env⟩
theorem Ext.congrD {g g' : Gh} {H H' : Hp} {w w' : World} {D D' : List Nat} (h : Ext g H w D g' H' w') (hd : ∀ b, b ∈ D ↔ b ∈ D') : Ext g H w D' g' H' w' :=
  ⟨h.mono, fun r hF => by
    rcases h.more r hF with h1 | ⟨b, hb, h1⟩ | h1
    · exact .inl h1
    · exact .inr (.inl ⟨b, (hd b).1 hb, h1⟩)
    · exact .inr (.inr h1), h.size, fun r hr hb => h.frame r hr fun b hb' => hb b ((hd b).1 hb'), fun b hb => h.seen b ((hd b).2 hb), fun b hn hb => h.same b hn fun hb' => hb ((hd b).1 hb'), fun b hb => h.moved b ((hd b).2 hb), fun b hb => h.turn b ((hd b).2 hb), fun b r c h1 h2 h3 => (h.fresh b r c h1 h2 h3).imp id fun ⟨x, hx, e⟩ => ⟨x, (hd x).1 hx, e⟩, h.env⟩

/-- A step that sees less, and makes one block. -/
theorem Went.big {g g' : Gh} {H H' K : Hp} {w w' : World} {N : Nat → Prop} {v : AV} {u : Value} {s : Nat} (h : Went g H w N v H' [] u w' g') (hr : HRel g K w) (hs : g.G s = .none) :
    Ext g K w [] g' (upd K s (H' s)) w' ∧ HRel g' (upd K s (H' s)) w' := by
  have he : Ext g K w [] g' (upd K s (H' s)) w' := h.ext.rebase (fun b _ hb => by cases hb) fun b hn _ _ => upd_ne _ _ fun e => hn (by rw [e]; exact hs)
  have hk : Ext g K w [] g' K w' := h.ext.rebase (fun b _ hb => by cases hb) fun b hn _ _ => rfl
  refine ⟨he, ⟨fun b => ?_, fun b hb => ?_, h.rel.inj, h.rel.disj, h.rel.ex⟩⟩
  · by_cases e : b = s
    · subst e; rw [upd_same]; exact h.rel.blk b
    · rw [upd_ne _ _ e]
      by_cases hg : K b = .gone
      · rw [hg]; exact trivial
      · exact RelB.step hk hr hg (by simp)
  · by_cases e : b = s
    · subst e; rw [upd_same] at hb ⊢; exact h.rel.kd b hb
    · rw [upd_ne _ _ e] at hb ⊢
      have hg := hr.kd b hb
      have hn : g.G b ≠ .none := by rw [hg]; exact kindOf_none
      rw [(h.ext.same b hn (by simp)).1]; exact hg

/-- A step that sees less, and writes one block. -/
theorem Went.put {g g' : Gh} {H H' K K' : Hp} {w w' : World} {N : Nat → Prop} {v : AV} {u : Value} {s : Nat} (h : Went g H w N v H' [s] u w' g') (hr : HRel g K w) (hs : H s ≠ .gone → K s ≠ .gone) (h1 : K' s = H' s) (h2 : ∀ b, b ≠ s → K' b = K b) :
    Ext g K w [s] g' K' w' ∧ HRel g' K' w' := by
  have ns : ∀ {b : Nat}, b ∉ [s] → b ≠ s := fun {b} hb e => hb (by rw [e]; exact List.mem_singleton.2 rfl)
  have he : Ext g K w [s] g' K' w' := h.ext.rebase (fun b _ hb hg => by rw [List.mem_singleton.1 hb] at hg ⊢; exact hs hg) fun b hn hb _ => h2 b (ns hb)
  refine ⟨he, ⟨fun b => ?_, fun b hb => ?_, h.rel.inj, h.rel.disj, h.rel.ex⟩⟩
  · by_cases e : b = s
    · subst e; rw [h1]; exact h.rel.blk b
    · by_cases hg : K b = .gone
      · rw [h2 b e, hg]; exact trivial
      · rw [h2 b e]
        have := RelB.step he hr hg (by simp [e])
        exact this
  · by_cases e : b = s
    · subst e; rw [h1] at hb ⊢; exact h.rel.kd b hb
    · rw [h2 b e] at hb ⊢
      have hg := hr.kd b hb
      have hn : g.G b ≠ .none := by rw [hg]; exact kindOf_none
      rw [(he.same b hn (by simp [e])).1]; exact hg

/-- An operation that makes no block. -/
def Still (bd : List Nat) (ops : List Oper) (es : List Ev) (i : Nat) : Prop := (evAt es i).all = none ∧ ((evAt es i).own = none ∨ ((∃ k, (evAt es i).own = some (k, .gone)) ∧ ∃ p, ops[i]? = some p ∧ blind bd p i = true))

/-- The state in the middle of a region, some of it done. -/
structure Inv (bd : List Nat) (ops : List Oper) (es : List Ev) (base nt : Nat) (tm0 : Nat → AV) (hp0 : Hp) (g0 : Gh) (w0 : World) (D : Nat → Bool) (g : Gh) (a : Act) (w : World) : Prop where
  tm : ∀ t, RelV g w (tmD ops es tm0 D ops.length t) (a.tmps.getD t Go.undef)
  nt : a.tmps.size = nt
  df : a.defers = []
  hp : HRel g (hpD es base hp0 D ops.length) w
  sl : ∀ i, i < ops.length → (D i = false ∨ Still bd ops es i) → g.G (base + i) = .none
  fr : ∀ b, base + ops.length ≤ b → g.G b ≠ .none → ∃ i, i < ops.length ∧ D i = true ∧ (evAt es i).all ≠ none ∧ b < base + ops.length + (i + 1) * 4096
  ext : Ext g0 hp0 w0 (dD es [] D ops.length) g (hpD es base hp0 D ops.length) w
  new : ∀ b, g0.G b = .none → g.G b ≠ .none → base ≤ b

theorem tmpsOk_spec {ops : List Oper} {an : List Nat} (h : tmpsOk ops an = true) {j i t : Nat} {o p : Oper} (ho : ops[j]? = some o) (ht : t ∈ namesOf ops o) (hp : ops[i]? = some p) (hij : i ≠ j) (hd : p.dst = some t) : ordered an i j = true := by
  have hj := (List.getElem?_eq_some_iff.1 ho).1
  have hi := (List.getElem?_eq_some_iff.1 hp).1
  have h1 := List.all_eq_true.1 h j (List.mem_range.2 hj)
  rw [ho] at h1
  have h2 := List.all_eq_true.1 (List.all_eq_true.1 h1 t ht) i (List.mem_range.2 hi)
  rw [hp] at h2
  simp only [hd] at h2
  have e1 : Nat.beq i j = false := by
    cases hb : Nat.beq i j with
    | false => rfl
    | true => exact absurd (Nat.eq_of_beq_eq_true hb) hij
  rw [e1, show Nat.beq t t = true from Nat.beq_refl t] at h2
  exact h2

theorem barrier_spec {wr bd : List Nat} {ops : List Oper} {an : List Nat} {j i : Nat} {o : Oper} (h : barrier wr bd ops an j = true) (ho : ops[i]? = some o) (hij : i ≠ j) (hh : blind bd o i = false ∨ memN wr i = true) : ordered an i j = true := by
  have hi := (List.getElem?_eq_some_iff.1 ho).1
  have h1 := List.all_eq_true.1 h i (List.mem_range.2 hi)
  rw [ho] at h1
  have e1 : Nat.beq i j = false := by
    cases hb : Nat.beq i j with
    | false => rfl
    | true => exact absurd (Nat.eq_of_beq_eq_true hb) hij
  rw [e1] at h1
  have h1 : (false || ((blind bd o i && !memN wr i) || ordered an i j)) = true := h1
  rcases hh with hh | hh <;> rw [hh] at h1 <;> simpa using h1

theorem barrierAt_spec {bd : List Nat} {ops : List Oper} {an : List Nat} {j i k : Nat} {o : Oper} (h : barrierAt bd ops an j i = true) (ho : ops[k]? = some o) (hkj : k ≠ j) (hh : blind bd o k = false) (hs : ((an[k]?).getD 0).testBit i = true) : ordered an k j = true := by
  have hk := (List.getElem?_eq_some_iff.1 ho).1
  have h1 := List.all_eq_true.1 h k (List.mem_range.2 hk)
  rw [ho] at h1
  have e1 : Nat.beq k j = false := by
    cases hb : Nat.beq k j with
    | false => rfl
    | true => exact absurd (Nat.eq_of_beq_eq_true hb) hkj
  rw [e1] at h1
  have h1 : (false || (blind bd o k || ((!((an[k]?).getD 0).testBit i) || ordered an k j))) = true := h1
  rw [hh, hs] at h1
  simpa using h1

theorem ordered_comm {an : List Nat} {i j : Nat} (hij : i ≠ j) (h : ordered an i j = true) : ordered an j i = true := by
  unfold ordered at h ⊢
  rcases Nat.lt_or_gt_of_ne hij with hl | hl
  · have e1 : Nat.blt i j = true := Nat.ble_eq_true_of_le hl
    have e2 : Nat.blt j i = false := by
      cases hb : Nat.blt j i with
      | false => rfl
      | true => have : j < i := Nat.le_of_ble_eq_true hb; omega
    rw [e1] at h; rw [e2]; exact h
  · have e1 : Nat.blt j i = true := Nat.ble_eq_true_of_le hl
    have e2 : Nat.blt i j = false := by
      cases hb : Nat.blt i j with
      | false => rfl
      | true => have : i < j := Nat.le_of_ble_eq_true hb; omega
    rw [e2] at h; rw [e1]; exact h

section step
variable {ops : List Oper} {es : List Ev} {base nt : Nat} {tm0 : Nat → AV} {hp0 : Hp} {g0 : Gh} {w0 : World} {D D' : Nat → Bool} {g : Gh} {a : Act} {w : World} {wr bd : List Nat} {j : Nat} {o : Oper}

theorem ord_of (hD : ∀ j o, ops[j]? = some o → D j = true → ∀ e ∈ o.after.toList, Region.binds .any e = true → D e.on = true) (ho : ops[j]? = some o) (hj : D j = false) (hall : ∀ e ∈ o.after.toList, Region.binds .any e = true → D e.on = true)
    {i : Nat} {p : Oper} (hp : ops[i]? = some p) (hij : i ≠ j) (h : ordered (ancs ops []) i j = true) : D i = decide (i < j) := by
  unfold ordered at h
  rcases Nat.lt_or_gt_of_ne hij with hl | hl
  · rw [show Nat.blt i j = true from Nat.ble_eq_true_of_le hl] at h
    rw [decide_eq_true hl]
    exact anc_closed hD j o i ho hall h
  · have e2 : Nat.blt i j = false := by
      cases hb : Nat.blt i j with
      | false => rfl
      | true => have : i < j := Nat.le_of_ble_eq_true hb; omega
    rw [e2] at h
    rw [decide_eq_false (by omega)]
    cases hi : D i with
    | false => rfl
    | true =>
      have := anc_closed hD i p j hp (hD i p hp hi) h
      rw [hj] at this; cases this

theorem Inv.put (h : Inv bd ops es base nt tm0 hp0 g0 w0 D g a w) (ho : ops[j]? = some o) (hj : D j = false) (hD1 : D' j = true) (hDn : ∀ i, i ≠ j → D' i = D i) (hdst : dstOk nt o.dst = true)
    (htm : ∀ t, tmD ops es tm0 D' ops.length t = setDst o.dst (tmD ops es tm0 D ops.length) (evAt es j).v t) {g' : Gh} {w' : World} {u : Value}
    (he : Ext g (hpD es base hp0 D ops.length) w (evAt es j).d g' (hpD es base hp0 D' ops.length) w') (hr : HRel g' (hpD es base hp0 D' ops.length) w') (hv : RelV g' w' (evAt es j).v u)
    (hnew : ∀ b, g.G b = .none → g'.G b ≠ .none → b = base + j ∨ ((evAt es j).all ≠ none ∧ base + ops.length + j * 4096 ≤ b ∧ b < base + ops.length + (j + 1) * 4096))
    (hst : Still bd ops es j → g'.G (base + j) = .none) : Inv bd ops es base nt tm0 hp0 g0 w0 D' g' (a.put o.dst u) w' := by
  have hjl := (List.getElem?_eq_some_iff.1 ho).1
  refine ⟨fun t => ?_, by rw [put_size]; exact h.nt, by rw [put_defers]; exact h.df, hr, fun i hi hor => ?_, fun b hb hn => ?_, ?_, fun b h1 h2 => ?_⟩
  · rw [htm]
    exact put_tm (fun t => (h.tm t).step he h.hp) h.nt hdst hv t
  · by_cases e : i = j
    · subst e
      rcases hor with hor | hor
      · rw [hD1] at hor; cases hor
      · exact hst hor
    · rw [hDn i e] at hor
      have h1 := h.sl i hi hor
      by_cases h2 : g'.G (base + i) = .none
      · exact h2
      · rcases hnew _ h1 h2 with e' | ⟨_, e', _⟩ <;> omega
  · by_cases h1 : g.G b = .none
    · rcases hnew b h1 hn with e | ⟨e1, _, e2⟩
      · omega
      · exact ⟨j, hjl, hD1, e1, e2⟩
    · obtain ⟨i, a1, a2, a3, a4⟩ := h.fr b hb h1
      exact ⟨i, a1, by rw [hDn i (fun e => by rw [e, hj] at a2; cases a2)]; exact a2, a3, a4⟩
  · refine (h.ext.trans he h.hp).congrD fun b => ?_
    rw [List.mem_append, dD_mem, dD_mem]
    constructor
    · rintro (hb | hb | ⟨i, b1, b2, b3⟩)
      · exact .inr ⟨j, hjl, hD1, hb⟩
      · cases hb
      · exact .inr ⟨i, b1, by rw [hDn i (fun e => by rw [e, hj] at b2; cases b2)]; exact b2, b3⟩
    · rintro (hb | ⟨i, b1, b2, b3⟩)
      · cases hb
      · by_cases e : i = j
        · subst e; exact .inl b3
        · exact .inr (.inr ⟨i, b1, by rw [← hDn i e]; exact b2, b3⟩)
  · by_cases h3 : g.G b = .none
    · rcases hnew b h3 h2 with e | ⟨_, e, _⟩ <;> omega
    · exact h.new b h1 h3

theorem Inv.step (hF : ∀ i o, ops[i]? = some o → dstOk nt o.dst = true ∧ Fact P wr bd ops base (base + ops.length) i o (tmD ops es tm0 (fun _ => true) i) (hpD es base hp0 (fun _ => true) i) (evAt es i))
    (hT : tmpsOk ops (ancs ops []) = true) (hD : ∀ j o, ops[j]? = some o → D j = true → ∀ e ∈ o.after.toList, Region.binds .any e = true → D e.on = true)
    (h : Inv bd ops es base nt tm0 hp0 g0 w0 D g a w) (ho : ops[j]? = some o) (hj : D j = false) (hall : ∀ e ∈ o.after.toList, Region.binds .any e = true → D e.on = true) (hD1 : D' j = true) (hDn : ∀ i, i ≠ j → D' i = D i)
    {Q : Exit → Act → World → Prop} {K : Act → World → Prop} (hK : ∀ g' a' w', Inv bd ops es base nt tm0 hp0 g0 w0 D' g' a' w' → K a' w') : wpOp P ops.toArray Q j K a w := by
  have hjl := (List.getElem?_eq_some_iff.1 ho).1
  have hoA : ops.toArray[j]? = some o := by simpa using ho
  obtain ⟨hdst, hf⟩ := hF j o ho
  have hdj : dstAt ops j = o.dst := by simp [dstAt, ho]
  have dst_get : ∀ {i t : Nat}, dstAt ops i = some t → ∃ p, ops[i]? = some p ∧ p.dst = some t := fun {i t} h => by
    unfold dstAt at h
    cases hp : ops[i]? with
    | none => rw [hp] at h; cases h
    | some p => rw [hp] at h; exact ⟨p, rfl, h⟩
  have hord : ∀ {i : Nat} {p : Oper}, ops[i]? = some p → i ≠ j → ordered (ancs ops []) i j = true → D i = decide (i < j) := fun hp hij h => ord_of hD ho hj hall hp hij h
  -- the slots that are named
  have hwr : ∀ t ∈ namesOf ops o, ∀ i, i ≠ j → dstAt ops i = some t → D i = decide (i < j) := fun t ht i hij hd => by
    obtain ⟨p, hp, hpd⟩ := dst_get hd
    exact hord hp hij (tmpsOk_spec hT ho ht hp hij hpd)
  have hnm : ∀ t ∈ namesOf ops o, tmD ops es tm0 D ops.length t = tmD ops es tm0 (fun _ => true) j t := fun t ht => by
    have h1 : tmD ops es tm0 D ops.length t = tmD ops es tm0 (fun i => decide (i < j)) ops.length t := tmD_agree fun i hi hd => by
      by_cases e : i = j
      · subst e; rw [hj]; simp
      · exact hwr t ht i e hd
    rw [h1]
    have := tm_cut (ops := ops) (es := es) (tm0 := tm0) (j := j) (t := t) (ops.length - j)
    rw [show j + (ops.length - j) = ops.length by omega] at this
    exact this
  have htm : ∀ t, tmD ops es tm0 D' ops.length t = setDst o.dst (tmD ops es tm0 D ops.length) (evAt es j).v t := fun t => by
    by_cases hd : o.dst = some t
    · rw [hd, setDst_eq]
      refine tmD_last hD1 (by rw [hdj]; exact hd) hjl fun i h1 h2 h3 => ?_
      rw [hDn i (by omega), hwr t (by unfold namesOf; rw [hd]; exact List.mem_append_left _ (List.mem_singleton.2 rfl)) i (by omega) h3]
      exact decide_eq_false (by omega)
    · rw [setDst_ne hd]
      exact tmD_agree fun i hi h1 => hDn i fun e => hd (by rw [← hdj, ← e]; exact h1)
  have hops : ∀ x, RelV g w (evalO (seen o (tmD ops es tm0 (fun _ => true) j)) x) (a.eval x) := fun x => by
    cases x with
    | tmp t =>
      show RelV g w (br (memN (tmpsOf o.op.operands) t) (tmD ops es tm0 (fun _ => true) j t) .undef) _
      cases hm : memN (tmpsOf o.op.operands) t with
      | false => exact .undef _
      | true =>
        have ht : t ∈ tmpsOf o.op.operands := by rw [← seen_eval.memN_iff']; exact hm
        show RelV g w (tmD ops es tm0 (fun _ => true) j t) _
        rw [← hnm t (by unfold namesOf; exact List.mem_append_right _ (List.mem_append_left _ ht))]
        exact h.tm t
    | const v => exact const_sound v
    | func f => exact .fn _ _ _ _ _ (fun _ => Go.undef) (fun _ => Go.undef) rfl rfl (fun j c h => by simp at h) (fun j c h => by simp at h) (fun j c h => by simp at h) (fun j c h => by simp at h)
    | global i => exact .undef _
  have hwant : ∀ {b : Bool}, Wants ops o (tmD ops es tm0 (fun _ => true) j) b → Region.wanted o (yielded ops.toArray a.tmps) = b := fun {b} hw => by
    rcases hw with ⟨hg, rfl⟩ | ⟨gi, want, t, hg, ht, hor⟩
    · exact wanted_none hg
    · have htA : (ops.toArray[gi]?).bind (·.dst) = some t := by simpa using ht
      have htm := h.tm t
      rw [hnm t (by unfold namesOf; rw [hg]; simp only [ht]; exact List.mem_append_right _ (List.mem_append_right _ (by simp)))] at htm
      rcases hor with ⟨c, hc, rfl⟩ | ⟨hc, rfl⟩
      · rw [hc] at htm
        generalize hv : a.tmps.getD t Go.undef = v at htm
        cases htm
        have hy := yielded_bool htA hv
        simp only [Region.wanted, hg, hy]
        cases c <;> cases want <;> rfl
      · rw [hc] at htm
        have hy := yielded_tup htA (relV_tup0 htm)
        simp only [Region.wanted, hg, hy]; rfl
  have slotj : g.G (base + j) = .none := h.sl j hjl (.inl hj)
  unfold wpOp
  simp only [hoA]
  -- effects of the others
  have keepH : ∀ {b : Nat}, (∀ p, (evAt es j).own = some p → b ≠ base + p.1) → (evAt es j).all = none → hpD es base hp0 D' ops.length b = hpD es base hp0 D ops.length b := fun {b} hb he => hpD_agree fun i hi => by
    by_cases e : i = j
    · subst e; exact .inl fun H => eff_alone he hb
    · exact .inr (hDn i e)
  -- what an operation that looks at the heap may see is there
  have hlessO : blind bd o j = false → ∀ b, hideFor (hpD es base hp0 (fun _ => true) j) base (((ancs ops [])[j]?).getD 0) ops.length b = .gone ∨ hideFor (hpD es base hp0 (fun _ => true) j) base (((ancs ops [])[j]?).getD 0) ops.length b = hpD es base hp0 D ops.length b := fun hl b => by
      rcases hide_spec (H := hpD es base hp0 (fun _ => true) j) (base := base) (m := ((ancs ops [])[j]?).getD 0) (k := ops.length) (b := b) with hb | ⟨hb, hb'⟩
      · exact .inl hb
      · rw [hb]
        have := hp_cut (es := es) (base := base) (hp0 := hp0) (j := j) (b := b) (ops.length - j)
        rw [show j + (ops.length - j) = ops.length by omega] at this
        rw [← this]
        refine hpD_less fun i hi => ?_
        by_cases e : i = j
        · subst e; left; rw [hj]; simp
        obtain ⟨p, hp⟩ : ∃ p, ops[i]? = some p := ⟨_, List.getElem?_eq_getElem hi⟩
        obtain ⟨_, hfi⟩ := hF i p hp
        have bit : ∀ i, i < ops.length → b = base + i → decide (i < j) = D i := fun i hi e => by
          have hbit := hb' i hi e
          rw [decide_eq_true (anc_lt _ _ hbit)]
          exact (anc_closed hD j o i ho hall hbit).symm
        rcases hfi with ⟨_, hx⟩ | ⟨_, ⟨hx, hx2, _⟩ | ⟨_, hx2, _, H1, hx, _⟩ | ⟨_, hbi, _⟩ | ⟨_, hx2, k, H1, hk1, hk2, hx, _⟩⟩
        · exact .inr ⟨by rw [hx], .inl fun p hp => by rw [hx] at hp; cases hp⟩
        · by_cases hbi : b = base + i
          · exact .inl (bit i hi hbi)
          · exact .inr ⟨hx2, .inl fun p hp => by rw [hx] at hp; cases hp; exact hbi⟩
        · by_cases hbi : b = base + i
          · exact .inl (bit i hi hbi)
          · exact .inr ⟨hx2, .inl fun p hp => by rw [hx] at hp; cases hp; exact hbi⟩
        · exact .inl (hord hp e (ordered_comm (Ne.symm e) (barrier_spec hbi ho (Ne.symm e) (.inl hl)))).symm
        · by_cases hbi : b = base + k
          · have hkl : k < ops.length := by have := anc_lt _ _ hk1; omega
            exact .inl (hord hp e (ordered_comm (Ne.symm e) (barrierAt_spec hk2 ho (Ne.symm e) hl (hb' k hkl hbi)))).symm
          · exact .inr ⟨hx2, .inl fun p hp => by rw [hx] at hp; cases hp; exact hbi⟩
  have hfrO : blind bd o j = false → ∀ b, base + ops.length + j * 4096 ≤ b → g.G b = .none := fun hl b hb => by
      by_cases hn : g.G b = .none
      · exact hn
      · exfalso
        obtain ⟨i, a1, a2, a3, a4⟩ := h.fr b (by omega) hn
        obtain ⟨p, hp⟩ : ∃ p, ops[i]? = some p := ⟨_, List.getElem?_eq_getElem a1⟩
        have e : i ≠ j := fun e => by rw [e, hj] at a2; cases a2
        obtain ⟨_, hfi⟩ := hF i p hp
        rcases hfi with ⟨_, hx⟩ | ⟨_, ⟨_, hx, _⟩ | ⟨_, hx, _⟩ | ⟨_, hbi, _⟩ | ⟨_, hx, _⟩⟩
        · rw [hx] at a3; exact a3 rfl
        · exact a3 hx
        · exact a3 hx
        · have hd := hord hp e (ordered_comm (Ne.symm e) (barrier_spec hbi ho (Ne.symm e) (.inl hl)))
          rw [a2] at hd
          have : i < j := of_decide_eq_true hd.symm
          have : (i + 1) * 4096 ≤ j * 4096 := Nat.mul_le_mul_right _ (by omega)
          omega
        · exact a3 hx
  rcases hf with ⟨hw, hev⟩ | ⟨hw, hrest⟩
  · -- passed over
    rw [hwant hw, if_neg (by decide)]
    refine hK g _ w ?_
    have hh : ∀ b, hpD es base hp0 D' ops.length b = hpD es base hp0 D ops.length b := fun b => hpD_agree fun i hi => by
      by_cases e : i = j
      · subst e; exact .inl fun H => eff_alone (by rw [hev]) fun p hp => by rw [hev] at hp; cases hp
      · exact .inr (hDn i e)
    refine h.put ho hj hD1 hDn hdst htm (u := Go.undef) ?_ ?_ (by rw [hev]; exact relV_undef g w) (fun b h1 h2 => absurd h1 h2) (fun _ => slotj)
    · rw [hev]; exact (Ext.refl g (hpD es base hp0 D ops.length) w).rebase (fun b _ hb => by cases hb) fun b _ _ _ => hh b
    · exact h.hp.less fun b => .inr (hh b)
  rw [hwant hw, if_pos rfl]
  left
  rcases hrest with ⟨e1, e2, e3, hl, hop⟩ | ⟨hl, e2, e3, H', e1, hop⟩ | ⟨hwj, hbar, H', n', e1, hn', hop⟩ | ⟨hl, e2, k, H', hk1, hk2, e1, e3, hop⟩
  · -- without the heap
    obtain ⟨u, h1, h2⟩ := hop g a w fun x hx => by rw [← seen_eval hx]; exact hops x
    unfold Oper.wp
    rw [h1]
    refine hK g _ w (h.put ho hj hD1 hDn hdst htm ?_ ?_ h2 (fun b h1 h2 => absurd h1 h2) (fun _ => slotj))
    · rw [e3]; exact (Ext.refl g (hpD es base hp0 D ops.length) w).rebase (fun b _ hb => by cases hb) fun b hn _ _ => keepH (fun p hp e => hn (by rw [e1] at hp; cases hp; rw [e]; exact slotj)) e2
    · exact h.hp.less fun b => hpD_less fun i hi => by
        by_cases e : i = j
        · subst e; exact .inr ⟨e2, .inr ⟨hD1, _, e1⟩⟩
        · exact .inl (hDn i e)
  · -- one block of its own
    have hless := hlessO hl
    have hfr := hfrO hl
    refine Gives.wp ((hop.2 g a w (h.hp.less hless) hops slotj hfr)) fun u w' ⟨g', hw⟩ => ?_
    have hnew : ∀ b, g.G b = .none → g'.G b ≠ .none → b = base + j := fun b h1 h2 => by
      rcases hw.new b h1 h2 with e | ⟨h3, h4⟩
      · exact e
      · omega
    obtain ⟨b1, b2⟩ := hw.big h.hp slotj
    have hh : ∀ b, hpD es base hp0 D' ops.length b = upd (hpD es base hp0 D ops.length) (base + j) (H' (base + j)) b := fun b => by
      by_cases hb : b = base + j
      · subst hb
        rw [upd_same]
        refine own_last (ops := ops) hD1 e2 e1 hjl fun i h1 h2 h3 => ?_
        obtain ⟨p, hp⟩ : ∃ p, ops[i]? = some p := ⟨_, List.getElem?_eq_getElem h2⟩
        rw [hDn i (by omega)] at h3
        obtain ⟨_, hfi⟩ := hF i p hp
        rcases hfi with ⟨_, hx⟩ | ⟨_, ⟨hx', hx, _⟩ | ⟨_, hx, _, H1, hx', _⟩ | ⟨_, hbi, _⟩ | ⟨_, hx, k, H1, hk1, hk2, hx', _⟩⟩
        · rw [hx]; exact ⟨rfl, fun p hp => by cases hp⟩
        · exact ⟨hx, fun p hp => by rw [hx'] at hp; cases hp; show j ≠ i; omega⟩
        · exact ⟨hx, fun p hp => by rw [hx'] at hp; cases hp; show j ≠ i; omega⟩
        · have hd := hord hp (by omega) (ordered_comm (by omega) (barrier_spec hbi ho (by omega) (.inl hl)))
          rw [h3] at hd
          have : i < j := of_decide_eq_true hd.symm
          omega
        · refine ⟨hx, fun q hq => ?_⟩
          rw [hx'] at hq; cases hq
          show j ≠ k
          intro e
          subst e
          have := anc_closed hD i p j hp (hD i p hp h3) hk1
          rw [hj] at this; cases this
      · rw [upd_ne _ _ hb]; exact keepH (fun p hp => by rw [e1] at hp; cases hp; exact hb) e2
    refine hK g' _ w' (h.put ho hj hD1 hDn hdst htm ?_ ?_ hw.val (fun b h1 h2 => .inl (hnew b h1 h2)) fun hs => ?_)
    · rw [e3]; exact b1.rebase (fun b _ hb => by cases hb) fun b hn _ e => by rw [hh]; exact e
    · exact b2.less fun b => .inr (hh b)
    · obtain ⟨_, hs | ⟨_, p, hp, hs⟩⟩ := hs
      · rw [e1] at hs; cases hs
      · rw [ho] at hp; cases hp
        rw [hl] at hs; cases hs
  · -- the heap as a whole
    have cls : ∀ i, i < ops.length → i ≠ j → Still bd ops es i ∨ D i = decide (i < j) := fun i hi e => by
      obtain ⟨p, hp⟩ : ∃ p, ops[i]? = some p := ⟨_, List.getElem?_eq_getElem hi⟩
      obtain ⟨_, hfi⟩ := hF i p hp
      rcases hfi with ⟨_, hx⟩ | ⟨_, ⟨hx1, hx2, _, hx3, _⟩ | ⟨hx, _⟩ | ⟨hx, _⟩ | ⟨hx, _⟩⟩
      · exact .inl ⟨by rw [hx], .inl (by rw [hx])⟩
      · exact .inl ⟨hx2, .inr ⟨⟨_, hx1⟩, p, hp, hx3⟩⟩
      · exact .inr (hord hp e (barrier_spec hbar hp e (.inl hx)))
      · exact .inr (hord hp e (barrier_spec hbar hp e (.inr hx)))
      · exact .inr (hord hp e (barrier_spec hbar hp e (.inl hx)))
    -- operations that make nothing have their own place
    have own : ∀ i, i < ops.length → ∀ k, (evAt es i).own = some (k, .gone) → Still bd ops es i → k = i := fun i hi k hk hst => by
      obtain ⟨p, hp⟩ : ∃ p, ops[i]? = some p := ⟨_, List.getElem?_eq_getElem hi⟩
      obtain ⟨_, hfi⟩ := hF i p hp
      obtain ⟨h0, hst | ⟨_, p', hp', hst⟩⟩ := hst
      · rw [hst] at hk; cases hk
      · rw [hp] at hp'; cases hp'
        rcases hfi with ⟨_, hx⟩ | ⟨_, ⟨hx, _⟩ | ⟨hx, _⟩ | ⟨_, _, H1, n1, hx, _⟩ | ⟨hx, _⟩⟩
        · rw [hx] at hk; cases hk
        · rw [hx] at hk; cases hk; rfl
        · rw [hst] at hx; cases hx
        · rw [h0] at hx; cases hx
        · rw [hst] at hx; cases hx
    have bit : ∀ i, (2 ^ j - 1).testBit i = decide (i < j) := fun i => Nat.testBit_two_pow_sub_one j i
    have hless : ∀ b, hideFor (hpD es base hp0 (fun _ => true) j) base (2 ^ j - 1) ops.length b = .gone ∨ hideFor (hpD es base hp0 (fun _ => true) j) base (2 ^ j - 1) ops.length b = hpD es base hp0 D ops.length b := fun b => by
      rcases hide_spec (H := hpD es base hp0 (fun _ => true) j) (base := base) (m := 2 ^ j - 1) (k := ops.length) (b := b) with hb | ⟨hb, hb'⟩
      · exact .inl hb
      · rw [hb]
        have := hp_cut (es := es) (base := base) (hp0 := hp0) (j := j) (b := b) (ops.length - j)
        rw [show j + (ops.length - j) = ops.length by omega] at this
        rw [← this]
        refine hpD_less fun i hi => ?_
        by_cases e : i = j
        · subst e; left; rw [hj]; simp
        rcases cls i hi e with hst | hs
        · obtain ⟨hs1, hs2⟩ := hst
          rcases hs2 with hs2 | ⟨⟨k, hs2⟩, hs3⟩
          · exact .inr ⟨hs1, .inl fun p hp => by rw [hs2] at hp; cases hp⟩
          · have hk := own i hi k hs2 ⟨hs1, .inr ⟨⟨k, hs2⟩, hs3⟩⟩
            subst hk
            by_cases hbi : b = base + k
            · have := hb' k hi hbi
              rw [bit] at this
              exact .inr ⟨hs1, .inr ⟨this, _, hs2⟩⟩
            · exact .inr ⟨hs1, .inl fun p hp => by rw [hs2] at hp; cases hp; exact hbi⟩
        · exact .inl hs.symm
    have hfr : ∀ b, base + ops.length + j * 4096 ≤ b → g.G b = .none := fun b hb => by
      by_cases hn : g.G b = .none
      · exact hn
      · exfalso
        obtain ⟨i, a1, a2, a3, a4⟩ := h.fr b (by omega) hn
        have e : i ≠ j := fun e => by rw [e, hj] at a2; cases a2
        rcases cls i a1 e with ⟨hs, _⟩ | hd
        · exact a3 hs
        · rw [a2] at hd
          have : i < j := of_decide_eq_true hd.symm
          have : (i + 1) * 4096 ≤ j * 4096 := Nat.mul_le_mul_right _ (by omega)
          omega
    refine Gives.wp ((hop.2 g a w (h.hp.less hless) hops slotj hfr)) fun u w' ⟨g', hw⟩ => ?_
    have hle : ∀ b, hpD es base hp0 D' ops.length b = .gone ∨ hpD es base hp0 D' ops.length b = H' b := fun b => bar_less hD1 e1 hjl fun i h1 h2 h3 => by
      rw [hDn i (by omega)] at h3
      rcases cls i h2 (by omega) with ⟨hs1, hs2⟩ | hd
      · exact ⟨hs1, hs2.imp id And.left⟩
      · rw [h3] at hd
        have : i < j := of_decide_eq_true hd.symm
        omega
    -- a block that there is has been made ahead
    have live : ∀ b, g.G b ≠ .none → ∀ i, i < ops.length → b = base + i → D i = true ∧ ¬ Still bd ops es i ∧ i < j := fun b hn i hi e => by
      subst e
      have hDi : D i = true := by
        cases hd : D i with
        | true => rfl
        | false => exact absurd (h.sl i hi (.inl hd)) hn
      have hns : ¬ Still bd ops es i := fun hs => hn (h.sl i hi (.inr hs))
      refine ⟨hDi, hns, ?_⟩
      have e : i ≠ j := fun e => by rw [e, hj] at hDi; cases hDi
      rcases cls i hi e with hs | hd
      · exact absurd hs hns
      · rw [hDi] at hd; exact of_decide_eq_true hd.symm
    refine hK g' _ w' (h.put ho hj hD1 hDn hdst htm (hw.ext.rebase (fun b hn _ hg => ?_) fun b hn _ e => ?_) (hw.rel.less hle) hw.val (fun b h1 h2 => ?_) fun hs => ?_)
    · rcases hless b with e | e
      · exact absurd e hg
      · rw [← e]; exact hg
    · have e3 : hpD es base hp0 D' ops.length b = H' b := bar_last hD1 e1 hjl fun i h1 h2 h3 => by
        rw [hDn i (by omega)] at h3
        rcases cls i h2 (by omega) with hst | hd
        · refine ⟨hst.1, fun p hp e => ?_⟩
          rcases hst.2 with hs2 | ⟨⟨k, hs2⟩, _⟩
          · rw [hs2] at hp; cases hp
          · have hk := own i h2 k hs2 hst
            rw [hs2] at hp; cases hp
            have := (live b hn i h2 (by rw [e, ← hk])).2.2
            omega
        · rw [h3] at hd
          have : i < j := of_decide_eq_true hd.symm
          omega
      have e4 : hideFor (hpD es base hp0 (fun _ => true) j) base (2 ^ j - 1) ops.length b = hpD es base hp0 (fun _ => true) j b := hide_seen fun i hi e => by
        rw [bit]; exact decide_eq_true (live b hn i hi e).2.2
      have e5 := hp_cut (es := es) (base := base) (hp0 := hp0) (j := j) (b := b) (ops.length - j)
      rw [show j + (ops.length - j) = ops.length by omega] at e5
      rw [e3, e, e4, ← e5]
      refine hpD_agree fun i hi => ?_
      by_cases e : i = j
      · subst e; right; rw [hj]; simp
      rcases cls i hi e with hs | hd
      · refine .inl fun H => eff_alone hs.1 fun p hp e => ?_
        rcases hs.2 with hs2 | ⟨⟨k, hs2⟩, _⟩
        · rw [hs2] at hp; cases hp
        · have hk := own i hi k hs2 hs
          rw [hs2] at hp; cases hp
          exact (live b hn i hi (by rw [e, ← hk])).2.1 hs
      · exact .inr hd.symm
    · rcases hw.new b h1 h2 with e | ⟨h3, h4⟩
      · exact .inl e
      · exact .inr ⟨by rw [e1]; exact (fun h => by cases h), h3, by omega⟩
    · rw [hs.1] at e1; cases e1
  · -- one block that the region made
    have hless := hlessO hl
    refine Gives.wp ((hop.2 g a w (h.hp.less hless) hops slotj (hfrO hl))) fun u w' ⟨g', hw⟩ => ?_
    have h1 : hpD es base hp0 D' ops.length (base + k) = H' (base + k) := own_last (ops := ops) hD1 e2 e1 hjl fun i h1 h2 h3 => by
      obtain ⟨p, hp⟩ : ∃ p, ops[i]? = some p := ⟨_, List.getElem?_eq_getElem h2⟩
      rw [hDn i (by omega)] at h3
      have hkj := anc_lt _ _ hk1
      obtain ⟨_, hfi⟩ := hF i p hp
      rcases hfi with ⟨_, hx⟩ | ⟨_, ⟨hx', hx, _⟩ | ⟨_, hx, _, H1, hx', _⟩ | ⟨_, hbi, _⟩ | ⟨hpl, hx, k', H1, hk1', hk2', hx', _⟩⟩
      · rw [hx]; exact ⟨rfl, fun p hp => by cases hp⟩
      · exact ⟨hx, fun p hp => by rw [hx'] at hp; cases hp; show k ≠ i; omega⟩
      · exact ⟨hx, fun p hp => by rw [hx'] at hp; cases hp; show k ≠ i; omega⟩
      · have hd := hord hp (by omega) (ordered_comm (by omega) (barrier_spec hbi ho (by omega) (.inl hl)))
        rw [h3] at hd
        have : i < j := of_decide_eq_true hd.symm
        omega
      · refine ⟨hx, fun q hq => ?_⟩
        rw [hx'] at hq; cases hq
        show k ≠ k'
        intro e
        subst e
        have hd := hord hp (by omega) (barrierAt_spec hk2 hp (by omega) hpl hk1')
        rw [h3] at hd
        have : i < j := of_decide_eq_true hd.symm
        omega
    obtain ⟨b1, b2⟩ := hw.put (K := hpD es base hp0 D ops.length) (K' := hpD es base hp0 D' ops.length) h.hp (fun hg => by
      rcases hless (base + k) with e | e
      · exact absurd e hg
      · rw [← e]; exact hg) h1 fun b hb => keepH (fun p hp => by rw [e1] at hp; cases hp; exact hb) e2
    refine hK g' _ w' (h.put ho hj hD1 hDn hdst htm (by rw [e3]; exact b1) b2 hw.val (fun b h1 h2 => ?_) fun hs => ?_)
    · rcases hw.new b h1 h2 with e | ⟨h3, h4⟩
      · exact .inl e
      · omega
    · obtain ⟨_, hs | ⟨_, p, hp, hs⟩⟩ := hs
      · rw [e1] at hs; cases hs
      · rw [ho] at hp; cases hp
        rw [hl] at hs; cases hs
end step

theorem countP_set {f f' : Nat → Bool} {j : Nat} (h1 : f j = true) (h2 : f' j = false) (h : ∀ i, i ≠ j → f' i = f i) : ∀ m, ((List.range m).countP f' = if j < m then (List.range m).countP f - 1 else (List.range m).countP f) ∧ (j < m → 0 < (List.range m).countP f)
  | 0 => by simp
  | m + 1 => by
    obtain ⟨i1, i2⟩ := countP_set h1 h2 h m
    rw [List.range_succ, List.countP_append, List.countP_append, List.countP_singleton, List.countP_singleton, i1]
    by_cases e : m = j
    · subst e
      rw [h1, h2, if_neg (Nat.lt_irrefl _), if_pos (Nat.lt_succ_self _), if_pos rfl, if_neg (by decide)]
      exact ⟨by omega, fun _ => by omega⟩
    · rw [h m e]
      generalize (if f m = true then 1 else 0) = k
      by_cases hl : j < m
      · have := i2 hl
        rw [if_pos hl, if_pos (by omega)]
        exact ⟨by omega, fun _ => by omega⟩
      · rw [if_neg hl, if_neg (by omega)]
        exact ⟨rfl, fun h => by omega⟩

theorem edgesOk_spec {ops : List Oper} (h : edgesOk ops = true) {j : Nat} {o : Oper} (ho : ops[j]? = some o) : ∀ e ∈ o.after.toList, Region.binds .any e = true → e.on < j := by
  intro e he hb
  have hj := (List.getElem?_eq_some_iff.1 ho).1
  have h1 := List.all_eq_true.1 h j (List.mem_range.2 hj)
  rw [ho] at h1
  have h2 := List.all_eq_true.1 h1 e he
  rw [hb] at h2
  exact Nat.le_of_ble_eq_true (show Nat.ble (e.on + 1) j = true from h2)

/-- A region in any order. -/
theorem region_any {E : FuncId → Option Entry} {inl : Inl R} (hE : ∀ f e, E f = some e → Holds P f e) (hI : InlOk P inl) {H : Hints} {id : Nat} {ops : List Oper} {st : St} {κ : KC R} {r : R} (h : regionO P E inl H id ops true st κ = some r) :
    ∃ st', κ .normal st' = some r ∧ st.n ≤ st'.n ∧ ∀ (g : Gh) (a : Act) (w : World) (Q : Exit → Act → World → Prop), Rel g st a w → EndsQ st.n g st w st' Q →
      wpAny P .any ops.toArray Q ops.toArray.size (Array.replicate ops.toArray.size false) a { w with drawn := w.drawn + 1 } := by
  have h : br ((edgesOk ops).and (tmpsOk ops (ancs ops []))) (runOps P E inl H id ops (ancs ops []) true st.n ops 0 { st with n := st.n + ops.length } fun st' => κ .normal { st' with n := st'.n + ops.length * 4096 }) none = some r := h
  obtain ⟨hck, h⟩ := br_none h
  obtain ⟨hed, hT⟩ := and_spec hck
  obtain ⟨es, h1, h2, hF⟩ := runOps_text (tm0 := st.tm) (hp0 := st.hp) (d0 := st.dirty) (nt := st.nt) (nn := st.n + ops.length) hE hI ops [] { st with n := st.n + ops.length } (fun i => by simp) (by simp) rfl rfl rfl rfl rfl h
  simp only [List.nil_append, List.length_nil] at h2 hF
  refine ⟨_, h2, by show st.n ≤ st.n + ops.length + ops.length * 4096; omega, fun g0 a0 w0 Q hr hQ => ?_⟩
  have fin : ∀ (D : Nat → Bool) g a w, (∀ i, i < ops.length → D i = true) → Inv (H.bd id) ops es st.n st.nt st.tm st.hp g0 w0 D g a w → Q .normal a w := fun D g a w hD hi => by
    have et : ∀ t, tmD ops es st.tm D ops.length t = tmD ops es st.tm (fun _ => true) ops.length t := fun t => tmD_agree fun i hi _ => hD i hi
    have eh : hpD es st.n st.hp D ops.length = hpD es st.n st.hp (fun _ => true) ops.length := funext fun b => hpD_agree fun i hi => .inr (hD i hi)
    refine hQ a w g ⟨fun t => ?_, hi.nt, hi.df, ?_, fun b hb => ?_⟩ ⟨⟨dD es [] (fun _ => true) ops.length, dD_split, ?_⟩, hi.new, ?_, rfl⟩
    · show RelV g w (tmD ops es st.tm (fun _ => true) ops.length t) _
      rw [← et]; exact hi.tm t
    · show HRel g (hpD es st.n st.hp (fun _ => true) ops.length) w
      rw [← eh]; exact hi.hp
    · have hb : st.n + ops.length + ops.length * 4096 ≤ b := hb
      by_cases hn : g.G b = .none
      · exact hn
      · obtain ⟨i, a1, _, _, a4⟩ := hi.fr b (by omega) hn
        have : (i + 1) * 4096 ≤ ops.length * 4096 := Nat.mul_le_mul_right _ (by omega)
        omega
    · show Ext g0 st.hp w0 _ g (hpD es st.n st.hp (fun _ => true) ops.length) w
      rw [← eh]
      exact hi.ext.congrD fun b => by
        rw [dD_mem, dD_mem]
        constructor
        · rintro (h | ⟨i, b1, _, b3⟩)
          · exact .inl h
          · exact .inr ⟨i, b1, rfl, b3⟩
        · rintro (h | ⟨i, b1, _, b3⟩)
          · exact .inl h
          · exact .inr ⟨i, b1, hD i b1, b3⟩
    · show st.n ≤ st.n + ops.length + ops.length * 4096; omega
  have go : ∀ (fuel : Nat) (listed : Array Bool) g a w, listed.size = ops.length → (List.range ops.length).countP (fun i => !listed.getD i false) ≤ fuel →
      (∀ j o, ops[j]? = some o → listed.getD j false = true → ∀ e ∈ o.after.toList, Region.binds .any e = true → listed.getD e.on false = true) →
      Inv (H.bd id) ops es st.n st.nt st.tm st.hp g0 w0 (fun i => listed.getD i false) g a w → wpAny P .any ops.toArray Q fuel listed a w := by
    intro fuel
    induction fuel with
    | zero =>
      intro listed g a w hsz hc hcl hi
      have hall : ∀ i, i < ops.length → listed.getD i false = true := fun i hi => by
        have := List.countP_eq_zero.1 (Nat.le_zero.1 hc) i (List.mem_range.2 hi)
        simpa using this
      refine ⟨?_, fin _ g a w hall hi⟩
      rw [List.eq_nil_iff_forall_not_mem]
      intro j hj
      obtain ⟨h3, o, ho, _⟩ := mem_ready.1 hj
      have hjl : j < ops.length := (List.getElem?_eq_some_iff.1 (by simpa using ho : ops[j]? = some o)).1
      have := hall j hjl
      rw [Array.getD_eq_getD_getElem?, Array.getElem?_eq_getElem (by omega)] at this h3
      simp at this h3
      rw [this] at h3; cases h3
    | succ fuel ih =>
      intro listed g a w hsz hc hcl hi
      have hgd : ∀ i, i < ops.length → listed.getD i true = listed.getD i false := fun i hi => by
        rw [Array.getD_eq_getD_getElem?, Array.getD_eq_getD_getElem?, Array.getElem?_eq_getElem (by omega)]; rfl
      refine ⟨fun hn => fin _ g a w (fun i => ?_) hi, fun j hj => ?_⟩
      · induction i using Nat.strongRecOn with
        | _ i ihi =>
          intro hil
          cases hd : listed.getD i false with
          | true => rfl
          | false =>
            exfalso
            obtain ⟨o, ho⟩ : ∃ o, ops[i]? = some o := ⟨_, List.getElem?_eq_getElem hil⟩
            have : i ∈ Region.ready .any ops.toArray listed := mem_ready.2 ⟨by rw [hgd i hil]; exact hd, o, by simpa using ho, fun e he hb => by
              have hlt := edgesOk_spec hed ho e (Array.mem_toList_iff.2 he) hb
              exact ihi e.on hlt (by omega)⟩
            rw [hn] at this; cases this
      · obtain ⟨h3, o, ho, hall⟩ := mem_ready.1 hj
        have ho : ops[j]? = some o := by simpa using ho
        have hjl := (List.getElem?_eq_some_iff.1 ho).1
        rw [hgd j hjl] at h3
        have hs1 : (listed.setIfInBounds j true).getD j false = true := by
          rw [Array.getD_eq_getD_getElem?, Array.getElem?_setIfInBounds_self_of_lt (by omega)]; rfl
        have hsn : ∀ i, i ≠ j → (listed.setIfInBounds j true).getD i false = listed.getD i false := fun i hij => getD_set_ne false (Ne.symm hij)
        refine Inv.step (bd := H.bd id) (D' := fun i => (listed.setIfInBounds j true).getD i false) (fun i o ho => hF i o (Nat.zero_le _) ho) hT hcl hi ho h3 (fun e he hb => hall e (Array.mem_toList_iff.1 he) hb) hs1 hsn fun g' a' w' hi' => ?_
        refine ih _ g' a' w' (by simp [hsz]) ?_ (fun k p hp hk e he hb => ?_) hi'
        · obtain ⟨c1, c2⟩ := countP_set (f := fun i => !listed.getD i false) (f' := fun i => !(listed.setIfInBounds j true).getD i false) (j := j) (by show (!listed.getD j false) = true; rw [h3]; rfl) (by show (!(listed.setIfInBounds j true).getD j false) = false; rw [hs1]; rfl) (fun i hij => by show (!(listed.setIfInBounds j true).getD i false) = !listed.getD i false; rw [hsn i hij]) ops.length
          have := c2 hjl
          rw [c1, if_pos hjl]
          omega
        · by_cases hkj : k = j
          · subst hkj
            rw [ho] at hp; cases hp
            exact getD_set_true (hall e (Array.mem_toList_iff.1 he) hb)
          · have hk : (listed.setIfInBounds j true).getD k false = true := hk
            rw [hsn k hkj] at hk
            exact getD_set_true (hcl k p hp hk e he hb)
  have hr1 := HRel.heap (w := w0) (w' := { w0 with drawn := w0.drawn + 1 }) rfl hr.hp
  have hnone : ∀ i, (Array.replicate ops.toArray.size false).getD i false = false := fun i => by
    rw [Array.getD_eq_getD_getElem?, Array.getElem?_replicate]
    split <;> rfl
  refine go ops.toArray.size _ g0 a0 _ (by simp) (Nat.le_trans List.countP_le_length (by simp)) (fun j o ho hj => by rw [hnone] at hj; cases hj) ?_
  have et : ∀ m, tmD ops es st.tm (fun i => (Array.replicate ops.toArray.size false).getD i false) m = st.tm := fun m => by
    induction m with
    | zero => rfl
    | succ m ih => simp only [tmD]; rw [if_neg (by rw [hnone]; decide)]; exact ih
  have eh : ∀ m, hpD es st.n st.hp (fun i => (Array.replicate ops.toArray.size false).getD i false) m = st.hp := fun m => by
    induction m with
    | zero => rfl
    | succ m ih => simp only [hpD]; rw [if_neg (by rw [hnone]; decide)]; exact ih
  have ed : ∀ m, dD es [] (fun i => (Array.replicate ops.toArray.size false).getD i false) m = [] := fun m => by
    induction m with
    | zero => rfl
    | succ m ih => simp only [dD]; rw [if_neg (by rw [hnone]; decide)]; exact ih
  refine ⟨fun t => ?_, hr.nt, hr.df, by rw [eh]; exact hr1.2, fun i _ _ => hr.fr _ (by omega), fun b hb hn => absurd (hr.fr b (by omega)) hn, by rw [eh, ed]; exact hr1.1, fun b h1 h2 => absurd h1 h2⟩
  rw [et]
  exact (hr.tm t).step hr1.1 hr.hp
end Go.VI

end
