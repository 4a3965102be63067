/- Maps: what the model's look-ups, stores and deletions come to on lists of pairs. -/
import Derived.Test.YtfifgcaielmbiaaVIl
import Derived.MapKept
namespace Go.VI
open Go.MapKept (IsKey bytes_beq run_getObj_map run_setObj_map run_checkKey run_findKey)
set_option linter.unusedVariables false
set_option linter.unusedSimpArgs false
variable {R : Type} {P : Program}

def kval : (kt : Ty) → kt.den → Value
  | .str, s => .string s
  | .int k, n => .int k n
  | _, _ => Go.undef
def kdesc : Ty → TypeDesc
  | .int k => .int k
  | _ => .string
def mix (kt : Ty) {β : Type} : List (kt.den × β) → kt.den → Option Nat
  | [], _ => none
  | e :: es, k => br (kt.keq k e.1) (some 0) ((mix kt es k).map (· + 1))

theorem mget_mix (kt : Ty) {β : Type} (k : kt.den) : ∀ es : List (kt.den × β), mget kt es k = (mix kt es k).bind fun i => es[i]?.map (·.2)
  | [] => rfl
  | e :: es => by
    have ih := mget_mix kt k es
    simp only [mget, mix]
    cases kt.keq k e.1
    · show mget kt es k = ((mix kt es k).map (· + 1)).bind _
      rw [ih]
      cases mix kt es k <;> rfl
    · rfl
theorem mset_mix (kt : Ty) {β : Type} (k : kt.den) (v : β) : ∀ es : List (kt.den × β), mset kt es k v = match mix kt es k with
    | some i => es.modify i fun _ => (k, v)
    | none => es ++ [(k, v)]
  | [] => rfl
  | e :: es => by
    have ih := mset_mix kt k v es
    simp only [mset, mix]
    cases kt.keq k e.1
    · show e :: mset kt es k v = match (mix kt es k).map (· + 1) with
        | some i => (e :: es).modify i fun _ => (k, v)
        | none => (e :: es) ++ [(k, v)]
      rw [ih]
      cases mix kt es k <;> rfl
    · rfl
theorem mdel_mix (kt : Ty) {β : Type} (k : kt.den) : ∀ es : List (kt.den × β), mdel kt es k = match mix kt es k with
    | some i => es.eraseIdx i
    | none => es
  | [] => rfl
  | e :: es => by
    have ih := mdel_mix kt k es
    simp only [mdel, mix]
    cases kt.keq k e.1
    · show e :: mdel kt es k = match (mix kt es k).map (· + 1) with
        | some i => (e :: es).eraseIdx i
        | none => e :: es
      rw [ih]
      cases mix kt es k <;> rfl
    · rfl
theorem mix_lt (kt : Ty) {β : Type} (k : kt.den) : ∀ (es : List (kt.den × β)) (i : Nat), mix kt es k = some i → i < es.length ∧ ∃ e, es[i]? = some e ∧ kt.keq k e.1 = true
  | [], i, h => by cases h
  | e :: es, i, h => by
    simp only [mix] at h
    cases hq : kt.keq k e.1 with
    | true => rw [hq] at h; cases h; exact ⟨by simp, e, rfl, hq⟩
    | false =>
      rw [hq] at h
      have h : (mix kt es k).map (· + 1) = some i := h
      cases hm : mix kt es k with
      | none => rw [hm] at h; cases h
      | some j =>
        rw [hm] at h
        cases h
        obtain ⟨h1, e', h2, h3⟩ := mix_lt kt k es j hm
        exact ⟨by simp; omega, e', by simpa using h2, h3⟩

/-- Is it a type of keys that are compared at once? -/
def kOk : Ty → Bool
  | .str => true
  | .int _ => true
  | _ => false
theorem isKey {kt : Ty} (h : kOk kt = true) (k : kt.den) : IsKey (kdesc kt) (kval kt k) := by
  cases kt with
  | int k0 => exact (rfl : k0 = k0)
  | str => exact trivial
  | _ => cases h
theorem sameNow_is {kt : Ty} (h : kOk kt = true) (a b : kt.den) : Instr.sameNow (kdesc kt) (kval kt a) (kval kt b) = some (kt.keq a b) := by
  cases kt <;> first | cases h | skip
  · rename_i k
    show (if k = k then some ((a : Int) == b) else none) = some (decide ((a : Int) = b))
    rw [if_pos rfl, beq_int]
  · show some ((a : ByteArray) == b) = some (decide ((a : ByteArray) = b))
    congr 1
    by_cases e : (a : ByteArray) = b
    · rw [decide_eq_true e]; exact (bytes_beq a b).2 e
    · rw [decide_eq_false e]
      cases hq : (a : ByteArray) == b with
      | false => rfl
      | true => exact absurd ((bytes_beq a b).1 hq) e

/-- The entries' keys, in order. -/
def Keys (kt : Ty) {β : Type} (es : List (kt.den × β)) (ms : List MapEntry) : Prop := ms.length = es.length ∧ ∀ (i : Nat) (e : kt.den × β) (m : MapEntry), es[i]? = some e → ms[i]? = some m → m.key = kval kt e.1
theorem find_is {kt : Ty} (h : kOk kt = true) {β : Type} (k : kt.den) : ∀ (es : List (kt.den × β)) (ms : List MapEntry) (off : Nat), Keys kt es ms →
    Instr.findNow (kdesc kt) (kval kt k) ms off = some ((mix kt es k).bind fun i => ms[i]?.map fun m => (off + i, m.val))
  | [], [], off, _ => rfl
  | [], _ :: _, _, hk => by have := hk.1; simp at this
  | _ :: _, [], _, hk => by have := hk.1; simp at this
  | e :: es, m :: ms, off, hk => by
    have h0 : m.key = kval kt e.1 := hk.2 0 e m rfl rfl
    have hk' : Keys kt es ms := ⟨by have := hk.1; simpa using this, fun i e' m' h1 h2 => hk.2 (i + 1) e' m' (by simpa using h1) (by simpa using h2)⟩
    have ih := find_is h k es ms (off + 1) hk'
    simp only [Instr.findNow, h0, sameNow_is h, mix]
    cases kt.keq k e.1
    · show Instr.findNow _ _ ms (off + 1) = some (((mix kt es k).map (· + 1)).bind _)
      rw [ih]
      cases mix kt es k with
      | none => rfl
      | some i =>
        show some (ms[i]?.map fun m => (off + 1 + i, m.val)) = some ((m :: ms)[i + 1]?.map fun m => (off + (i + 1), m.val))
        rw [List.getElem?_cons_succ, Nat.add_assoc, Nat.add_comm 1 i]
    · rfl

theorem keyOk_spec {kT : TypeId} {kt : Ty} (h : keyOk P kT kt = true) : P.underlying kT = some (kdesc kt) ∧ kOk kt = true := by
  unfold keyOk at h
  split at h
  · rename_i hu; exact ⟨hu, rfl⟩
  · rename_i k k' hu; cases kEq_eq h; exact ⟨hu, rfl⟩
  · cases h
/-- A key's value. -/
theorem key_is {F : Nat → Prop} {w : World} {kt : Ty} (h : kOk kt = true) {k : kt.den} {u : Value} (hr : RelT F w kt k u.cells.toList) (ho : kt.isAgg = false → u.cells = #[u]) : u = kval kt k := by
  cases kt with
  | int k0 =>
    have ho := ho rfl
    rw [ho] at hr
    have hr : [u] = [.int k0 k] := hr
    injection hr
  | str =>
    have ho := ho rfl
    rw [ho] at hr
    have hr : [u] = [.string k] := hr
    injection hr
  | _ => cases h
theorem kOk_agg {kt : Ty} (h : kOk kt = true) : kt.isAgg = false := by cases kt <;> first | rfl | cases h
theorem key_rel {F : Nat → Prop} {w : World} {kt : Ty} (h : kOk kt = true) (k : kt.den) : RelT F w kt k (kval kt k).cells.toList ∧ (kval kt k).cells = #[kval kt k] := by
  cases kt with
  | int k0 => exact ⟨rfl, rfl⟩
  | str => exact ⟨rfl, rfl⟩
  | _ => cases h

/-- What block b holds in memory. -/
theorem map_at {g : Gh} {H : Hp} {w : World} {b gen : Nat} {kt vt : Ty} {es : List (kt.den × vt.den)} {m : AV} {um : Value} (hr : HRel g H w) (hb : H b = .map kt vt es gen) (hm : RelV g w (.map b) um) (hk : kOk kt = true) :
    ∃ r c ms clock, g.i b = some (r, c) ∧ um = .map (some r) ∧ w.heap[r]? = some (.map ms clock) ∧ Keys kt es ms.toList ∧
      (∀ (i : Nat) (e : kt.den × vt.den) (m : MapEntry), es[i]? = some e → ms[i]? = some m → RelTV g.F w vt e.2 m.val ∧ m.born < clock) ∧ (∀ (i j : Nat) (m m' : MapEntry), ms[i]? = some m → ms[j]? = some m' → m.born = m'.born → i = j) := by
  have hG : g.G b = .map kt vt gen := by rw [hr.kd b (fun e => by rw [hb] at e; cases e), hb]; rfl
  have hB := hr.blk b
  rw [hb] at hB
  obtain ⟨r, c, ms, clock, h1, h2, h3, h4, h5⟩ := hB
  cases hm with
  | map _ _ hn hp ha =>
    obtain ⟨r2, c2, e1, rfl⟩ := ha _ _ _ hG
    rw [h1] at e1; cases e1
    refine ⟨r, c, ms, clock, h1, rfl, h2, ⟨by simpa using h3, fun i e m he hm => ?_⟩, fun i e m he hm => ?_, h5⟩
    · obtain ⟨k1, _, k3, _⟩ := h4 i e m he (by simpa using hm)
      exact key_is hk k1 k3
    · obtain ⟨_, k2, _, _, k5, k6, k7⟩ := h4 i e m he hm
      exact ⟨⟨k2, k5, k6⟩, k7⟩

theorem lookupO_sound {t : TypeId} {m ix : AV} {ok : Bool} {H : Hp} {n : Nat} {κ : KO R} {r : R} (h : lookupO P t m ix ok H n κ = some r) :
    ∃ v, κ v H n [] = some r ∧ ∀ (g : Gh) (w : World) (um ui : Value), HRel g H w → RelV g w m um → RelV g w ix ui → ∃ u, (Instr.lookup t um ui ok).run P w = .ok u w ∧ RelV g w v u := by
  unfold lookupO at h
  split at h <;> try (cases h; done)
  rename_i kT e ht
  split at h <;> try (cases h; done)
  rename_i z hz
  obtain ⟨ie, zv, hie, hzv, rfl⟩ := zeroT_spec hz
  have hzero : ∀ w : World, (zeroValue e).run P w = .ok zv w := fun w => by simp only [zeroValue, typeInfo, Sem.run_bind, run_program, hie, hzv, Result.andThen_ok, Sem.run_pure]
  split at h
  case h_3 => cases h
  · -- a map
    rename_i b
    split at h <;> try (cases h; done)
    rename_i kt vt es gen hb
    obtain ⟨hk, h⟩ := br_none h
    obtain ⟨hkT, hko⟩ := keyOk_spec hk
    split at h <;> try (cases h; done)
    rename_i k hdk
    split at h <;> try (cases h; done)
    rename_i z0 hdz
    refine ⟨_, h, fun g w um ui hr hm hi => ?_⟩
    obtain ⟨r', c, ms, clock, h1, rfl, h2, h3, h4, h5⟩ := map_at (m := .map b) hr hb hm hko
    have hti := decV_sound hdk hi
    obtain rfl := key_is hko hti.rel hti.one
    have hf := find_is hko k es ms.toList 0 h3
    have hrun := run_findKey (P := P) (w := w) hkT hf
    have hck := run_checkKey (P := P) (w := w) hkT (isKey hko k) ms.isEmpty 9999
    have base : ∀ (mv : Value) (found : Bool), (match (mix kt es k).bind fun i => ms.toList[i]?.map fun m => (0 + i, m.val) with
        | some (_, v) => (v, true)
        | none => (zv, false)) = (mv, found) → (Instr.lookup t (.map (some r')) (kval kt k) ok).run P w = .ok (if ok then .tuple #[mv, .bool found] else mv) w := fun mv found hq => by
      simp only [Instr.lookup, Sem.run_bind, run_underlying ht, Result.andThen_ok, Go.MapKept.run_getObj_map h2, Sem.run_pure, hck, hrun]
      cases hx : (mix kt es k).bind fun i => ms.toList[i]?.map fun m => (0 + i, m.val) with
      | none => rw [hx] at hq; cases hq; simp only [Sem.run_bind, hzero, Result.andThen_ok, Sem.run_pure]
      | some p => rw [hx] at hq; obtain ⟨q1, q2⟩ := p; cases hq; simp only [Sem.run_bind, Result.andThen_ok, Sem.run_pure]
    have fin : ∀ (x : vt.den) (mv : Value) (found : Bool), RelTV g.F w vt x mv → RelV g w (br ok (.tup [vt.val x, .bool found]) (vt.val x)) (if ok then .tuple #[mv, .bool found] else mv) := fun x mv found hx => by
      have hv := val_sound (g := g) hx
      cases ok
      · exact hv
      · exact RelVs.tup (.cons hv (.cons (.bool found) .nil))
    rw [mget_mix]
    cases hx : mix kt es k with
    | none =>
      refine ⟨_, base zv false (by rw [hx]; rfl), ?_⟩
      exact fin z0 zv false (decV_sound hdz (const_sound zv))
    | some i =>
      obtain ⟨hlt, e', he', _⟩ := mix_lt kt k es i hx
      have hlm : i < ms.toList.length := by rw [h3.1]; exact hlt
      have hm' : ms.toList[i]? = some ms.toList[i] := List.getElem?_eq_getElem hlm
      refine ⟨_, base ms.toList[i].val true (by rw [hx]; simp only [Option.bind_some, hm', Option.map_some]), ?_⟩
      have := (h4 i e' ms.toList[i] he' (by rw [← Array.getElem?_toList]; exact hm')).1
      simp only [Option.bind_some, he', Option.map_some, Option.getD_some, Option.isSome_some]
      exact fin e'.2 _ true this
  · -- no map
    obtain ⟨hk, h⟩ := br_none h
    refine ⟨_, h, fun g w um ui hr hm hi => ?_⟩
    cases hm
    have hkey : ∃ d, P.underlying kT = some d ∧ IsKey d ui ∧ (d = .string ∨ ∃ k, d = .int k) := by
      unfold keyV at hk
      split at hk
      · rename_i hu; cases hi; exact ⟨_, hu, trivial, .inl rfl⟩
      · rename_i hu; cases kEq_eq hk; cases hi; exact ⟨_, hu, rfl, .inr ⟨_, rfl⟩⟩
      · cases hk
    obtain ⟨d, hd, hik, _⟩ := hkey
    have hck := run_checkKey (P := P) (w := w) hd hik true 9999
    have hrun := run_findKey (P := P) (w := w) (l := []) (a := none) hd (k := ui) rfl
    refine ⟨if ok then .tuple #[zv, .bool false] else zv, ?_, ?_⟩
    · simp only [Instr.lookup, Sem.run_bind, run_underlying ht, Result.andThen_ok, Sem.run_pure]
      have e1 : (#[] : Array MapEntry).isEmpty = true := rfl
      have e2 : (#[] : Array MapEntry).toList = [] := rfl
      simp only [e1, e2, hck, hrun, hzero, Result.andThen_ok, Sem.run_bind, Sem.run_pure]
    · cases ok
      · exact const_sound zv
      · exact RelVs.tup (.cons (const_sound zv) (.cons (.bool false) .nil))

theorem keyV_spec {kT : TypeId} {ix : AV} {g : Gh} {w : World} {ui : Value} (hk : keyV P kT ix = true) (hi : RelV g w ix ui) : ∃ d, P.underlying kT = some d ∧ IsKey d ui := by
  unfold keyV at hk
  split at hk
  · rename_i hu; cases hi; exact ⟨_, hu, trivial⟩
  · rename_i hu; cases kEq_eq hk; cases hi; exact ⟨_, hu, rfl⟩
  · cases hk

theorem sameBits_refl {kt : Ty} (h : kOk kt = true) (k : kt.den) (n : Nat) : Instr.sameBits n (kval kt k) (kval kt k) = true := by
  cases kt with
  | int k0 => show Instr.sameBits n (.int k0 k) (.int k0 k) = true; unfold Instr.sameBits; simp
  | str =>
    show Instr.sameBits n (.string k) (.string k) = true
    unfold Instr.sameBits
    exact (bytes_beq k k).2 rfl
  | _ => cases h
theorem keq_eq {kt : Ty} (h : kOk kt = true) {a b : kt.den} (he : kt.keq a b = true) : a = b := by
  cases kt with
  | int k0 => exact of_decide_eq_true he
  | str => exact of_decide_eq_true he
  | _ => cases h

/-- A map's block with other entries. -/
theorem map_write {g : Gh} {H : Hp} {w : World} {b gen r c clock clock' : Nat} {kt vt : Ty} {es es' : List (kt.den × vt.den)} {ms ms' : Array MapEntry} (hr : HRel g H w) (hb : H b = .map kt vt es gen) (hi : g.i b = some (r, c)) (hw : w.heap[r]? = some (.map ms clock)) (hk : kOk kt = true)
    (hkeys : Keys kt es' ms'.toList) (hvals : ∀ (i : Nat) (e : kt.den × vt.den) (m : MapEntry), es'[i]? = some e → ms'[i]? = some m → RelTV g.F w vt e.2 m.val ∧ m.born < clock') (hdist : ∀ (i j : Nat) (m m' : MapEntry), ms'[i]? = some m → ms'[j]? = some m' → m.born = m'.born → i = j) :
    ∃ g', Ext g H w [b] g' (upd H b (.map kt vt es' (gen + 1))) { w with heap := w.heap.setIfInBounds r (.map ms' clock') } ∧ HRel g' (upd H b (.map kt vt es' (gen + 1))) { w with heap := w.heap.setIfInBounds r (.map ms' clock') } ∧ ∀ b', g.G b' = .none → g'.G b' ≠ .none → False := by
  have hs : H b ≠ .gone := by rw [hb]; exact fun h => by cases h
  have hG : g.G b = .map kt vt gen := by rw [hr.kd b (fun e => hs e), hb]; rfl
  have hlt : r < w.heap.size := (Array.getElem?_eq_some_iff.1 hw).1
  obtain ⟨x1, x2, x3⟩ := HRel.write (w' := { w with heap := w.heap.setIfInBounds r (.map ms' clock') }) (blk := .map kt vt es' (gen + 1)) hr hs hi (fun h => by cases h) (by simp) (fun r'' hne => by simp [Array.getElem?_setIfInBounds, Ne.symm hne])
    (.inr (.inr (.inr (.inr ⟨kt, vt, gen, gen + 1, hG, rfl, Nat.lt_succ_self _⟩)))) (fun he => ⟨r, c, ms', clock', hi, by simp [Array.getElem?_setIfInBounds, hlt], by have := hkeys.1; simpa using this, fun i e m h1 h2 => by
      have hkm : m.key = kval kt e.1 := hkeys.2 i e m h1 (by rw [Array.getElem?_toList]; exact h2)
      obtain ⟨k1, k2⟩ := key_rel (F := g.F) (w := { w with heap := w.heap.setIfInBounds r (.map ms' clock') }) hk e.1
      obtain ⟨v1, v2⟩ := hvals i e m h1 h2
      refine ⟨by rw [hkm]; exact k1, v1.rel.mono he.mono (he.keepF hr), (fun _ => by rw [hkm]; exact k2), (fun h => by rw [kOk_agg hk] at h; cases h), v1.one, v1.agg, v2⟩, hdist⟩)
  exact ⟨_, x1, x2, x3⟩

theorem modify_get {α : Type} (f : α → α) (l : List α) (i j : Nat) : (l.modify i f)[j]? = if i = j then l[j]?.map f else l[j]? := by
  rw [List.getElem?_modify]
  by_cases h : i = j <;> simp [h]

theorem mapUpdateO_sound {t : TypeId} {m k v : AV} {H : Hp} {n : Nat} {κ : KO R} {r : R} (h : mapUpdateO P t m k v H n κ = some r) :
    ∃ H' D, κ .undef H' n D = some r ∧ ∀ (g : Gh) (w : World) (um uk uv : Value), HRel g H w → RelV g w m um → RelV g w k uk → RelV g w v uv → ∃ w', (Instr.mapUpdate t um uk uv).run P w = .ok () w' ∧ ∃ g', Went g H w (fun _ => False) .undef H' D Go.undef w' g' := by
  unfold mapUpdateO at h
  split at h <;> try (cases h; done)
  rename_i kT e ht
  split at h <;> try (cases h; done)
  rename_i b
  split at h <;> try (cases h; done)
  rename_i kt vt es gen hb
  obtain ⟨hk, h⟩ := br_none h
  obtain ⟨hkT, hko⟩ := keyOk_spec hk
  split at h <;> try (cases h; done)
  rename_i kx hdk
  split at h <;> try (cases h; done)
  rename_i vx hdv
  refine ⟨_, _, h, fun g w um uk uv hr hm hi hv => ?_⟩
  obtain ⟨r', c, ms, clock, h1, rfl, h2, h3, h4, h5⟩ := map_at (m := .map b) hr hb hm hko
  have hti := decV_sound hdk hi
  obtain rfl := key_is hko hti.rel hti.one
  have htv := decV_sound hdv hv
  have hf := find_is hko kx es ms.toList 0 h3
  have hrun := run_findKey (P := P) (w := w) hkT hf
  have hck := run_checkKey (P := P) (w := w) hkT (isKey hko kx) false 9999
  rw [mset_mix]
  cases hx : mix kt es kx with
  | none =>
    rw [hx] at hrun
    have hrun' : (Instr.mapUpdate t (.map (some r')) (kval kt kx) uv).run P w = .ok () { w with heap := w.heap.setIfInBounds r' (.map (ms.push { key := kval kt kx, val := uv, born := clock }) (clock + 1)) } := by
      simp only [Instr.mapUpdate, Sem.run_bind, run_underlying ht, Result.andThen_ok, Go.MapKept.run_getObj_map h2, hck, hrun, Option.bind_none, Go.MapKept.run_setObj_map _ h2]
    obtain ⟨g', x1, x2, x3⟩ := map_write (es' := es ++ [(kx, vx)]) (ms' := ms.push { key := kval kt kx, val := uv, born := clock }) (clock' := clock + 1) hr hb h1 h2 hko
      ⟨by have := h3.1; simp at this ⊢; exact this, fun i e m he hm => by
        have hl := h3.1
        rw [Array.length_toList] at hl
        rw [Array.toList_push] at hm
        by_cases hi : i < es.length
        · rw [List.getElem?_append_left hi] at he
          rw [List.getElem?_append_left (by rw [Array.length_toList]; omega)] at hm
          exact h3.2 i e m he hm
        · have hi' : i = es.length := by
            have := (List.getElem?_eq_some_iff.1 he).1
            simp at this; omega
          subst hi'
          rw [List.getElem?_append_right (Nat.le_refl _), Nat.sub_self] at he
          rw [← h3.1, List.getElem?_append_right (Nat.le_refl _), Nat.sub_self] at hm
          cases he; cases hm; rfl⟩
      (fun i e m he hm => by
        have hl := h3.1
        rw [Array.length_toList] at hl
        by_cases hi : i < es.length
        · rw [List.getElem?_append_left hi] at he
          rw [Array.getElem?_push_lt (by omega)] at hm
          obtain ⟨a1, a2⟩ := h4 i e m he (by rw [Array.getElem?_eq_getElem (by omega)]; exact hm)
          exact ⟨a1, by omega⟩
        · have hi' : i = es.length := by
            have := (List.getElem?_eq_some_iff.1 he).1
            simp at this; omega
          subst hi'
          rw [List.getElem?_append_right (Nat.le_refl _), Nat.sub_self] at he
          rw [← hl, Array.getElem?_push_size] at hm
          cases he; cases hm
          exact ⟨htv, Nat.lt_succ_self _⟩)
      (fun i j m m' hm hm' hbm => by
        have hl := h3.1
        rw [Array.length_toList] at hl
        have old : ∀ (i : Nat) (m : MapEntry), i < ms.size → (ms.push { key := kval kt kx, val := uv, born := clock })[i]? = some m → ms[i]? = some m ∧ m.born < clock := fun i m hi hm => by
          rw [Array.getElem?_push_lt hi] at hm
          have hm : ms[i]? = some m := by rw [Array.getElem?_eq_getElem hi]; exact hm
          exact ⟨hm, (h4 i es[i] m (List.getElem?_eq_getElem (by omega)) hm).2⟩
        have new : ∀ (i : Nat) (m : MapEntry), ¬ i < ms.size → (ms.push { key := kval kt kx, val := uv, born := clock })[i]? = some m → i = ms.size ∧ m.born = clock := fun i m hi hm => by
          have := (Array.getElem?_eq_some_iff.1 hm).1
          rw [Array.size_push] at this
          have hi' : i = ms.size := by omega
          subst hi'
          rw [Array.getElem?_push_size] at hm
          cases hm; exact ⟨rfl, rfl⟩
        by_cases hi : i < ms.size
        · obtain ⟨a1, a2⟩ := old i m hi hm
          by_cases hj : j < ms.size
          · obtain ⟨b1, b2⟩ := old j m' hj hm'
            exact h5 i j m m' a1 b1 hbm
          · obtain ⟨_, b2⟩ := new j m' hj hm'
            omega
        · obtain ⟨a1, a2⟩ := new i m hi hm
          by_cases hj : j < ms.size
          · obtain ⟨_, b2⟩ := old j m' hj hm'
            omega
          · obtain ⟨b1, _⟩ := new j m' hj hm'
            omega)
    exact ⟨_, hrun', g', x1, x2, .undef _, fun b h h' => (x3 b h h').elim⟩
  | some i =>
    obtain ⟨hlt, e', he', hq⟩ := mix_lt kt kx es i hx
    have hqe := keq_eq hko hq
    have hlm : i < ms.toList.length := by rw [h3.1]; exact hlt
    have hms : ms.toList[i]? = some ms.toList[i] := List.getElem?_eq_getElem hlm
    have hms' : ms[i]? = some ms.toList[i] := by rw [← Array.getElem?_toList]; exact hms
    have hkey : ms.toList[i].key = kval kt kx := by rw [h3.2 i e' _ he' hms, hqe]
    rw [hx] at hrun
    simp only [Option.bind_some, hms, Option.map_some] at hrun
    have hstay : (Instr.keyThatStays (kval kt kx) (kval kt kx)).run P w = .ok (kval kt kx) w := by
      unfold Instr.keyThatStays
      rw [if_pos (sameBits_refl hko kx 10000)]
      rfl
    have hrun' : (Instr.mapUpdate t (.map (some r')) (kval kt kx) uv).run P w = .ok () { w with heap := w.heap.setIfInBounds r' (.map (ms.modify i fun e => { e with key := kval kt kx, val := uv }) clock) } := by
      simp only [Instr.mapUpdate, Sem.run_bind, run_underlying ht, Result.andThen_ok, Go.MapKept.run_getObj_map h2, hck, hrun, Nat.zero_add, hms', Option.map_some, Option.getD_some, hkey, hstay, Go.MapKept.run_setObj_map _ h2]
    have hget : ∀ j, (ms.modify i fun e => { e with key := kval kt kx, val := uv })[j]? = if i = j then ms[j]?.map (fun e => { e with key := kval kt kx, val := uv }) else ms[j]? := fun j => by
      rw [Array.getElem?_modify]
    obtain ⟨g', x1, x2, x3⟩ := map_write (es' := es.modify i fun _ => (kx, vx)) (ms' := ms.modify i fun e => { e with key := kval kt kx, val := uv }) (clock' := clock) hr hb h1 h2 hko
      ⟨by have := h3.1; simp at this ⊢; exact this, fun j e m he hm => by
        rw [modify_get] at he
        rw [Array.getElem?_toList, hget] at hm
        by_cases hij : i = j
        · rw [if_pos hij] at he hm
          subst hij
          rw [he'] at he; rw [hms'] at hm
          cases he; cases hm; rfl
        · rw [if_neg hij] at he hm
          exact h3.2 j e m he (by rw [Array.getElem?_toList]; exact hm)⟩
      (fun j e m he hm => by
        rw [modify_get] at he
        rw [hget] at hm
        by_cases hij : i = j
        · rw [if_pos hij] at he hm
          subst hij
          rw [he'] at he; rw [hms'] at hm
          cases he; cases hm
          exact ⟨htv, (h4 i e' _ he' hms').2⟩
        · rw [if_neg hij] at he hm
          exact h4 j e m he hm)
      (fun j j' m m' hm hm' hbm => by
        rw [hget] at hm hm'
        have back : ∀ (j : Nat) (m : MapEntry), (if i = j then ms[j]?.map (fun e => { e with key := kval kt kx, val := uv }) else ms[j]?) = some m → ∃ m0, ms[j]? = some m0 ∧ m0.born = m.born := fun j m hm => by
          by_cases hij : i = j
          · rw [if_pos hij] at hm
            cases hq : ms[j]? with
            | none => rw [hq] at hm; cases hm
            | some m0 => rw [hq] at hm; cases hm; exact ⟨m0, rfl, rfl⟩
          · rw [if_neg hij] at hm; exact ⟨m, hm, rfl⟩
        obtain ⟨m0, a1, a2⟩ := back j m hm
        obtain ⟨m1, b1, b2⟩ := back j' m' hm'
        exact h5 j j' m0 m1 a1 b1 (by rw [a2, b2, hbm]))
    exact ⟨_, hrun', g', x1, x2, .undef _, fun b h h' => (x3 b h h').elim⟩

theorem erase_get {α : Type} (l : List α) (i j : Nat) : (l.eraseIdx i)[j]? = if j < i then l[j]? else l[j + 1]? := List.getElem?_eraseIdx ..
theorem erase_arr {α : Type} (a : Array α) (i : Nat) (h : i < a.size) (j : Nat) : (a.eraseIdxIfInBounds i)[j]? = if j < i then a[j]? else a[j + 1]? := by
  rw [← Array.getElem?_toList]
  have e : (a.eraseIdxIfInBounds i).toList = a.toList.eraseIdx i := by
    unfold Array.eraseIdxIfInBounds
    rw [dif_pos h, Array.toList_eraseIdx]
  rw [e, erase_get]
  by_cases h : j < i
  · rw [if_pos h, if_pos h, Array.getElem?_toList]
  · rw [if_neg h, if_neg h, Array.getElem?_toList]

theorem deleteO_sound {t : TypeId} {m k : AV} {H : Hp} {n : Nat} {κ : KO R} {r : R} (h : deleteO P t m k H n κ = some r) :
    ∃ H' D, κ (.tup []) H' n D = some r ∧ ∀ (g : Gh) (w : World) (um uk : Value) (ats : Array TypeId) (ty : TypeId), ats[0]? = some t → HRel g H w → RelV g w m um → RelV g w k uk → ∃ w', (Builtin.delete_ ats ty #[um, uk]).run P w = .ok (.tuple #[]) w' ∧ ∃ g', Went g H w (fun _ => False) (.tup []) H' D (.tuple #[]) w' g' := by
  unfold deleteO at h
  split at h <;> try (cases h; done)
  rename_i kT e ht
  have tup0 : ∀ (g : Gh) (w : World), RelV g w (.tup []) (.tuple #[]) := fun g w => .tup [] #[] (fun _ => Go.undef) rfl (fun j c h => by simp at h) (fun j c h => by simp at h)
  split at h
  case h_3 => cases h
  · obtain ⟨hk, h⟩ := br_none h
    refine ⟨_, _, h, fun g w um uk ats ty hts hr hm hi => ?_⟩
    cases hm
    obtain ⟨d, hd, hik⟩ := keyV_spec hk hi
    have hck := run_checkKey (P := P) (w := w) hd hik true 9999
    exact ⟨w, by simp [Builtin.delete_, hts, run_underlying ht, hck], g, Went.same hr (tup0 g w)⟩
  · rename_i b
    split at h <;> try (cases h; done)
    rename_i kt vt es gen hb
    obtain ⟨hk, h⟩ := br_none h
    obtain ⟨hkT, hko⟩ := keyOk_spec hk
    split at h <;> try (cases h; done)
    rename_i kx hdk
    refine ⟨_, _, h, fun g w um uk ats ty hts hr hm hi => ?_⟩
    obtain ⟨r', c, ms, clock, h1, rfl, h2, h3, h4, h5⟩ := map_at (m := .map b) hr hb hm hko
    have hti := decV_sound hdk hi
    obtain rfl := key_is hko hti.rel hti.one
    have hf := find_is hko kx es ms.toList 0 h3
    have hrun := run_findKey (P := P) (w := w) hkT hf
    have hck := run_checkKey (P := P) (w := w) hkT (isKey hko kx) ms.isEmpty 9999
    rw [mdel_mix]
    cases hx : mix kt es kx with
    | none =>
      rw [hx] at hrun
      obtain ⟨g', x1, x2, x3⟩ := map_write (es' := es) (ms' := ms) (clock' := clock) hr hb h1 h2 hko h3 h4 h5
      refine ⟨_, ?_, g', x1, x2, tup0 _ _, fun b h h' => (x3 b h h').elim⟩
      simp only [Builtin.delete_, Sem.run_bind, hts, List.getElem?_toArray, List.getElem?_cons_zero, List.getElem?_cons_succ, run_underlying ht, Result.andThen_ok, Go.MapKept.run_getObj_map h2, hck, hrun, Option.bind_none, Go.MapKept.run_setObj_map _ h2, Sem.run_pure]
    | some i =>
      obtain ⟨hlt, e', he', hq⟩ := mix_lt kt kx es i hx
      have hlm : i < ms.toList.length := by rw [h3.1]; exact hlt
      have hms : ms.toList[i]? = some ms.toList[i] := List.getElem?_eq_getElem hlm
      rw [hx] at hrun
      simp only [Option.bind_some, hms, Option.map_some, Nat.zero_add] at hrun
      have hsz : i < ms.size := by rw [← Array.length_toList]; exact hlm
      have hget := erase_arr ms i hsz
      obtain ⟨g', x1, x2, x3⟩ := map_write (es' := es.eraseIdx i) (ms' := ms.eraseIdxIfInBounds i) (clock' := clock) hr hb h1 h2 hko
        ⟨by
          have hl := h3.1
          rw [Array.length_toList] at hl
          have : (ms.eraseIdxIfInBounds i).size = ms.size - 1 := by unfold Array.eraseIdxIfInBounds; rw [dif_pos hsz, Array.size_eraseIdx]
          rw [Array.length_toList, this, List.length_eraseIdx, if_pos hlt, hl], fun j e m he hm => by
          rw [erase_get] at he
          rw [Array.getElem?_toList, hget] at hm
          by_cases hij : j < i
          · rw [if_pos hij] at he hm
            exact h3.2 j e m he (by rw [Array.getElem?_toList]; exact hm)
          · rw [if_neg hij] at he hm
            exact h3.2 (j + 1) e m he (by rw [Array.getElem?_toList]; exact hm)⟩
        (fun j e m he hm => by
          rw [erase_get] at he
          rw [hget] at hm
          by_cases hij : j < i
          · rw [if_pos hij] at he hm
            exact h4 j e m he hm
          · rw [if_neg hij] at he hm
            exact h4 (j + 1) e m he hm)
        (fun j j' m m' hm hm' hbm => by
          rw [hget] at hm hm'
          by_cases hij : j < i <;> by_cases hij' : j' < i
          · rw [if_pos hij] at hm; rw [if_pos hij'] at hm'; exact h5 j j' m m' hm hm' hbm
          · rw [if_pos hij] at hm; rw [if_neg hij'] at hm'
            have := h5 j (j' + 1) m m' hm hm' hbm
            omega
          · rw [if_neg hij] at hm; rw [if_pos hij'] at hm'
            have := h5 (j + 1) j' m m' hm hm' hbm
            omega
          · rw [if_neg hij] at hm; rw [if_neg hij'] at hm'
            have := h5 (j + 1) (j' + 1) m m' hm hm' hbm
            omega)
      refine ⟨_, ?_, g', x1, x2, tup0 _ _, fun b h h' => (x3 b h h').elim⟩
      simp only [Builtin.delete_, Sem.run_bind, hts, List.getElem?_toArray, List.getElem?_cons_zero, List.getElem?_cons_succ, run_underlying ht, Result.andThen_ok, Go.MapKept.run_getObj_map h2, hck, hrun, Go.MapKept.run_setObj_map _ h2, Sem.run_pure]
end Go.VI
