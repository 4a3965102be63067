/- Slicing, made slices, copies, conversions, strings' iterators. -/
import Derived.Test.YtfifgcaielmbiaaVIj
namespace Go.VI
set_option linter.unusedVariables false
set_option linter.unusedSimpArgs false
variable {R : Type} {P : Program}

theorem run_bounds {isSlice : Bool} {len cap l h m : Nat} {lo hi mx : Option Value} {w : World}
    (hlo : (lo = none ∧ l = 0) ∨ ∃ k i, lo = some (.int k i) ∧ 0 ≤ i ∧ i.toNat = l)
    (hhi : (hi = none ∧ mx = none ∧ h = len) ∨ ∃ k i, hi = some (.int k i) ∧ 0 ≤ i ∧ i.toNat = h)
    (hmx : (mx = none ∧ m = cap) ∨ ∃ k i, mx = some (.int k i) ∧ 0 ≤ i ∧ i.toNat = m) (h1 : l ≤ h) (h2 : hi = none ∨ h ≤ m) (h3 : m ≤ cap) :
    (Instr.sliceBounds isSlice len cap lo hi mx).run P w = .ok (l, h, m) w := by
  rcases hlo with ⟨rfl, rfl⟩ | ⟨k1, i1, rfl, a1, rfl⟩ <;> rcases hhi with ⟨rfl, rfl, rfl⟩ | ⟨k2, i2, rfl, a2, rfl⟩ <;> rcases hmx with ⟨e, rfl⟩ | ⟨k3, i3, e, a3, rfl⟩ <;> first | (cases e; done) | skip
  · simp [Instr.sliceBounds]
  · subst e
    have : i2 ≤ (m : Int) := by rcases h2 with h2 | h2 <;> first | (cases h2; done) | omega
    simp only [Instr.sliceBounds, Sem.run_bind, Sem.run_pure, Result.andThen_ok, run_sliceBound w k2 i2 m _ a2 this]
  · subst e
    have q1 : i2 ≤ ((i3.toNat : Nat) : Int) := by rcases h2 with h2 | h2 <;> first | (cases h2; done) | omega
    have q2 : i3 ≤ (cap : Int) := by omega
    simp only [Instr.sliceBounds, Sem.run_bind, Sem.run_pure, Result.andThen_ok, run_sliceBound w k3 i3 cap _ a3 q2, run_sliceBound w k2 i2 _ _ a2 q1]
  · have q0 : i1 ≤ (h : Int) := by omega
    simp only [Instr.sliceBounds, Sem.run_bind, Sem.run_pure, Result.andThen_ok, run_sliceBound w k1 i1 _ _ a1 q0]
  · subst e
    have q1 : i2 ≤ (m : Int) := by rcases h2 with h2 | h2 <;> first | (cases h2; done) | omega
    have q0 : i1 ≤ ((i2.toNat : Nat) : Int) := by omega
    simp only [Instr.sliceBounds, Sem.run_bind, Sem.run_pure, Result.andThen_ok, run_sliceBound w k2 i2 m _ a2 q1, run_sliceBound w k1 i1 _ _ a1 q0]
  · subst e
    have q1 : i2 ≤ ((i3.toNat : Nat) : Int) := by rcases h2 with h2 | h2 <;> first | (cases h2; done) | omega
    have q2 : i3 ≤ (cap : Int) := by omega
    have q0 : i1 ≤ ((i2.toNat : Nat) : Int) := by omega
    simp only [Instr.sliceBounds, Sem.run_bind, Sem.run_pure, Result.andThen_ok, run_sliceBound w k3 i3 cap _ a3 q2, run_sliceBound w k2 i2 _ _ a2 q1, run_sliceBound w k1 i1 _ _ a1 q0]

/-- An optional operand, and its value. -/
def RelO (g : Gh) (w : World) : Option AV → Option Value → Prop
  | none, none => True
  | some a, some v => RelV g w a v
  | _, _ => False

theorem boundO_some {x : Option AV} {d : Nat} {κ : Nat → Option R} {r : R} (h : boundO x d κ = some r) : ∃ m, κ m = some r ∧ ((x = none ∧ m = d) ∨ ∃ k i, x = some (.int k i) ∧ 0 ≤ i ∧ i.toNat = m) := by
  unfold boundO at h
  split at h
  · exact ⟨_, h, .inl ⟨rfl, rfl⟩⟩
  · have hx_ := br_none h
    clear h
    obtain ⟨hb, h⟩ := hx_
    exact ⟨_, h, .inr ⟨_, _, rfl, by simpa using hb, rfl⟩⟩
  · cases h

theorem relO_none {g : Gh} {w : World} {x : Option AV} {u : Option Value} (h : RelO g w x u) (hx : x = none) : u = none := by
  subst hx; cases u <;> first | rfl | cases h
theorem relO_int {g : Gh} {w : World} {x : Option AV} {u : Option Value} {k : IntKind} {i : Int} (h : RelO g w x u) (hx : x = some (.int k i)) : u = some (.int k i) := by
  subst hx; cases u with
  | none => cases h
  | some u => cases (show RelV g w (.int k i) u from h); rfl
theorem relO_bound {g : Gh} {w : World} {x : Option AV} {u : Option Value} {d m : Nat} (hu : RelO g w x u) (h : (x = none ∧ m = d) ∨ ∃ k i, x = some (.int k i) ∧ 0 ≤ i ∧ i.toNat = m) :
    (u = none ∧ m = d) ∨ ∃ k i, u = some (.int k i) ∧ 0 ≤ i ∧ i.toNat = m := by
  rcases h with ⟨h1, h2⟩ | ⟨k, i, h1, h2, h3⟩
  · exact .inl ⟨relO_none hu h1, h2⟩
  · exact .inr ⟨k, i, relO_int hu h1, h2, h3⟩

/-- Part of a slice that is read. -/
theorem sub_vals {g : Gh} {w : World} {ty : Ty} {l : List ty.den} {a : Option Addr} {cap i j m : Nat} (hle : l.length ≤ cap)
    (hc : ∀ k y, l[k]? = some y → ∃ ad, a = some ad ∧ g.F ad.block ∧ ∃ c, RelT g.F w ty y c ∧ ∀ q v, c[q]? = some v → w.cell? (ad.add (k * ty.size + q)) = some v)
    (hij : i ≤ j) (hj : j ≤ l.length) : RelV g w (.vals ty ((l.drop i).take (j - i))) (.slice (if cap = i then a else a.map (·.add (i * ty.size))) (j - i) (cap - i)) := by
  have hll : ((l.drop i).take (j - i)).length = j - i := by simp; omega
  refine .vals _ _ _ ⟨_, _, by rw [hll], by rw [hll]; omega, fun k y hy => ?_⟩
  have hk : k < j - i := by
    have := (List.getElem?_eq_some_iff.1 hy).1
    omega
  rw [List.getElem?_take, if_pos hk, List.getElem?_drop] at hy
  obtain ⟨ad, rfl, hF, c, hc1, hc2⟩ := hc _ y hy
  rw [if_neg (by omega)]
  refine ⟨_, rfl, by rw [add_block]; exact hF, c, hc1, fun q v hq => ?_⟩
  rw [Addr.add_add]
  have := hc2 q v hq
  rw [← this]; congr 2; rw [Nat.add_mul]; omega

theorem sliceO_sound {t : TypeId} {x : AV} {lo hi mx : Option AV} {H : Hp} {n : Nat} {κ : KO R} {r : R} (h : sliceO P t x lo hi mx H n κ = some r) :
    ∃ v, κ v H n [] = some r ∧ ∀ (g : Gh) (w : World) (ux : Value) (ulo uhi umx : Option Value), HRel g H w → RelV g w x ux → RelO g w lo ulo → RelO g w hi uhi → RelO g w mx umx →
      ∃ u, (Instr.sliceAt t ux ulo uhi umx).run P w = .ok u w ∧ RelV g w v u := by
  unfold sliceO at h
  split at h
  case h_5 => cases h
  · -- string
    rename_i s ht
    split at h
    · cases h
    have hx_ := boundO_some h
    clear h
    obtain ⟨l, h, hl⟩ := hx_
    have hx_ := boundO_some h
    clear h
    obtain ⟨m, h, hm⟩ := hx_
    have hx_ := br_none h
    clear h
    obtain ⟨hb, h⟩ := hx_
    obtain ⟨h1, h2⟩ := and_spec hb
    have h1 := Nat.le_of_ble_eq_true h1
    have h2 := Nat.le_of_ble_eq_true h2
    refine ⟨_, h, fun g w ux ulo uhi umx hr hx hlo hhi hmx => ?_⟩
    cases hx
    have := relO_none hmx rfl; subst this
    refine ⟨_, ?_, .str _⟩
    have hbd := run_bounds (P := P) (w := w) (isSlice := false) (len := s.size) (cap := s.size) (l := l) (h := m) (m := s.size) (mx := none) (relO_bound hlo hl) (by
      rcases relO_bound hhi hm with ⟨a, b⟩ | ⟨k, i, a, b⟩
      · exact .inl ⟨a, rfl, b⟩
      · exact .inr ⟨k, i, a, b⟩) (.inl ⟨rfl, rfl⟩) h1 (.inr h2) (Nat.le_refl _)
    simp only [Instr.sliceAt, Instr.slice, Sem.run_bind, run_underlying ht, Result.andThen_ok, Option.isSome_none, Bool.false_eq_true, if_false, hbd, Sem.run_pure]
  · -- vals
    rename_i e ty l ht
    have hx_ := br_none h
    clear h
    obtain ⟨hs, h⟩ := hx_
    obtain ⟨ie, hie, hsz⟩ := sizeIs_spec hs
    split at h
    · cases h
    have core : ∀ (g : Gh) (w : World) (ux : Value) (ulo uhi : Option Value) (i j : Nat), RelV g w (.vals ty l) ux → ((ulo = none ∧ i = 0) ∨ ∃ k z, ulo = some (.int k z) ∧ 0 ≤ z ∧ z.toNat = i) → ((uhi = none ∧ j = l.length) ∨ ∃ k z, uhi = some (.int k z) ∧ 0 ≤ z ∧ z.toNat = j) → i ≤ j → j ≤ l.length →
        ∃ u, (Instr.sliceAt t ux ulo uhi none).run P w = .ok u w ∧ RelV g w (.vals ty ((l.drop i).take (j - i))) u := by
      intro g w ux ulo uhi i j hx hlo hhi hij hj
      cases hx with
      | vals _ _ _ ht' =>
        obtain ⟨a, cap, e', hle, hc⟩ := ht'
        cases e'
        refine ⟨_, ?_, sub_vals (m := cap) hle hc hij hj⟩
        have hbd := run_bounds (P := P) (w := w) (isSlice := true) (len := l.length) (cap := cap) (l := i) (h := j) (m := cap) (mx := none) hlo (by
          rcases hhi with ⟨a, b⟩ | ⟨k, i, a, b⟩
          · exact .inl ⟨a, rfl, b⟩
          · exact .inr ⟨k, i, a, b⟩) (.inl ⟨rfl, rfl⟩) hij (.inr (by omega)) (Nat.le_refl _)
        simp only [Instr.sliceAt, Instr.slice, Sem.run_bind, run_underlying ht, Result.andThen_ok, hbd, run_sizeOf' hie, Sem.run_pure, hsz]
    split at h
    · refine ⟨_, h, fun g w ux ulo uhi umx hr hx hlo hhi hmx => ?_⟩
      have := relO_none hmx rfl; subst this
      have := core g w ux ulo uhi 0 l.length hx (.inl ⟨relO_none hlo rfl, rfl⟩) (.inl ⟨relO_none hhi rfl, rfl⟩) (Nat.zero_le _) (Nat.le_refl _)
      simpa using this
    · rename_i k i
      have hx_ := br_none h
      clear h
      obtain ⟨hb, h⟩ := hx_
      obtain ⟨h1, h2⟩ := and_spec hb
      have h1 : 0 ≤ i := by simpa using h1
      have h2 : i ≤ (l.length : Int) := by simpa using h2
      refine ⟨_, h, fun g w ux ulo uhi umx hr hx hlo hhi hmx => ?_⟩
      have := relO_none hmx rfl; subst this
      have := core g w ux ulo uhi i.toNat l.length hx (.inr ⟨k, i, relO_int hlo rfl, h1, rfl⟩) (.inl ⟨relO_none hhi rfl, rfl⟩) (by omega) (Nat.le_refl _)
      rw [List.take_of_length_le (by simp)] at this
      exact this
    · rename_i k j
      have hx_ := br_none h
      clear h
      obtain ⟨hb, h⟩ := hx_
      obtain ⟨h1, h2⟩ := and_spec hb
      have h1 : 0 ≤ j := by simpa using h1
      have h2 : j ≤ (l.length : Int) := by simpa using h2
      refine ⟨_, h, fun g w ux ulo uhi umx hr hx hlo hhi hmx => ?_⟩
      have := relO_none hmx rfl; subst this
      have := core g w ux ulo uhi 0 j.toNat hx (.inl ⟨relO_none hlo rfl, rfl⟩) (.inr ⟨k, j, relO_int hhi rfl, h1, rfl⟩) (Nat.zero_le _) (by omega)
      simpa using this
    · rename_i k i k' j
      have hx_ := br_none h
      clear h
      obtain ⟨hb, h⟩ := hx_
      obtain ⟨h1, hb⟩ := and_spec hb
      obtain ⟨h2, h3⟩ := and_spec hb
      have h1 : 0 ≤ i := by simpa using h1
      have h2 : i ≤ j := by simpa using h2
      have h3 : j ≤ (l.length : Int) := by simpa using h3
      refine ⟨_, h, fun g w ux ulo uhi umx hr hx hlo hhi hmx => ?_⟩
      have := relO_none hmx rfl; subst this
      exact core g w ux ulo uhi i.toNat j.toNat hx (.inr ⟨k, i, relO_int hlo rfl, h1, rfl⟩) (.inr ⟨k', j, relO_int hhi rfl, by omega, rfl⟩) (by omega) (by omega)
    · cases h
  · -- own
    rename_i e b k ht
    split at h
    case h_2 => cases h
    rename_i ty l k' hb
    have hx_ := br_none h
    clear h
    obtain ⟨hb1, h⟩ := hx_
    obtain ⟨hk, hs⟩ := and_spec hb1
    have hk := Nat.eq_of_beq_eq_true hk
    obtain ⟨ie, hie, hsz⟩ := sizeIs_spec hs
    have hx_ := boundO_some h
    clear h
    obtain ⟨i, h, hl⟩ := hx_
    have hx_ := boundO_some h
    clear h
    obtain ⟨j, h, hm⟩ := hx_
    have hx_ := br_none h
    clear h
    obtain ⟨hb2, h⟩ := hx_
    obtain ⟨h1, h2⟩ := and_spec hb2
    have h1 := Nat.le_of_ble_eq_true h1
    have h2 := Nat.le_of_ble_eq_true h2
    have core : ∀ (g : Gh) (w : World) (ux : Value) (ulo uhi umx : Option Value) (lim : Bool), HRel g H w → RelV g w (.own b k) ux → RelO g w lo ulo → RelO g w hi uhi → ((umx = none ∧ lim = false) ∨ (∃ q, umx = some (.int q (j : Int)) ∧ lim = true ∧ hi ≠ none)) →
        ∃ u, (Instr.sliceAt t ux ulo uhi umx).run P w = .ok u w ∧ RelV g w (.sref b i (j - i) k lim) u := by
      intro g w ux ulo uhi umx lim hr hx hlo hhi hmx
      have hG : g.G b = .arr ty k' l.length := by rw [hr.kd b (by rw [hb]; exact fun h => by cases h), hb]; rfl
      cases hx with
      | own _ _ _ hn0 hs0 ha =>
        obtain ⟨a, cap, rfl, hle, hor⟩ := (ha _ _ _ hG).2 hk
        have hm' : ∃ m, m ≤ cap ∧ j ≤ m ∧ ((umx = none ∧ m = cap) ∨ ∃ q z, umx = some (.int q z) ∧ 0 ≤ z ∧ z.toNat = m) ∧ (lim = true → m = j) := by
          rcases hmx with ⟨e1, e2⟩ | ⟨q, e1, e2, _⟩
          · exact ⟨cap, Nat.le_refl _, by omega, .inl ⟨e1, rfl⟩, fun h => by rw [e2] at h; cases h⟩
          · exact ⟨j, by omega, Nat.le_refl _, .inr ⟨q, j, e1, by omega, by omega⟩, fun _ => rfl⟩
        obtain ⟨m, hmc, hjm, hmx', hlim⟩ := hm'
        have hbd := run_bounds (P := P) (w := w) (isSlice := true) (len := l.length) (cap := cap) (l := i) (h := j) (m := m) (relO_bound hlo hl) (by
          rcases relO_bound hhi hm with ⟨a, b⟩ | ⟨k, i, a, b⟩
          · refine .inl ⟨a, ?_, b⟩
            rcases hmx with ⟨e1, _⟩ | ⟨q, e1, _, e3⟩
            · exact e1
            · exfalso
              rcases hm with ⟨e4, _⟩ | ⟨k2, z2, e4, _⟩
              · exact e3 e4
              · have := relO_int hhi e4; rw [a] at this; cases this
          · exact .inr ⟨k, i, a, b⟩) hmx' h1 (.inr hjm) hmc
        refine ⟨_, by simp only [Instr.sliceAt, Instr.slice, Sem.run_bind, run_underlying ht, Result.andThen_ok, hbd, run_sizeOf' hie, Sem.run_pure, hsz]; rfl, ?_⟩
        refine .sref _ _ _ _ _ _ hn0 ⟨_, _, rfl⟩ (fun t' k2 n' hG' => ?_)
        rw [hG] at hG'; cases hG'
        refine ⟨by omega, fun _ => ⟨by omega, _, _, rfl, by omega, fun h => by rw [hlim h], fun hne => ?_⟩⟩
        rw [if_neg (by omega)]
        rcases hor with ⟨_, _, rfl⟩ | ⟨r', h6, rfl⟩
        · omega
        · exact ⟨r', cap, h6, by rw [Option.map_some, add_mk, Nat.zero_add]⟩
    split at h
    · refine ⟨_, h, fun g w ux ulo uhi umx hr hx hlo hhi hmx => core g w ux ulo uhi umx false hr hx hlo hhi (.inl ⟨relO_none hmx rfl, rfl⟩)⟩
    · rename_i q m
      split at h
      case h_2 => cases h
      have hx_ := br_none h
      clear h
      obtain ⟨hmj, h⟩ := hx_
      have hmj : m = (j : Int) := by simpa using hmj
      subst hmj
      refine ⟨_, h, fun g w ux ulo uhi umx hr hx hlo hhi hmx => core g w ux ulo uhi umx true hr hx hlo hhi (.inr ⟨q, relO_int hmx rfl, rfl, fun h => by cases h⟩)⟩
    · cases h
  · -- an array
    rename_i len e b k ht
    split at h
    case h_2 => cases h
    rename_i ty l k' hb
    have hx_ := br_none h
    clear h
    obtain ⟨hb1, h⟩ := hx_
    obtain ⟨hk, hb1⟩ := and_spec hb1
    obtain ⟨hlen, hs⟩ := and_spec hb1
    have hk := Nat.eq_of_beq_eq_true hk
    have hlen := Nat.eq_of_beq_eq_true hlen
    obtain ⟨ie, hie, hsz⟩ := sizeIs_spec hs
    have hx_ := boundO_some h
    clear h
    obtain ⟨i, h, hl⟩ := hx_
    have hx_ := boundO_some h
    clear h
    obtain ⟨j, h, hm⟩ := hx_
    have hx_ := br_none h
    clear h
    obtain ⟨hb2, h⟩ := hx_
    obtain ⟨h1, h2⟩ := and_spec hb2
    have h1 := Nat.le_of_ble_eq_true h1
    have h2 := Nat.le_of_ble_eq_true h2
    split at h
    case h_2 => cases h
    refine ⟨_, h, fun g w ux ulo uhi umx hr hx hlo hhi hmx => ?_⟩
    have := relO_none hmx rfl; subst this
    have hG : g.G b = .arr ty k' l.length := by rw [hr.kd b (by rw [hb]; exact fun h => by cases h), hb]; rfl
    cases hx with
    | ptr _ _ _ _ _ hn0 hp' ha hbx hs' =>
      obtain ⟨r', c', h6, rfl⟩ := (ha _ _ _ hG).2 hk
      have hbd := run_bounds (P := P) (w := w) (isSlice := false) (len := len) (cap := len) (l := i) (h := j) (m := len) (mx := none) (relO_bound hlo hl) (by
        rcases relO_bound hhi hm with ⟨a, b⟩ | ⟨k, i, a, b⟩
        · exact .inl ⟨a, rfl, b⟩
        · exact .inr ⟨k, i, a, b⟩) (.inl ⟨rfl, rfl⟩) h1 (.inr h2) (Nat.le_refl _)
      refine ⟨_, by simp only [Instr.sliceAt, Instr.sureAddr, Sem.run_bind, run_underlying ht, Result.andThen_ok, hbd, run_sizeOf' hie, Sem.run_pure, hsz]; rfl, ?_⟩
      refine .sref _ _ _ _ _ _ hn0 ⟨_, _, rfl⟩ (fun t' k2 n' hG' => ?_)
      rw [hG] at hG'; cases hG'
      refine ⟨by omega, fun _ => ⟨by omega, _, _, rfl, by omega, (fun h => by cases h), fun hne => ?_⟩⟩
      rw [if_neg (by omega)]
      exact ⟨r', c', h6, by rw [add_mk]; simp⟩

theorem makeSliceO_sound {t : TypeId} {len cap : AV} {H : Hp} {nb n : Nat} {κ : KO R} {r : R} (h : makeSliceO P t len cap H nb n κ = some r) :
    ∃ v H', κ v H' n [] = some r ∧ ∀ (g : Gh) (w : World) (ul uc : Value), HRel g H w → g.G nb = .none → RelV g w len ul → RelV g w cap uc →
      ∃ u w', (Instr.makeSlice t ul uc).run P w = .ok u w' ∧ ∃ g', Went g H w (fun b => b = nb) v H' [] u w' g' := by
  unfold makeSliceO at h
  split at h <;> try (cases h; done)
  rename_i e l c hu
  split at h <;> try (cases h; done)
  rename_i ty z hty hz
  split at h <;> try (cases h; done)
  rename_i x hd
  have hx_ := br_none h
  clear h
  obtain ⟨hb, h⟩ := hx_
  obtain ⟨hok, hb⟩ := and_spec hb
  obtain ⟨h0, hb⟩ := and_spec hb
  obtain ⟨h1, h2⟩ := and_spec hb
  have h0 : 0 ≤ l := by simpa using h0
  have h1 : l ≤ c := by simpa using h1
  have h2 : c ≤ 4294967296 := by simpa using h2
  obtain ⟨i, zv, hi, hbt, hsz, hzv, hzs⟩ := rowOk_spec hok
  obtain ⟨i', zv', hi', hzv', rfl⟩ := zeroT_spec hz
  rw [hi] at hi'; cases hi'
  rw [hzv] at hzv'; cases hzv'
  refine ⟨_, _, h, fun g w ul uc hr hnb hl hc => ?_⟩
  cases hl; cases hc
  have hbytes : (i.bytes : Int) * c ≤ 281474976710656 := by
    have : (i.bytes : Int) * c ≤ 16384 * 4294967296 := Int.mul_le_mul (by omega) h2 (by omega) (by omega)
    omega
  have hrun := run_make (P := P) w t e i zv hu hi hzv .i64 .i64 l c h0 h1 hbytes (by omega)
  refine ⟨_, _, hrun, ?_⟩
  obtain ⟨v1, v2, e1, e2, e3⟩ := dec_sound ty hd (cells_const (g := g) (w := w) zv)
  have : v2 = [] := by have := e3.1; simpa using this
  subst this
  rw [List.append_nil] at e1
  subst e1
  have hml : (madeCells zv.cells (c.toNat * i.size)).toList.length = c.toNat * i.size := by simp [madeCells]
  obtain ⟨g', x1, x2, x3, x4, x5⟩ := newArr_went (w' := w.alloc (.cells (madeCells zv.cells (c.toNat * i.size)) e)) (cap := c.toNat) (t := ty) (l := List.replicate l.toNat x) (vs := (madeCells zv.cells (c.toNat * i.size)).toList) (e := e) hr hnb (by simp [alloc_heap]) (by simp; omega) (by rw [hml, hsz]; exact Nat.le_refl _) (fun k y hy => by
    have hk : k < l.toNat := by
      have := (List.getElem?_eq_some_iff.1 hy).1
      simpa using this
    have : y = x := by
      rw [List.getElem?_eq_getElem (by simpa using hk)] at hy
      simpa using hy.symm
    subst this
    refine ⟨_, e2, fun j v hj => ?_⟩
    have hjl : j < zv.cells.size := by
      have := (List.getElem?_eq_some_iff.1 hj).1
      simpa using this
    have hkk : k * ty.size + j < c.toNat * i.size := by
      have : (k + 1) * ty.size ≤ c.toNat * ty.size := Nat.mul_le_mul_right _ (by omega)
      rw [Nat.succ_mul] at this
      rw [hsz]; omega
    simp only [madeCells, Array.toList_map, Array.toList_range, List.getElem?_map, List.getElem?_range hkk, Option.map_some]
    have hmod : (k * ty.size + j) % zv.cells.size = j := by
      rw [hzs, hsz]
      rw [Nat.mul_comm, Nat.mul_add_mod]
      exact Nat.mod_eq_of_lt (by omega)
    rw [hmod]
    rw [Array.getElem?_toList, Array.getElem?_eq_getElem hjl] at hj
    rw [← hj, getElem!_pos zv.cells j hjl])
  refine ⟨g', x1, x2, ?_, x3⟩
  refine .own _ _ _ (by rw [x4]; exact fun h => by cases h) ⟨_, _, _, rfl⟩ (fun t' k' n' hG' => ?_)
  rw [x4] at hG'; cases hG'
  exact ⟨Nat.le_refl _, fun _ => ⟨_, _, by rw [List.length_replicate], by rw [List.length_replicate]; omega, .inr ⟨_, x5, rfl⟩⟩⟩
end Go.VI
