/- Literals, indices, slicing, lengths, conversions. -/
import Derived.Test.YtfifgcaielmbiaaVIh
import Derived.Laws.MakeOwn
import Derived.Laws.BytesString
import Derived.Great.BuildSlice
namespace Go.VI
set_option linter.unusedVariables false
set_option linter.unusedSimpArgs false
variable {R : Type} {P : Program}

theorem unO_sound {op : UnOp} {x : AV} {κ : AV → Option R} {r : R} (h : unO op x κ = some r) :
    ∃ v, κ v = some r ∧ ∀ (g : Gh) (w : World) (u : Value), RelV g w x u → ∃ u', (Op.unary op u).run P w = .ok u' w ∧ RelV g w v u' := by
  unfold unO at h
  split at h
  · refine ⟨_, h, fun g w u hu => ?_⟩
    cases hu; exact ⟨_, rfl, .bool ..⟩
  · refine ⟨_, h, fun g w u hu => ?_⟩
    cases hu; exact ⟨_, rfl, .int ..⟩
  · rename_i k n
    simp only [bitsV] at h
    refine ⟨_, h, fun g w u hu => ?_⟩
    cases hu
    refine ⟨_, ?_, .int ..⟩
    have : (if k.signed = true then (-1 : Int) else k.max) = br k.signed (-1) k.max := by cases k.signed <;> rfl
    simp only [Op.unary, Op.intBits, this, Sem.run_pure]
  · cases h

theorem sizeIs_spec {t : TypeId} {n : Nat} (h : sizeIs P t n = true) : ∃ i, P.info? t = some i ∧ i.size = n := by
  unfold sizeIs at h
  split at h
  · rename_i i hi; exact ⟨i, hi, (Nat.eq_of_beq_eq_true h).symm⟩
  · cases h
theorem and_spec {a b : Bool} (h : a.and b = true) : a = true ∧ b = true := by cases a <;> cases b <;> first | exact ⟨rfl, rfl⟩ | cases h
theorem inRange_spec {i : Int} {n : Nat} (h : inRange i n = true) : 0 ≤ i ∧ i < (n : Int) := by
  obtain ⟨h1, h2⟩ := and_spec h
  exact ⟨by simpa using h1, by simpa using h2⟩

theorem indexAddrO_sound {t : TypeId} {x ix : AV} {H : Hp} {n : Nat} {κ : KO R} {r : R} (h : indexAddrO P t x ix H n κ = some r) :
    ∃ v, κ v H n [] = some r ∧ ∀ (g : Gh) (w : World) (ux ui : Value), HRel g H w → RelV g w x ux → RelV g w ix ui → ∃ u, (Instr.indexAt t ux ui).run P w = .ok u w ∧ RelV g w v u := by
  unfold indexAddrO at h
  split at h
  case h_2 => cases h
  rename_i k i
  split at h
  case h_3 => cases h
  · rename_i e ht
    split at h
    case h_5 => cases h
    · -- vals
      rename_i ty l
      obtain ⟨hb, h⟩ := br_none h
      obtain ⟨hs, h0⟩ := and_spec hb
      have h0 : 0 ≤ i := by simpa using h0
      obtain ⟨ie, hie, hsz⟩ := sizeIs_spec hs
      obtain ⟨y, hy, h⟩ := Option.bind_eq_some_iff.1 h
      refine ⟨_, h, fun g w ux ui hr hx hi => ?_⟩
      cases hi
      cases hx with
      | vals _ _ _ ht' =>
        obtain ⟨a, cap, e', hle, hc⟩ := ht'
        cases e'
        obtain ⟨ad, rfl, hF, c, hc1, hc2⟩ := hc _ y hy
        have hlt : i < (l.length : Int) := by
          have := (List.getElem?_eq_some_iff.1 hy).1
          omega
        refine ⟨.pointer (some (ad.add (i.toNat * ie.size))), ?_, ?_⟩
        · simp [Instr.indexAt, asIntOf, run_underlying ht, h0, hlt, run_sizeOf' hie]
        · have henc := enc_sound (g := g) ty hc1
          refine .cptr _ _ (fun j => (c[j]?).getD Go.undef) (fun j c' hj => ?_) (fun j c' hj => ?_)
          · obtain ⟨v', hv', hrv⟩ := henc.get hj
            rw [add_block, Addr.add_add, hsz, hv']
            exact ⟨hF, hc2 j v' hv'⟩
          · obtain ⟨v', hv', hrv⟩ := henc.get hj
            rw [hv']; exact hrv
    · -- lits
      rename_i m sz cs
      obtain ⟨hb, h⟩ := br_none h
      obtain ⟨hs, hin⟩ := and_spec hb
      obtain ⟨h0, hlt⟩ := inRange_spec hin
      obtain ⟨ie, hie, hsz⟩ := sizeIs_spec hs
      refine ⟨_, h, fun g w ux ui hr hx hi => ?_⟩
      cases hi
      cases hx with
      | lits _ _ _ a cap f hle hz h1 h2 =>
        cases a with
        | none => obtain ⟨ad, h⟩ := hz (by omega); cases h
        | some ad =>
          refine ⟨.pointer (some (ad.add (i.toNat * ie.size))), ?_, ?_⟩
          · simp [Instr.indexAt, asIntOf, run_underlying ht, h0, hlt, run_sizeOf' hie]
          · refine .cptr _ _ (fun j => f (i.toNat * sz + j)) (fun j c' hj => ?_) (fun j c' hj => ?_)
            · rw [List.getElem?_take] at hj
              split at hj
              · rw [List.getElem?_drop] at hj
                obtain ⟨ad', e', hF, hcell⟩ := h1 _ _ hj
                cases e'
                rw [add_block, Addr.add_add, hsz]
                exact ⟨hF, hcell⟩
              · cases hj
            · rw [List.getElem?_take] at hj
              split at hj
              · rw [List.getElem?_drop] at hj
                exact h2 _ _ hj
              · cases hj
    · -- own
      rename_i b k2
      split at h
      case h_2 => cases h
      rename_i ty l k' hb
      obtain ⟨hb1, h⟩ := br_none h
      obtain ⟨hk, hs⟩ := and_spec hb1
      have hk := Nat.eq_of_beq_eq_true hk
      obtain ⟨ie, hie, hsz⟩ := sizeIs_spec hs
      obtain ⟨hin, h⟩ := br_none h
      obtain ⟨h0, hlt⟩ := inRange_spec hin
      refine ⟨_, h, fun g w ux ui hr hx hi => ?_⟩
      cases hi
      have hG : g.G b = .arr ty k' l.length := by rw [hr.kd b (by rw [hb]; exact fun h => by cases h), hb]; rfl
      cases hx with
      | own _ _ _ hn0 hs0 ha =>
        obtain ⟨a, cap, rfl, hle, hor⟩ := (ha _ _ _ hG).2 hk
        rcases hor with ⟨_, _, rfl⟩ | ⟨r', h6, rfl⟩
        · omega
        refine ⟨.pointer (some ((⟨r', 0, none⟩ : Addr).add (i.toNat * ie.size))), ?_, ?_⟩
        · simp [Instr.indexAt, asIntOf, run_underlying ht, h0, hlt, run_sizeOf' hie]
        · rw [add_mk, Nat.zero_add]
          refine .ptr _ _ _ _ _ hn0 ⟨_, rfl⟩ (fun t' k2' n' hG' => ?_) (fun hG' _ => ?_) (fun hG' _ => ?_)
          · rw [hG] at hG'; cases hG'
            exact ⟨by omega, fun _ => ⟨r', cap, h6, by rw [hsz]; rfl⟩⟩
          · rw [hG] at hG'; cases hG'
          · rw [hG] at hG'; cases hG'
    · -- sref
      rename_i b off len k2 lim
      split at h
      case h_2 => cases h
      rename_i ty l k' hb
      obtain ⟨hb1, h⟩ := br_none h
      obtain ⟨hk, hs⟩ := and_spec hb1
      have hk := Nat.eq_of_beq_eq_true hk
      obtain ⟨ie, hie, hsz⟩ := sizeIs_spec hs
      obtain ⟨hin, h⟩ := br_none h
      obtain ⟨h0, hlt⟩ := inRange_spec hin
      refine ⟨_, h, fun g w ux ui hr hx hi => ?_⟩
      cases hi
      have hG : g.G b = .arr ty k' l.length := by rw [hr.kd b (by rw [hb]; exact fun h => by cases h), hb]; rfl
      cases hx with
      | sref _ _ _ _ _ _ hn0 hs0 ha =>
        obtain ⟨hofl, a, cap, rfl, hle, _, hor⟩ := (ha _ _ _ hG).2 hk
        obtain ⟨r', c', h6, rfl⟩ := hor (by omega)
        refine ⟨.pointer (some ((⟨r', off * ty.size, none⟩ : Addr).add (i.toNat * ie.size))), ?_, ?_⟩
        · simp [Instr.indexAt, asIntOf, run_underlying ht, h0, hlt, run_sizeOf' hie]
        · rw [add_mk]
          refine .ptr _ _ _ _ _ hn0 ⟨_, rfl⟩ (fun t' k2' n' hG' => ?_) (fun hG' _ => ?_) (fun hG' _ => ?_)
          · rw [hG] at hG'; cases hG'
            exact ⟨by omega, fun _ => ⟨r', c', h6, by rw [hsz, Nat.add_mul]; rfl⟩⟩
          · rw [hG] at hG'; cases hG'
          · rw [hG] at hG'; cases hG'
  · rename_i len e ht
    split at h
    case h_3 => cases h
    · rename_i b i' o k2
      split at h
      case h_3 => cases h
      · rename_i ty l k' hb
        have h2 := br_none h
        clear h
        obtain ⟨hz, h⟩ := h2
        obtain ⟨z1, z2⟩ := and_spec hz
        have z1 := Nat.eq_of_beq_eq_true z1
        have z2 := Nat.eq_of_beq_eq_true z2
        subst z1 z2
        obtain ⟨hb1, h⟩ := br_none h
        obtain ⟨hk, hs⟩ := and_spec hb1
        have hk := Nat.eq_of_beq_eq_true hk
        obtain ⟨ie, hie, hsz⟩ := sizeIs_spec hs
        obtain ⟨hin, h⟩ := br_none h
        obtain ⟨h0, hlt⟩ := inRange_spec hin
        refine ⟨_, h, fun g w ux ui hr hx hi => ?_⟩
        cases hi
        have hG : g.G b = .arr ty k' l.length := by rw [hr.kd b (by rw [hb]; exact fun h => by cases h), hb]; rfl
        cases hx with
        | ptr _ _ _ _ _ hn0 hp' ha hbx hs' =>
          obtain ⟨r', c', h6, rfl⟩ := (ha _ _ _ hG).2 hk
          refine ⟨.pointer (some ((⟨r', 0 * ty.size + 0, none⟩ : Addr).add (i.toNat * ie.size))), ?_, ?_⟩
          · simp [Instr.indexAt, Instr.sureAddr, asIntOf, run_underlying ht, h0, hlt, run_sizeOf' hie]
          · rw [add_mk]
            refine .ptr _ _ _ _ _ hn0 ⟨_, rfl⟩ (fun t' k2' n' hG' => ?_) (fun hG' _ => ?_) (fun hG' _ => ?_)
            · rw [hG] at hG'; cases hG'
              exact ⟨by omega, fun _ => ⟨r', c', h6, by rw [hsz]; simp⟩⟩
            · rw [hG] at hG'; cases hG'
            · rw [hG] at hG'; cases hG'
      · rename_i cs hb
        have h2 := br_none h
        clear h
        obtain ⟨hz, h⟩ := h2
        obtain ⟨z1, hin⟩ := and_spec hz
        have z1 := Nat.eq_of_beq_eq_true z1
        subst z1
        obtain ⟨h0, hlt⟩ := inRange_spec hin
        split at h
        case h_2 => cases h
        rename_i ie hie
        refine ⟨_, h, fun g w ux ui hr hx hi => ?_⟩
        cases hi
        have hG : g.G b = .box := by rw [hr.kd b (by rw [hb]; exact fun h => by cases h), hb]; rfl
        cases hx with
        | ptr _ _ _ _ _ hn0 hp' ha hbx hs' =>
          obtain ⟨r', c', h6, rfl⟩ := hbx hG rfl
          refine ⟨.pointer (some ((⟨r', o, none⟩ : Addr).add (i.toNat * ie.size))), ?_, ?_⟩
          · simp [Instr.indexAt, Instr.sureAddr, asIntOf, run_underlying ht, h0, hlt, run_sizeOf' hie]
          · rw [add_mk]
            refine .ptr _ _ _ _ _ hn0 ⟨_, rfl⟩ (fun t' k2' n' hG' => ?_) (fun hG' _ => ?_) (fun hG' _ => ?_)
            · rw [hG] at hG'; cases hG'
            · exact ⟨r', c', h6, rfl⟩
            · rw [hG] at hG'; cases hG'
    · rename_i cs
      obtain ⟨hin, h⟩ := br_none h
      obtain ⟨h0, hlt⟩ := inRange_spec hin
      split at h
      case h_2 => cases h
      rename_i ie hie
      refine ⟨_, h, fun g w ux ui hr hx hi => ?_⟩
      cases hi
      cases hx with
      | cptr _ ad fv h1 h2 =>
        refine ⟨.pointer (some (ad.add (i.toNat * ie.size))), ?_, .cptr _ _ (fun j => fv (i.toNat * ie.size + j)) (fun j c hj => ?_) (fun j c hj => ?_)⟩
        · simp [Instr.indexAt, Instr.sureAddr, asIntOf, run_underlying ht, h0, hlt, run_sizeOf' hie]
        · rw [List.getElem?_drop] at hj
          rw [add_block, Addr.add_add]
          exact h1 _ c hj
        · rw [List.getElem?_drop] at hj
          exact h2 _ c hj

theorem lenO_sound {t : TypeId} {x : AV} {H : Hp} {m : Int} (h : lenO P t x H = some m) :
    ∀ (g : Gh) (w : World) (u : Value) (ts : Array TypeId) (ty : TypeId), ts[0]? = some t → HRel g H w → RelV g w x u → (Builtin.len_ ts ty #[u]).run P w = .ok (.int .i64 m) w := by
  intro g w u ts ty hts hr hu
  unfold lenO at h
  split at h <;> try (cases h; done)
  · rename_i ht; cases h; cases hu; simp [Builtin.len_, hts, run_underlying ht, goInt]
  · rename_i n e ht; cases h; cases u <;> simp [Builtin.len_, hts, run_underlying ht, goInt]
  · rename_i e ty' l ht; cases h
    cases hu with
    | vals _ _ _ h' => obtain ⟨a, cap, e', _⟩ := h'; cases e'; simp [Builtin.len_, hts, run_underlying ht, goInt]
  · rename_i e ht; cases h; cases hu; simp [Builtin.len_, hts, run_underlying ht, goInt]
  · rename_i e n sz cs ht; cases h; cases hu; simp [Builtin.len_, hts, run_underlying ht, goInt]
  · rename_i e b k ht
    split at h
    case h_2 => cases h
    rename_i ty' l k' hb
    obtain ⟨hk, h⟩ := br_none h
    have hk := Nat.eq_of_beq_eq_true hk
    cases h
    have hG : g.G b = .arr ty' k' l.length := by rw [hr.kd b (by rw [hb]; exact fun h => by cases h), hb]; rfl
    cases hu with
    | own _ _ _ hn0 hs0 ha =>
      obtain ⟨a, cap, rfl, _⟩ := (ha _ _ _ hG).2 hk
      simp [Builtin.len_, hts, run_underlying ht, goInt]
  · rename_i e b off len k lim ht; cases h
    cases hu with
    | sref _ _ _ _ _ _ hn0 hs0 ha => obtain ⟨a, cap, rfl⟩ := hs0; simp [Builtin.len_, hts, run_underlying ht, goInt]
  · rename_i k e ht; cases h; cases hu; simp [Builtin.len_, hts, run_underlying ht, goInt]
  · rename_i kk e b ht
    split at h
    case h_2 => cases h
    rename_i kt vt es k' hb
    cases h
    have hG : g.G b = .map kt vt k' := by rw [hr.kd b (by rw [hb]; exact fun h => by cases h), hb]; rfl
    have hB := hr.blk b
    rw [hb] at hB
    obtain ⟨r', c', ms, clock, h1, h2, h3, _⟩ := hB
    cases hu with
    | map _ _ hn0 hp ha =>
      obtain ⟨r2, c2, h4, rfl⟩ := ha _ _ _ hG
      rw [h1] at h4; cases h4
      simp [Builtin.len_, hts, run_underlying ht, getObj, Sem.run, h2, h3, goInt]
end Go.VI
