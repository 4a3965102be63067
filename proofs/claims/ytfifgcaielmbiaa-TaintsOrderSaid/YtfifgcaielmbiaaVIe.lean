/- Operations on memory: load, store, new blocks. -/
import Derived.Test.YtfifgcaielmbiaaVId
namespace Go.VI
set_option linter.unusedVariables false
set_option linter.unusedSimpArgs false
variable {R : Type} {P : Program}

theorem decs_sound {g : Gh} {w : World} {t : Ty} : ∀ {n : Nat} {cs : List AV} {l : List t.den} {vs : List Value}, decs t n cs = some l → RelC g w cs vs →
    l.length = n ∧ vs.length = n * t.size ∧ ∀ i x, l[i]? = some x → ∃ c, RelT g.F w t x c ∧ ∀ j v, c[j]? = some v → vs[i * t.size + j]? = some v
  | 0, cs, l, vs, h, hc => by
    cases cs with
    | nil =>
      simp only [decs] at h
      cases h
      have := hc.1
      exact ⟨rfl, by simpa using this, fun i x hx => by simp at hx⟩
    | cons c cs => simp [decs] at h
  | n + 1, cs, l, vs, h, hc => by
    simp only [decs] at h
    split at h
    · rename_i x r hd
      split at h
      · rename_i l' hl'
        cases h
        obtain ⟨v1, v2, rfl, ht, hr⟩ := dec_sound t hd hc
        obtain ⟨a1, a2, a3⟩ := decs_sound hl' hr
        have e1 := ht.len
        refine ⟨by simp [a1], by simp [e1, a2, Nat.succ_mul]; omega, fun i y hy => ?_⟩
        cases i with
        | zero =>
          simp at hy; subst hy
          refine ⟨v1, ht, fun j v hj => ?_⟩
          have : j < v1.length := (List.getElem?_eq_some_iff.1 hj).1
          simp only [Nat.zero_mul, Nat.zero_add]
          rw [List.getElem?_append_left this]; exact hj
        | succ i =>
          simp at hy
          obtain ⟨c, hc1, hc2⟩ := a3 i y hy
          refine ⟨c, hc1, fun j v hj => ?_⟩
          rw [List.getElem?_append_right (by rw [e1, Nat.succ_mul]; omega), e1]
          have := hc2 j v hj
          rw [← this]; congr 1; rw [Nat.succ_mul]; omega
      · cases h
    · cases h

theorem add_mk (r p o : Nat) : (⟨r, p, none⟩ : Addr).add o = ⟨r, p + o, none⟩ := by
  unfold Addr.add; split
  · rename_i h; subst h; rfl
  · rfl

theorem run_isAgg' {t : TypeId} {b : Bool} {w : World} (h : kindT P t = some b) : (isAgg t).run P w = .ok b w := by
  unfold kindT at h
  split at h <;> first | cases h | skip
  · rename_i fs hu; simp [isAgg, run_underlying hu]
  · rename_i n e hu; simp [isAgg, run_underlying hu]
  · rename_i d h1 h2 hu
    simp only [isAgg, Sem.run_bind, run_underlying hu, Result.andThen_ok]
    cases d <;> first | rfl | (exact absurd rfl (h1 _)) | (exact absurd rfl (h2 _ _)) | simp_all
theorem run_sizeOf' {t : TypeId} {i : TypeInfo} {w : World} (h : P.info? t = some i) : (sizeOf t).run P w = .ok i.size w := by
  simp [sizeOf, typeInfo, h]

theorem partV_load {g : Gh} {w : World} {t : TypeId} {cs : List AV} {o : Nat} {v : AV} {ad : Addr} (hp : partV P t cs o = some v)
    (hc : ∀ j c, cs[j]? = some c → ∃ u, w.cell? (ad.add j) = some u ∧ RelV g w c u) : ∃ u, (loadVar t (ad.add o)).run P w = .ok u w ∧ RelV g w v u := by
  unfold partV at hp
  split at hp
  · rename_i hk
    split at hp
    · rename_i i hi
      obtain ⟨hle, hp⟩ := br_none hp
      cases hp
      have hle := Nat.le_of_ble_eq_true hle
      let f : Nat → Value := fun j => (w.cell? ((ad.add o).add j)).getD Go.undef
      have hf : ∀ j, j < i.size → w.cell? ((ad.add o).add j) = some (f j) ∧ ∀ c, cs[o + j]? = some c → RelV g w c (f j) := fun j hj => by
        obtain ⟨u, hu, hr⟩ := hc (o + j) cs[o + j] (List.getElem?_eq_getElem (by omega))
        have e : (ad.add o).add j = ad.add (o + j) := Addr.add_add ad o j
        refine ⟨by show _ = some ((w.cell? ((ad.add o).add j)).getD _); rw [e, hu]; rfl, fun c hcc => ?_⟩
        show RelV g w c ((w.cell? ((ad.add o).add j)).getD _)
        rw [e, hu]
        rw [List.getElem?_eq_getElem (by omega)] at hcc
        cases hcc; exact hr
      refine ⟨.agg ((List.range i.size).map f).toArray, ?_, ?_⟩
      · simp only [loadVar, Sem.run_bind, run_isAgg' hk, Result.andThen_ok, if_true, run_sizeOf' hi, run_loadCells w (ad.add o) i.size f (fun j hj => (hf j hj).1), Sem.run_pure]
      · refine RelV.ofAgg ⟨by simp; omega, fun j c v h1 h2 => ?_⟩
        rw [List.getElem?_take] at h1
        split at h1
        · rename_i hj
          rw [List.getElem?_drop] at h1
          rw [List.getElem?_map, List.getElem?_range hj] at h2
          cases h2
          exact (hf j hj).2 c h1
        · cases h1
    · cases hp
  · rename_i hk
    obtain ⟨u, hu, hr⟩ := hc o v hp
    refine ⟨u, ?_, hr⟩
    simp only [loadVar, Sem.run_bind, run_isAgg' hk, Result.andThen_ok, Bool.false_eq_true, if_false, run_load, hu]
  · cases hp

/-- What a whole row of cells in a block reads as. -/
theorem cell_at {w : World} {r : Nat} {vs : Array Value} {e : TypeId} {fz : Nat × Nat} (h : w.heap[r]? = some (.cells vs e fz)) (p : Nat) : w.cell? ⟨r, p, none⟩ = vs[p]? := by
  simp [World.cell?, h]

theorem loadO_sound {t : TypeId} {a : AV} {H : Hp} {n : Nat} {κ : KO R} {r : R} (h : loadO P t a H n κ = some r) :
    ∃ v, κ v H n [] = some r ∧ ∀ (g : Gh) (w : World) (u : Value), HRel g H w → RelV g w a u → ∃ u', (Instr.loadAt t u).run P w = .ok u' w ∧ RelV g w v u' := by
  unfold loadO at h
  split at h
  · -- cptr
    split at h
    · rename_i cs v hp
      refine ⟨v, h, fun g w u hr hu => ?_⟩
      cases hu with
      | cptr _ ad f h1 h2 =>
        obtain ⟨u', e1, e2⟩ := partV_load (ad := ad) hp (fun j c hj => ⟨f j, (h1 j c hj).2, h2 j c hj⟩)
        refine ⟨u', ?_, e2⟩
        rw [Addr.add_zero'] at e1
        simp [Instr.loadAt, Instr.sureAddr, e1]
    · cases h
  · rename_i b i o k
    split at h
    · -- box
      rename_i cs hb
      obtain ⟨hi, h⟩ := br_none h
      have hi := Nat.eq_of_beq_eq_true hi
      split at h
      · rename_i v hp
        refine ⟨v, h, fun g w u hr hu => ?_⟩
        have hG : g.G b = .box := by rw [hr.kd b (by rw [hb]; exact fun h => by cases h), hb]; rfl
        have hB := hr.blk b
        rw [hb] at hB
        obtain ⟨r', c', vs, e, h1, h2, h3⟩ := hB
        cases hu with
        | ptr _ _ _ _ _ hn hp' ha hbx hs =>
          obtain ⟨r2, c2, e1, rfl⟩ := hbx hG hi
          rw [h1] at e1; cases e1
          obtain ⟨u', e1, e2⟩ := partV_load (ad := ⟨r', 0, none⟩) hp (fun j c hj => by
            obtain ⟨v', hv', hrv⟩ := h3.get hj
            rw [add_mk, cell_at h2, Nat.zero_add]
            rw [Array.getElem?_toList] at hv'
            exact ⟨v', hv', hrv⟩)
          rw [add_mk, Nat.zero_add] at e1
          exact ⟨u', by simp [Instr.loadAt, Instr.sureAddr, e1], e2⟩
      · cases h
    · -- arr
      rename_i ty l k' hb
      obtain ⟨hk, h⟩ := br_none h
      have hk := Nat.eq_of_beq_eq_true hk
      obtain ⟨x, hx, h⟩ := Option.bind_eq_some_iff.1 h
      split at h
      · rename_i v hp
        refine ⟨v, h, fun g w u hr hu => ?_⟩
        have hG : g.G b = .arr ty k' l.length := by rw [hr.kd b (by rw [hb]; exact fun h => by cases h), hb]; rfl
        have hB := hr.blk b
        rw [hb] at hB
        rcases hB with ⟨_, rfl⟩ | ⟨r', cap, vs, e, h1, h2, h3, h4, h5⟩
        · simp at hx
        cases hu with
        | ptr _ _ _ _ _ hn hp' ha hbx hs =>
          obtain ⟨r2, c2, e1, rfl⟩ := (ha _ _ _ hG).2 hk
          rw [h1] at e1; cases e1
          obtain ⟨c, hc1, hc2⟩ := h5 i x hx
          have hcl := hc1.len
          have hec := enc_sound (g := g) ty hc1
          obtain ⟨u', e1, e2⟩ := partV_load (ad := ⟨r', i * ty.size, none⟩) hp (fun j c' hj => by
            obtain ⟨v', hv', hrv⟩ := hec.get hj
            rw [add_mk, cell_at h2]
            exact ⟨v', hc2 j v' hv', hrv⟩)
          rw [add_mk] at e1
          exact ⟨u', by simp [Instr.loadAt, Instr.sureAddr, e1], e2⟩
      · cases h
    · cases h
  · cases h

theorem splice_get {α : Type} (a b : List α) {q : Nat} (h : q + b.length ≤ a.length) (n : Nat) :
    (a.take q ++ b ++ a.drop (q + b.length))[n]? = if n < q then a[n]? else if n < q + b.length then b[n - q]? else a[n]? := by
  rw [List.append_assoc]
  have h1 : (a.take q).length = q := by simp; omega
  by_cases c1 : n < q
  · rw [if_pos c1, List.getElem?_append_left (by omega), List.getElem?_take, if_pos c1]
  · rw [if_neg c1, List.getElem?_append_right (by omega), h1]
    by_cases c2 : n < q + b.length
    · rw [if_pos c2, List.getElem?_append_left (by omega)]
    · rw [if_neg c2, List.getElem?_append_right (by omega), List.getElem?_drop]
      congr 1; omega

/-- A row's elements behind a store into element i. -/
theorem chunks_set {F : Nat → Prop} {w : World} {t : Ty} {l : List t.den} {vs uc : List Value} {i o : Nat} {y : t.den} {cap : Nat}
    (hl : l.length ≤ cap) (hcap : cap * t.size ≤ vs.length) (h : ∀ k x, l[k]? = some x → ∃ c, RelT F w t x c ∧ ∀ j v, c[j]? = some v → vs[k * t.size + j]? = some v)
    (hi : i < l.length) (ho : o + uc.length ≤ t.size)
    (hy : ∀ c : List Value, c.length = t.size → (∀ j v, c[j]? = some v → vs[i * t.size + j]? = some v) → RelT F w t y (c.take o ++ uc ++ c.drop (o + uc.length))) :
    ∀ k x, (l.set i y)[k]? = some x → ∃ c, RelT F w t x c ∧ ∀ j v, c[j]? = some v → (vs.take (i * t.size + o) ++ uc ++ vs.drop (i * t.size + o + uc.length))[k * t.size + j]? = some v := by
  intro k x hk
  have hin : i * t.size + t.size ≤ vs.length := by
    have : (i + 1) * t.size ≤ cap * t.size := Nat.mul_le_mul_right _ (by omega)
    rw [Nat.succ_mul] at this; omega
  by_cases e : k = i
  · subst e
    rw [List.getElem?_set_self hi] at hk
    cases hk
    obtain ⟨c, hc1, hc2⟩ := h k l[k] (List.getElem?_eq_getElem hi)
    have hcl := hc1.len
    refine ⟨_, hy c hcl hc2, fun j v hj => ?_⟩
    rw [splice_get c uc (by omega)] at hj
    rw [splice_get vs uc (by omega)]
    by_cases c1 : j < o
    · rw [if_pos c1] at hj; rw [if_pos (by omega)]; exact hc2 j v hj
    · rw [if_neg c1] at hj; rw [if_neg (by omega)]
      by_cases c2 : j < o + uc.length
      · rw [if_pos c2] at hj; rw [if_pos (by omega), ← hj]; congr 1; omega
      · rw [if_neg c2] at hj; rw [if_neg (by omega)]; exact hc2 j v hj
  · rw [List.getElem?_set_ne (Ne.symm e)] at hk
    obtain ⟨c, hc1, hc2⟩ := h k x hk
    have hcl := hc1.len
    refine ⟨c, hc1, fun j v hj => ?_⟩
    have hj' : j < c.length := (List.getElem?_eq_some_iff.1 hj).1
    rw [splice_get vs uc (by omega)]
    rcases Nat.lt_or_gt_of_ne e with e | e
    · have : (k + 1) * t.size ≤ i * t.size := Nat.mul_le_mul_right _ e
      rw [Nat.succ_mul] at this
      rw [if_pos (by omega)]; exact hc2 j v hj
    · have : (i + 1) * t.size ≤ k * t.size := Nat.mul_le_mul_right _ e
      rw [Nat.succ_mul] at this
      rw [if_neg (by omega), if_neg (by omega)]; exact hc2 j v hj

theorem all_one {g : Gh} {w : World} {cs : List AV} {vs : List Value} (h : RelC g w cs vs) (ho : cs.all oneCell = true) : ∀ v ∈ vs, v.oneCell' = true := by
  intro v hv
  obtain ⟨j, hj⟩ := List.getElem?_of_mem hv
  have hjl : j < cs.length := by rw [← h.1]; exact (List.getElem?_eq_some_iff.1 hj).1
  exact oneCell_value (h.2 j _ v (List.getElem?_eq_getElem hjl) hj) (List.all_eq_true.1 ho _ (List.getElem_mem hjl))
theorem all_oneT {F : Nat → Prop} {w : World} : ∀ {t : Ty} {x : t.den} {vs : List Value}, RelT F w t x vs → ∀ v ∈ vs, v.oneCell' = true
  | .int _, _, _, h, v, hv => by rw [show _ = _ from h] at hv; cases List.mem_singleton.1 hv; rfl
  | .bool, _, _, h, v, hv => by rw [show _ = _ from h] at hv; cases List.mem_singleton.1 hv; rfl
  | .str, _, _, h, v, hv => by rw [show _ = _ from h] at hv; cases List.mem_singleton.1 hv; rfl
  | .slice _, _, _, h, v, hv => by
    obtain ⟨a, cap, rfl, _⟩ := h
    cases List.mem_singleton.1 hv; rfl
  | .pair a b, _, _, h, v, hv => by
    obtain ⟨c, d, rfl, h1, h2⟩ := h
    rcases List.mem_append.1 hv with hv | hv
    · exact all_oneT h1 v hv
    · exact all_oneT h2 v hv
  | .agg t, x, cs, h, v, hv => all_oneT (t := t) h v hv
  | .nil, _, _, h, v, hv => by rw [show _ = _ from h] at hv; cases hv

theorem run_storeVar' {t : TypeId} {i : TypeInfo} {w : World} {r p : Nat} {vs : Array Value} {e : TypeId} {u : Value} (hi : P.info? t = some i) (hsz : u.cells.size = i.size)
    (hh : w.heap[r]? = some (.cells vs e (0, 0))) (hp : p + u.cells.size ≤ vs.size) (h1 : ∀ v ∈ u.cells.toList, v.oneCell' = true) :
    (storeVar t ⟨r, p, none⟩ u).run P w = .ok () (w.setRow r (vs.toList.take p ++ u.cells.toList ++ vs.toList.drop (p + u.cells.toList.length)).toArray) := by
  have := run_storeCells_at (P := P) r p e u.cells.toList 0 vs w hh (by simpa using hp) h1
  simp only [storeVar, Sem.run_bind, run_sizeOf' hi, Result.andThen_ok, hsz, ne_eq, not_true_eq_false, if_false, this, Nat.add_zero, pure_bind]

theorem good_of_one : ∀ {v : AV}, (cellsOf v).all oneCell = true → good v = true
  | .undef, h => by cases h
  | .tup _, h => by cases h
  | .int .., _ | .bool .., _ | .str .., _ | .vals .., _ | .nils, _ | .lits .., _ | .own .., _ | .sref .., _ | .ptr .., _ | .cptr .., _ | .nilp, _ | .map .., _ | .nilmap, _ | .stamp .., _ | .fn .., _ | .nilfn, _ | .iface .., _ | .nili, _ | .agg .., _ => rfl

/-- What a store comes to. -/
theorem storeO_sound {t : TypeId} {a v : AV} {H : Hp} {n : Nat} {κ : KO R} {r : R} (h : storeO P t a v H n κ = some r) :
    ∃ H' D, κ .undef H' n D = some r ∧ ∀ (g : Gh) (w : World) (ua uv : Value), HRel g H w → RelV g w a ua → RelV g w v uv → ∃ w', (Instr.storeAt t ua uv).run P w = .ok () w' ∧ ∃ g', Went g H w (fun _ => False) .undef H' D Go.undef w' g' := by
  unfold storeO at h
  obtain ⟨hsz, h⟩ := br_none h
  unfold sizeIs at hsz
  split at hsz
  case h_2 => cases hsz
  rename_i ti hi
  have hsz := Nat.eq_of_beq_eq_true hsz
  cases a with
  | ptr b i o k => ?_
  | _ => cases h
  simp only at h
  split at h
  · -- box
    rename_i cs hb
    obtain ⟨hc, h⟩ := br_none h
    have hc : ((Nat.beq i 0) && ((Nat.ble (o + (cellsOf v).length) cs.length) && ((cellsOf v).all oneCell))) = true := hc
    rw [Bool.and_eq_true, Bool.and_eq_true] at hc
    obtain ⟨c1, c2, c3⟩ := hc
    have c1 := Nat.eq_of_beq_eq_true c1
    have c2 := Nat.le_of_ble_eq_true c2
    refine ⟨_, _, h, fun g w ua uv hr ha hv => ?_⟩
    have hs : H b ≠ .gone := by rw [hb]; exact fun h => by cases h
    have hG : g.G b = .box := by rw [hr.kd b (fun e => hs e), hb]; rfl
    have hB := hr.blk b
    rw [hb] at hB
    obtain ⟨r', c', vs, e, h1, h2, h3⟩ := hB
    have hvc := hv.cells (good_of_one c3)
    have hl := hvc.1
    have hl3 := h3.1
    simp only [Array.length_toList] at hl hl3
    cases ha with
    | ptr _ _ _ _ _ hn hp' ha hbx hs' =>
      obtain ⟨r2, c2', e1, rfl⟩ := hbx hG c1
      rw [h1] at e1; cases e1
      have hrun := run_storeVar' (P := P) hi (by omega) h2 (p := o) (u := uv) (by omega) (all_one hvc c3)
      refine ⟨_, by simp only [Instr.storeAt, Instr.sureAddr, Sem.run_bind, Sem.run_pure, Result.andThen_ok, hrun]; rfl, ?_⟩
      obtain ⟨x1, x2, x3⟩ := HRel.write (w' := w.setRow r' (vs.toList.take o ++ uv.cells.toList ++ vs.toList.drop (o + uv.cells.toList.length)).toArray) (blk := .box (splice cs o (cellsOf v))) hr hs h1 (fun h => by cases h) (setRow_size _ _ _) (fun r'' hne => setRow_other _ _ _ _ hne)
        (.inl ⟨hG, rfl⟩) (fun he => ⟨r', c', _, e, h1, setRow_heap _ _ _ _ _ _ h2, by
          have := (h3.splice hvc o).step he hr
          rw [List.toList_toArray]; exact this⟩)
      exact ⟨_, x1, x2, .undef _, fun b h h' => (x3 b h h').elim⟩
  · -- arr
    rename_i ty l k' hb
    obtain ⟨hk, h⟩ := br_none h
    have hk := Nat.eq_of_beq_eq_true hk
    obtain ⟨x, hx, h⟩ := Option.bind_eq_some_iff.1 h
    obtain ⟨ho, h⟩ := br_none h
    have ho : ((good v) && (Nat.ble (o + (cellsOf v).length) ty.size)) = true := ho
    rw [Bool.and_eq_true] at ho
    obtain ⟨hgood, ho⟩ := ho
    have ho := Nat.le_of_ble_eq_true ho
    split at h
    case h_2 => cases h
    rename_i y hd
    refine ⟨_, _, h, fun g w ua uv hr ha hv => ?_⟩
    have hs : H b ≠ .gone := by rw [hb]; exact fun h => by cases h
    have hG : g.G b = .arr ty k' l.length := by rw [hr.kd b (fun e => hs e), hb]; rfl
    have hB := hr.blk b
    rw [hb] at hB
    rcases hB with ⟨_, rfl⟩ | ⟨r', cap, vs, e, h1, h2, h3, h4, h5⟩
    · simp at hx
    have hil : i < l.length := (List.getElem?_eq_some_iff.1 hx).1
    obtain ⟨c, hc1, hc2⟩ := h5 i x hx
    have hcl := hc1.len
    have henc := enc_sound (g := g) ty hc1
    have hvc := hv.cells hgood
    have hl := hvc.1
    have hin : i * ty.size + ty.size ≤ vs.size := by
      have : (i + 1) * ty.size ≤ cap * ty.size := Nat.mul_le_mul_right _ (by omega)
      rw [Nat.succ_mul] at this; omega
    cases ha with
    | ptr _ _ _ _ _ hn hp' ha hbx hs' =>
      obtain ⟨r2, c2', e1, rfl⟩ := (ha _ _ _ hG).2 hk
      rw [h1] at e1; cases e1
      have hnew : ∀ c : List Value, c.length = ty.size → (∀ j v, c[j]? = some v → vs.toList[i * ty.size + j]? = some v) → RelT g.F w ty y (c.take o ++ uv.cells.toList ++ c.drop (o + uv.cells.toList.length)) := fun c' hc'l hc' => by
        have : c' = c := by
          apply List.ext_getElem?
          intro j
          by_cases hj : j < ty.size
          · have a1 := hc' j _ (List.getElem?_eq_getElem (by omega))
            have a2 := hc2 j _ (List.getElem?_eq_getElem (by omega))
            rw [Array.getElem?_toList, a2] at a1
            rw [List.getElem?_eq_getElem (by omega), List.getElem?_eq_getElem (by omega)]
            exact a1.symm
          · rw [List.getElem?_eq_none (by omega), List.getElem?_eq_none (by omega)]
        subst this
        obtain ⟨v1, v2, e1, e2, e3⟩ := dec_sound ty hd (henc.splice hvc o)
        have : v2 = [] := by have := e3.1; simpa using this
        subst this
        rw [e1, List.append_nil]; exact e2
      have hone : ∀ v ∈ uv.cells.toList, v.oneCell' = true := fun v' hv' => by
        have := all_oneT (hnew c hcl (fun j v hj => by rw [Array.getElem?_toList]; exact hc2 j v hj)) v'
        exact this (by simp only [List.mem_append]; exact .inl (.inr hv'))
      have hrun := run_storeVar' (P := P) hi (by simp only [Array.length_toList] at hl; omega) h2 (p := i * ty.size + o) (u := uv) (by simp only [Array.length_toList] at hl; omega) hone
      refine ⟨_, by simp only [Instr.storeAt, Instr.sureAddr, Sem.run_bind, Sem.run_pure, Result.andThen_ok, hrun]; rfl, ?_⟩
      have hch := chunks_set (F := g.F) (w := w) (t := ty) (l := l) (vs := vs.toList) (uc := uv.cells.toList) (i := i) (o := o) (y := y) (cap := cap) h3 (by simpa using h4)
        (fun k x hx => by
          obtain ⟨c, a1, a2⟩ := h5 k x hx
          exact ⟨c, a1, fun j v hj => by rw [Array.getElem?_toList]; exact a2 j v hj⟩) hil (by omega) hnew
      obtain ⟨x1, x2, x3⟩ := HRel.write (w' := w.setRow r' (vs.toList.take (i * ty.size + o) ++ uv.cells.toList ++ vs.toList.drop (i * ty.size + o + uv.cells.toList.length)).toArray) (blk := .arr ty (l.set i y) k') hr hs h1 (fun h => by cases h) (setRow_size _ _ _) (fun r'' hne => setRow_other _ _ _ _ hne)
        (.inr (.inr (.inl ⟨ty, k', l.length, hG, by simp [kindOf]⟩))) (fun he => .inr ⟨r', cap, _, e, h1, setRow_heap _ _ _ _ _ _ h2, by simpa using h3, by simp only [List.size_toArray, List.length_append, List.length_take, List.length_drop, Array.length_toList] at hl ⊢; omega, fun k x hx => by
          obtain ⟨c, a1, a2⟩ := hch k x hx
          exact ⟨c, a1.mono he.mono (he.keepF hr), fun j v hj => by
            rw [List.getElem?_toArray]; exact a2 j v hj⟩⟩)
      exact ⟨_, x1, x2, .undef _, fun b h h' => (x3 b h h').elim⟩
  · cases h
end Go.VI
