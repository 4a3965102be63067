/- Literals, slicing, conversions, copies. -/
import Derived.Test.YtfifgcaielmbiaaVIi
namespace Go.VI
set_option linter.unusedVariables false
set_option linter.unusedSimpArgs false
variable {R : Type} {P : Program}

theorem fold_set : ∀ (l : List Value) (k off : Nat) (cs : Array Value), off + k + l.length ≤ cs.size →
    ((l.zipIdx k).foldl (fun (cs : Array Value) (x : Value × Nat) => cs.setIfInBounds (off + x.2) x.1) cs).toList = cs.toList.take (off + k) ++ l ++ cs.toList.drop (off + k + l.length)
  | [], k, off, cs, h => by simp
  | v :: l, k, off, cs, h => by
    simp only [List.zipIdx_cons, List.foldl_cons]
    simp only [List.length_cons] at h
    rw [fold_set l (k + 1) off _ (by simp; omega)]
    have e := list_seg_step cs.toList (off + k) v l (by simp; omega)
    simpa [Array.toList_setIfInBounds, Nat.add_assoc, Nat.add_comm 1 l.length] using e

/-- Parts of a literal, one by one. -/
inductive RelPs (g : Gh) (w : World) : List (Nat × AV) → List (Nat × Value) → Prop
  | nil : RelPs g w [] []
  | cons {i : Nat} {v : AV} {u : Value} {r : List (Nat × AV)} {s : List (Nat × Value)} : RelV g w v u → RelPs g w r s → RelPs g w ((i, v) :: r) ((i, u) :: s)
theorem alloc_heap (w : World) (o : Obj) : (w.alloc o).heap = w.heap.push o := rfl

theorem fillV_sound {g : Gh} {w : World} {place : Nat → Option (Nat × Nat)} : ∀ {ps : List (Nat × AV)} {qs : List (Nat × Value)} {cs cs' : List AV} {vs : Array Value}, fillV place cs ps = some cs' → RelC g w cs vs.toList →
    RelPs g w ps qs → ∃ vs', Instr.fill place vs qs = some vs' ∧ RelC g w cs' vs'.toList
  | [], _, cs, cs', vs, h, hc, .nil => by cases h; exact ⟨vs, rfl, hc⟩
  | (i, v) :: ps, _, cs, cs', vs, h, hc, .cons (u := u) (s := qs) hv hr => by
    simp only [fillV] at h
    split at h
    · cases h
    rename_i off size hp
    obtain ⟨hb, h⟩ := br_none h
    obtain ⟨hgood, hb⟩ := and_spec hb
    obtain ⟨h1, h2⟩ := and_spec hb
    have h1 := Nat.eq_of_beq_eq_true h1
    have h2 := Nat.le_of_ble_eq_true h2
    have hvc := hv.cells hgood
    have hl := hvc.1
    have hlc := hc.1
    simp only [Array.length_toList] at hl hlc
    have hfold : (u.cells.zipIdx.foldl (fun cs (c, j) => cs.setIfInBounds (off + j) c) vs).toList = vs.toList.take off ++ u.cells.toList ++ vs.toList.drop (off + u.cells.toList.length) := by
      have := fold_set u.cells.toList 0 off vs (by simp; omega)
      rw [← Array.foldl_toList, Array.toList_zipIdx]
      simpa using this
    obtain ⟨vs', e1, e2⟩ := fillV_sound (vs := u.cells.zipIdx.foldl (fun cs (c, j) => cs.setIfInBounds (off + j) c) vs) h (by rw [hfold]; exact hc.splice hvc off) hr
    refine ⟨vs', ?_, e2⟩
    simp only [Instr.fill, hp]
    rw [if_neg (by simp; omega)]
    exact e1

theorem placesOf_mapM : ∀ {fs : List Field} {l : List (Nat × Nat)}, placesOf P fs = some l → fs.mapM (fun f => (P.info? f.type).map fun i => (f.offset, i.size)) = some l
  | [], l, h => by cases h; rfl
  | f :: fs, l, h => by
    simp only [placesOf] at h
    split at h <;> try (cases h; done)
    rename_i i hi
    split at h <;> try (cases h; done)
    rename_i r hr
    cases h
    simp [List.mapM_cons, hi, placesOf_mapM hr]

theorem zeroT_spec {t : TypeId} {z : AV} (h : zeroT P t = some z) : ∃ i v, P.info? t = some i ∧ i.zero = some v ∧ z = ofConst v := by
  unfold zeroT at h
  split at h <;> try (cases h; done)
  rename_i i hi
  split at h <;> try (cases h; done)
  rename_i v hv
  cases h
  exact ⟨i, v, hi, hv, rfl⟩

theorem cells_const {g : Gh} {w : World} (v : Value) : RelC g w (cellsOf (ofConst v)) v.cells.toList := by
  cases v <;> first
    | (refine RelC.cons (by first | exact const_sound _) .nil; done)
    | skip
  all_goals first
    | (have h := const_sound (g := g) (w := w) (Value.agg ‹_›)
       exact h.cells rfl)
    | (have : ∀ v : Value, cellsOf (const1 v) = [const1 v] := fun v => by unfold const1; split <;> rfl
       unfold ofConst
       rw [this]
       exact RelC.cons (const1_sound _) .nil)

theorem buildO_sound {t : TypeId} {ps : List (Nat × AV)} {v : AV} (h : buildO P t ps = some v) :
    ∀ (g : Gh) (w : World) (qs : Array (Nat × Value)), RelPs g w ps qs.toList → ∃ u, (Instr.build t qs).run P w = .ok u w ∧ RelV g w v u := by
  intro g w qs hq
  unfold buildO at h
  split at h <;> try (cases h; done)
  rename_i z hz
  obtain ⟨i, zv, hi, hzv, rfl⟩ := zeroT_spec hz
  split at h <;> try (cases h; done)
  · rename_i fs hu
    split at h <;> try (cases h; done)
    rename_i places hpl
    split at h <;> try (cases h; done)
    rename_i cs hcs
    cases h
    obtain ⟨vs', e1, e2⟩ := fillV_sound hcs (cells_const zv) hq
    refine ⟨.agg vs', run_build w t qs vs' ?_, ?_⟩
    · unfold Program.built
      simp only [hi, hu, hzv, placesOf_mapM hpl]
      simpa using e1
    · have := RelV.ofAgg e2; rw [Array.toArray_toList] at this; exact this
  · rename_i n e hu
    split at h <;> try (cases h; done)
    rename_i ie hie
    split at h <;> try (cases h; done)
    rename_i cs hcs
    cases h
    obtain ⟨vs', e1, e2⟩ := fillV_sound hcs (cells_const zv) hq
    refine ⟨.agg vs', run_build w t qs vs' ?_, ?_⟩
    · unfold Program.built
      simp only [hi, hu, hzv, hie]
      exact e1
    · have := RelV.ofAgg e2; rw [Array.toArray_toList] at this; exact this

theorem rep_cells {g : Gh} {w : World} {cs : List AV} {z : Array Value} (hc : RelC g w cs z.toList) (hpos : 0 < z.size) : ∀ n, RelC g w (repCells cs n) ((Array.range (n * z.size)).map (z[· % z.size]!)).toList
  | 0 => by simp [repCells]; exact .nil
  | n + 1 => by
    have ih := rep_cells hc hpos n
    have e : ((Array.range ((n + 1) * z.size)).map (z[· % z.size]!)).toList = z.toList ++ ((Array.range (n * z.size)).map (z[· % z.size]!)).toList := by
      apply List.ext_getElem?
      intro j
      simp only [Array.toList_map, Array.toList_range, List.getElem?_map]
      by_cases hj : j < z.size
      · rw [List.getElem?_append_left (by simpa using hj), List.getElem?_range (by rw [Nat.succ_mul]; omega), Array.getElem?_toList]
        simp [Nat.mod_eq_of_lt hj, hj]
      · rw [List.getElem?_append_right (by simp; omega)]
        simp only [Array.length_toList, List.getElem?_map]
        by_cases hj2 : j < (n + 1) * z.size
        · rw [List.getElem?_range hj2, List.getElem?_range (by rw [Nat.succ_mul] at hj2; omega)]
          simp only [Option.map_some]
          rw [show j % z.size = (j - z.size) % z.size by rw [← Nat.mod_eq_sub_mod (by omega)]]
        · rw [List.getElem?_eq_none (by simp; omega), List.getElem?_eq_none (by simp; rw [Nat.succ_mul] at hj2; omega)]
    rw [e]
    exact hc.append ih

theorem run_buildSlice0 {t e : TypeId} {ie : TypeInfo} {z : Value} {w : World} (hu : P.underlying t = some (.slice e)) (hie : P.info? e = some ie) (hz : ie.zero = some z) :
    (Instr.buildSlice t 0 #[]).run P w = .ok (.slice (some ⟨w.heap.size, 0, none⟩) 0 0) (w.alloc (.cells #[] e)) := by
  simp [Instr.buildSlice, run_underlying hu, sizeOf, typeInfo, zeroValue, hie, hz, newRow, Instr.fill, Array.range_zero']

theorem buildSliceO_sound {t : TypeId} {len : Nat} {ps : List (Nat × AV)} {H : Hp} {nb n : Nat} {κ : KO R} {r : R} (h : buildSliceO P t len ps H nb n κ = some r) :
    ∃ v H', κ v H' n [] = some r ∧ ∀ (g : Gh) (w : World) (qs : Array (Nat × Value)), HRel g H w → g.G nb = .none → RelPs g w ps qs.toList →
      ∃ u w', (Instr.buildSlice t len qs).run P w = .ok u w' ∧ ∃ g', Went g H w (fun b => b = nb) v H' [] u w' g' := by
  unfold buildSliceO at h
  split at h <;> try (cases h; done)
  rename_i e hu
  split at h <;> try (cases h; done)
  rename_i ie hie
  split at h <;> try (cases h; done)
  rename_i z hz
  rcases br_some h with ⟨hb, hk⟩ | ⟨_, hk⟩ <;> clear h
  · have h := hk
    clear hk
    obtain ⟨h1, hb⟩ := and_spec hb
    obtain ⟨h2, h3⟩ := and_spec hb
    have h1 := Nat.le_of_ble_eq_true h1
    have h2 := Nat.eq_of_beq_eq_true h2
    have h3 := Nat.le_of_ble_eq_true h3
    have hpos : 0 < z.cells.size := by
      rcases Nat.eq_zero_or_pos z.cells.size with e | e
      · rw [← h2, e] at h3; omega
      · exact e
    split at h <;> try (cases h; done)
    rename_i cs hcs
    have run : ∀ (g : Gh) (w : World) (qs : Array (Nat × Value)), HRel g H w → RelPs g w ps qs.toList →
        ∃ vs, RelC g w cs vs.toList ∧ (Instr.buildSlice t len qs).run P w = .ok (.slice (some ⟨w.heap.size, 0, none⟩) len len) (w.alloc (.cells vs e)) := by
      intro g w qs hr hq
      have := rep_cells (cells_const (g := g) (w := w) z) hpos len
      rw [h2] at this
      obtain ⟨vs', e1, e2⟩ := fillV_sound hcs this hq
      refine ⟨vs', e2, run_buildSlice w t e len qs vs' ie z hu hie hz (by omega) (by omega) ?_⟩
      rw [h2]; exact e1
    have asLits : ∀ (g : Gh) (w : World) (vs : Array Value), HRel g H w → RelC g w cs vs.toList → ∃ g', Went g H w (fun b => b = nb) (.lits len ie.size cs) H [] (.slice (some ⟨w.heap.size, 0, none⟩) len len) (w.alloc (.cells vs e)) g' := by
      intro g w vs hr hc
      have hx : Ext g H w [] ⟨fun r => g.F r ∨ r = w.heap.size, g.i, g.G⟩ H (w.alloc (.cells vs e)) := by
        refine ⟨fun r h => .inl h, fun r h => ?_, by rw [alloc_heap]; simp, fun r hlt _ => ?_, (fun _ h => by cases h), fun _ _ _ => ⟨rfl, rfl, rfl⟩, (fun _ h => by cases h), (fun _ h => by cases h), fun b r c h h' _ => absurd h h', ⟨rfl, rfl, rfl⟩⟩
        · rcases h with h | h
          · exact .inl h
          · exact .inr (.inr (by omega))
        · rw [alloc_heap, Array.getElem?_push, if_neg (by omega)]
      refine ⟨⟨fun r => g.F r ∨ r = w.heap.size, g.i, g.G⟩, hx, ⟨fun b => ?_, hr.kd, hr.inj, fun b r c h1 h2 h3 => ?_, fun r hF => ?_⟩, ?_, fun b h h' => absurd h h'⟩
      · by_cases hg : H b = .gone
        · rw [hg]; exact trivial
        · exact RelB.step hx hr hg (fun h => by cases h)
      · have := hr.disj b r c h1 h2 h3
        refine ⟨fun h => ?_, by rw [alloc_heap, Array.size_push]; omega⟩
        rcases h with h | h
        · exact this.1 h
        · omega
      · rw [alloc_heap, Array.size_push]
        rcases hF with h | h
        · have := hr.ex r h; omega
        · omega
      · have hc' := hc.step hx hr
        refine .lits _ _ _ _ _ (fun j => (vs[j]?).getD Go.undef) (Nat.le_refl _) (fun _ => ⟨_, rfl⟩) (fun j c hj => ?_) (fun j c hj => ?_)
        · obtain ⟨v, hv, _⟩ := hc'.get hj
          rw [Array.getElem?_toList] at hv
          refine ⟨_, rfl, .inr rfl, ?_⟩
          rw [add_mk, Nat.zero_add, cell_at (vs := vs) (e := e) (fz := (0, 0)) (by rw [alloc_heap]; simp), hv]; rfl
        · obtain ⟨v, hv, hrv⟩ := hc'.get hj
          rw [Array.getElem?_toList] at hv
          rw [hv]; exact hrv
    split at h
    · rename_i ty hty
      split at h
      · rename_i l hl
        refine ⟨_, _, h, fun g w qs hr hnb hq => ?_⟩
        obtain ⟨vs, hc, hrun⟩ := run g w qs hr hq
        refine ⟨_, _, hrun, ?_⟩
        obtain ⟨a1, a2, a3⟩ := decs_sound hl hc
        obtain ⟨g', x1, x2, x3, x4, x5⟩ := newArr_went (w' := w.alloc (.cells vs e)) (cap := len) (vs := vs.toList) (e := e) hr hnb (by simp [alloc_heap]) (by rw [a1]; exact Nat.le_refl _) (by rw [a2]; exact Nat.le_refl _) a3
        refine ⟨g', x1, x2, ?_, x3⟩
        refine .own _ _ _ (by rw [x4]; exact fun h => by cases h) ⟨_, _, _, rfl⟩ (fun t' k' n' hG' => ?_)
        rw [x4] at hG'; cases hG'
        exact ⟨Nat.le_refl _, fun _ => ⟨_, _, by rw [a1], by rw [a1]; exact Nat.le_refl _, .inr ⟨_, x5, rfl⟩⟩⟩
      · refine ⟨_, _, h, fun g w qs hr hnb hq => ?_⟩
        obtain ⟨vs, hc, hrun⟩ := run g w qs hr hq
        exact ⟨_, _, hrun, asLits g w vs hr hc⟩
    · refine ⟨_, _, h, fun g w qs hr hnb hq => ?_⟩
      obtain ⟨vs, hc, hrun⟩ := run g w qs hr hq
      exact ⟨_, _, hrun, asLits g w vs hr hc⟩
  · obtain ⟨hb, h⟩ := br_none hk
    clear hk
    obtain ⟨h1, h2⟩ := and_spec hb
    clear hb
    have h1 := Nat.eq_of_beq_eq_true h1
    subst h1
    split at h2 <;> try (cases h2; done)
    split at h <;> try (cases h; done)
    rename_i ty hty
    refine ⟨_, _, h, fun g w qs hr hnb hq => ?_⟩
    have : qs = #[] := by
      cases hq' : qs.toList with
      | nil => exact Array.toList_inj.1 hq'
      | cons a b => rw [hq'] at hq; cases hq
    subst this
    refine ⟨_, _, run_buildSlice0 hu hie hz, ?_⟩
    obtain ⟨g', x1, x2, x3, x4, x5⟩ := newArr_went (w' := w.alloc (.cells #[] e)) (cap := 0) (t := ty) (l := []) (vs := []) (e := e) hr hnb (by simp [alloc_heap]) (Nat.le_refl _) (by simp) (fun i x h => by simp at h)
    refine ⟨g', x1, x2, ?_, x3⟩
    refine .own _ _ _ (by rw [x4]; exact fun h => by cases h) ⟨_, _, _, rfl⟩ (fun t' k' n' hG' => ?_)
    rw [x4] at hG'; cases hG'
    exact ⟨Nat.le_refl _, fun _ => ⟨_, _, rfl, Nat.le_refl _, .inr ⟨_, x5, rfl⟩⟩⟩
end Go.VI
