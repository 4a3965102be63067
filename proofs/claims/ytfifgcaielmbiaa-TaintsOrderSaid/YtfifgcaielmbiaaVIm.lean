/- One operation. -/
import Derived.Test.YtfifgcaielmbiaaVImap
namespace Go.VI
set_option linter.unusedVariables false
set_option linter.unusedSimpArgs false
variable {R : Type} {P : Program}

/-- An operation yields a value of which K holds. -/
def Gives (P : Program) (o : Oper) (a : Act) (w : World) (K : Value → World → Prop) : Prop :=
  match (execOp a.eval o).run P w with
  | .ok (.value u) w' => K u w'
  | .ok .skip w' => K Go.undef w'
  | .ok (.enter f args) w' => Calls P f args w' fun en w'' => ∃ u, en = .returned u ∧ K u w''
  | _ => False

theorem Gives.wp {o : Oper} {a : Act} {w : World} {K : Value → World → Prop} {next : Act → World → Prop} {Q : Exit → Act → World → Prop} (h : Gives P o a w K) (hn : ∀ u w', K u w' → next (a.put o.dst u) w') : o.wp P a w next Q := by
  unfold Gives at h
  unfold Oper.wp
  split at h
  · rename_i u w' e; rw [e]; exact hn _ _ h
  · rename_i w' e; rw [e]; exact hn _ _ h
  · rename_i f args w' e
    rw [e]
    refine h.mono fun en w'' ⟨u, hu, hk⟩ => ?_
    subst hu
    exact hn _ _ hk
  · cases h

theorem Gives.mono {o : Oper} {a : Act} {w : World} {K K' : Value → World → Prop} (h : Gives P o a w K) (hk : ∀ u w', K u w' → K' u w') : Gives P o a w K' := by
  unfold Gives at *
  split at h
  · exact hk _ _ h
  · exact hk _ _ h
  · exact h.mono fun en w'' ⟨u, hu, h'⟩ => ⟨u, hu, hk _ _ h'⟩
  · cases h

theorem Gives.val {o : Oper} {a : Act} {w w' : World} {K : Value → World → Prop} {s : Sem Value} {u : Value} (h : execOp a.eval o = (do pure (.value (← s)))) (hs : s.run P w = .ok u w') (hk : K u w') : Gives P o a w K := by
  unfold Gives
  rw [h]
  simp only [Sem.run_bind, hs, Result.andThen_ok, Sem.run_pure]
  exact hk
theorem Gives.unit {o : Oper} {a : Act} {w w' : World} {K : Value → World → Prop} {s : Sem Unit} (h : execOp a.eval o = (do s; pure .skip)) (hs : s.run P w = .ok () w') (hk : K Go.undef w') : Gives P o a w K := by
  unfold Gives
  rw [h]
  simp only [Sem.run_bind, hs, Result.andThen_ok, Sem.run_pure]
  exact hk

theorem Went.wide {g g' : Gh} {H H' : Hp} {w w' : World} {N N' : Nat → Prop} {v : AV} {D : List Nat} {u : Value} (h : Went g H w N v H' D u w' g') (hN : ∀ b, N b → N' b) : Went g H w N' v H' D u w' g' :=
  ⟨h.ext, h.rel, h.val, fun b h1 h2 => hN b (h.new b h1 h2)⟩

/-- What is said of an operation, of its operands' values. -/
def OpOk (P : Program) (o : Oper) (ρ : Operand → AV) (H : Hp) (nb n n' : Nat) (v : AV) (H' : Hp) (D : List Nat) : Prop :=
  n ≤ n' ∧ ∀ (g : Gh) (a : Act) (w : World), HRel g H w → (∀ x, RelV g w (ρ x) (a.eval x)) → g.G nb = .none → (∀ b, n ≤ b → g.G b = .none) →
    Gives P o a w fun u w' => ∃ g', Went g H w (fun b => b = nb ∨ (n ≤ b ∧ b < n')) v H' D u w' g'

theorem parts_rel {g : Gh} {w : World} {a : Act} {ρ : Operand → AV} (hρ : ∀ x, RelV g w (ρ x) (a.eval x)) (ps : Array (Nat × Operand)) : RelPs g w (parts ρ ps) (ps.map fun (i, x) => (i, a.eval x)).toList := by
  unfold parts
  rw [Array.toList_map]
  generalize ps.toList = l
  induction l with
  | nil => exact .nil
  | cons p l ih => exact .cons (hρ _) ih

theorem loadLike {o : Oper} {ρ : Operand → AV} {H : Hp} {nb n : Nat} {v : AV} (s : (Operand → Value) → Sem Value) (ho : ∀ a : Act, execOp a.eval o = (do pure (.value (← s a.eval))))
    (h : ∀ (g : Gh) (a : Act) (w : World), HRel g H w → (∀ x, RelV g w (ρ x) (a.eval x)) → ∃ u, (s a.eval).run P w = .ok u w ∧ RelV g w v u) : OpOk P o ρ H nb n n v H [] := by
  refine ⟨Nat.le_refl _, fun g a w hr hρ _ _ => ?_⟩
  obtain ⟨u, h1, h2⟩ := h g a w hr hρ
  exact Gives.val (ho a) h1 ⟨g, Went.same hr h2⟩

theorem newLike {o : Oper} {ρ : Operand → AV} {H H' : Hp} {nb n : Nat} {v : AV} {D : List Nat} (s : (Operand → Value) → Sem Value) (ho : ∀ a : Act, execOp a.eval o = (do pure (.value (← s a.eval))))
    (h : ∀ (g : Gh) (a : Act) (w : World), HRel g H w → (∀ x, RelV g w (ρ x) (a.eval x)) → g.G nb = .none → ∃ u w', (s a.eval).run P w = .ok u w' ∧ ∃ g', Went g H w (fun b => b = nb) v H' D u w' g') : OpOk P o ρ H nb n n v H' D := by
  refine ⟨Nat.le_refl _, fun g a w hr hρ hnb _ => ?_⟩
  obtain ⟨u, w', h1, g', h2⟩ := h g a w hr hρ hnb
  exact Gives.val (ho a) h1 ⟨g', h2.wide fun b e => .inl e⟩

theorem intsOf_spec {g : Gh} {w : World} : ∀ {as : List AV} {l : List Int} {us : List Value}, intsOf as = some l → RelVs g w as us → us = l.map (Value.int .i64)
  | [], l, _, h, .nil => by cases h; rfl
  | .int .i64 n :: as, l, _, h, .cons h1 h2 => by
    simp only [intsOf] at h
    split at h <;> try (cases h; done)
    rename_i l' hl
    cases h; cases h1
    rw [intsOf_spec hl h2]; rfl
  | .int .i8 _ :: _, l, _, h, _ | .int .i16 _ :: _, l, _, h, _ | .int .i32 _ :: _, l, _, h, _ | .int .u8 _ :: _, l, _, h, _ | .int .u16 _ :: _, l, _, h, _ | .int .u32 _ :: _, l, _, h, _ | .int .u64 _ :: _, l, _, h, _ => by simp [intsOf] at h
  | .undef :: _, l, _, h, _ | .bool _ :: _, l, _, h, _ | .str _ :: _, l, _, h, _ | .vals _ _ :: _, l, _, h, _ | .nils :: _, l, _, h, _ | .lits _ _ _ :: _, l, _, h, _ | .own _ _ :: _, l, _, h, _ | .sref _ _ _ _ _ :: _, l, _, h, _ | .ptr _ _ _ _ :: _, l, _, h, _ | .cptr _ :: _, l, _, h, _ | .nilp :: _, l, _, h, _ | .map _ :: _, l, _, h, _ | .nilmap :: _, l, _, h, _ | .stamp _ _ _ :: _, l, _, h, _ | .fn _ _ _ :: _, l, _, h, _ | .nilfn :: _, l, _, h, _ | .iface _ _ :: _, l, _, h, _ | .nili :: _, l, _, h, _ | .agg _ :: _, l, _, h, _ | .tup _ :: _, l, _, h, _ => by simp [intsOf] at h

theorem fold_max {w : World} : ∀ (l : List Int) (a : Int), ((l.map (Value.int .i64)).foldlM Builtin.max2 (.int .i64 a) : Sem Value).run P w = .ok (.int .i64 (l.foldl max a)) w
  | [], a => rfl
  | b :: l, a => by
    simp only [List.map_cons, List.foldlM_cons, Builtin.max2, Sem.run_bind, Sem.run_pure, Result.andThen_ok, List.foldl_cons]
    have : (if b > a then b else a) = max a b := by split <;> omega
    rw [this]; exact fold_max l _
theorem fold_min {w : World} : ∀ (l : List Int) (a : Int), ((l.map (Value.int .i64)).foldlM Builtin.min2 (.int .i64 a) : Sem Value).run P w = .ok (.int .i64 (l.foldl min a)) w
  | [], a => rfl
  | b :: l, a => by
    simp only [List.map_cons, List.foldlM_cons, Builtin.min2, Sem.run_bind, Sem.run_pure, Result.andThen_ok, List.foldl_cons]
    have : (if b < a then b else a) = min a b := by split <;> omega
    rw [this]; exact fold_min l _

theorem enterable_run {f : FuncId} {args : Array Value} {w : World} (h : enterable P f = true) : (callFunc f args).run P w = .ok (.enter f args) w := by
  unfold enterable at h
  split at h
  case h_2 => cases h
  rename_i fn hf
  obtain ⟨h1, h2⟩ := and_spec h
  have h1 : ¬ (fn.name == "runtime.NumGoroutine") = true := by simpa using h1
  have h2 : ¬ fn.body.isNone = true := by
    cases hb : fn.body with
    | none => rw [hb] at h2; cases h2
    | some c => simp
  simp only [callFunc, Sem.run_bind, run_program, Result.andThen_ok, hf, if_neg h1, if_neg h2, Sem.run_pure]

set_option maxHeartbeats 2000000 in
theorem aop_sound {E : FuncId → Option Entry} {inl : Inl R} (hE : ∀ f e, E f = some e → Holds P f e) (hI : InlOk P inl) {o : Oper} {ρ : Operand → AV} {H : Hp} {nb n : Nat} {κ : KO R} {r : R}
    (h : aop P E inl o ρ H nb n κ = some r) : ∃ v H' n' D, κ v H' n' D = some r ∧ OpOk P o ρ H nb n n' v H' D := by
  obtain ⟨dst, op, ty, pos, aft, gd⟩ := o
  unfold aop at h
  simp only at h
  cases op <;> simp only at h <;> try (cases h; done)
  case move x => exact ⟨_, _, _, _, h, Nat.le_refl _, fun g a w hr hρ _ _ => by unfold Gives; exact ⟨g, Went.same hr (hρ x)⟩⟩
  case assign x => exact ⟨_, _, _, _, h, Nat.le_refl _, fun g a w hr hρ _ _ => by unfold Gives; exact ⟨g, Went.same hr (hρ x)⟩⟩
  case pick c x y =>
    split at h
    case h_2 => cases h
    rename_i t hc
    rcases br_some h with ⟨ht, h⟩ | ⟨ht, h⟩
    · refine ⟨_, _, _, _, h, Nat.le_refl _, fun g a w hr hρ _ _ => ?_⟩
      have h1 := hρ c
      rw [hc, ht] at h1
      generalize hu : a.eval c = u at h1
      cases h1
      unfold Gives
      simp only [execOp, hu, asBool, Sem.run_bind, Sem.run_pure, Result.andThen_ok, if_true]
      exact ⟨g, Went.same hr (hρ x)⟩
    · refine ⟨_, _, _, _, h, Nat.le_refl _, fun g a w hr hρ _ _ => ?_⟩
      have h1 := hρ c
      rw [hc, ht] at h1
      generalize hu : a.eval c = u at h1
      cases h1
      unfold Gives
      simp only [execOp, hu, asBool, Sem.run_bind, Sem.run_pure, Result.andThen_ok, Bool.false_eq_true, if_false]
      exact ⟨g, Went.same hr (hρ y)⟩
  case alloc e =>
    split at h
    case h_2 => cases h
    rename_i z hz
    obtain ⟨i, zv, hi, hzv, rfl⟩ := zeroT_spec hz
    obtain ⟨v, H', h', hs⟩ := newBlk_sound h
    refine ⟨v, H', n, _, h', newLike (fun ev => Instr.alloc e true (.tuple #[])) (fun a => by unfold execOp; rfl) fun g a w hr hρ hnb => ?_⟩
    exact ⟨_, _, by simp only [Instr.alloc, Sem.run_bind, zeroValue, typeInfo, run_program, hi, hzv, Result.andThen_ok, Sem.run_pure, newVar, newRow, run_newObj], hs g w { w with heap := w.heap.push (.cells zv.cells e) } zv.cells.toList hr hnb (cells_const zv) (by simp) ⟨rfl, rfl, rfl⟩⟩
  case box e x =>
    obtain ⟨hg, h⟩ := br_none h
    obtain ⟨v, H', h', hs⟩ := newBlk_sound h
    refine ⟨v, H', n, _, h', newLike (fun ev => Instr.box e (ev x)) (fun a => by unfold execOp; rfl) fun g a w hr hρ hnb => ?_⟩
    exact ⟨_, _, by simp only [Instr.box, Sem.run_bind, Result.andThen_ok, Sem.run_pure, newVar, newRow, run_newObj], hs g w { w with heap := w.heap.push (.cells (a.eval x).cells e) } (a.eval x).cells.toList hr hnb ((hρ x).cells hg) (by simp) ⟨rfl, rfl, rfl⟩⟩
  case build t ps =>
    split at h
    case h_2 => cases h
    rename_i v hv
    exact ⟨_, _, _, _, h, loadLike (fun ev => Instr.build t (ps.map fun (i, x) => (i, ev x))) (fun a => by unfold execOp; rfl) fun g a w hr hρ => buildO_sound hv g w _ (parts_rel hρ ps)⟩
  case buildSlice t len ps =>
    obtain ⟨v, H', h', hs⟩ := buildSliceO_sound h
    exact ⟨v, H', n, _, h', newLike (fun ev => Instr.buildSlice t len (ps.map fun (i, x) => (i, ev x))) (fun a => by unfold execOp; rfl) fun g a w hr hρ hnb => hs g w _ hr hnb (parts_rel hρ ps)⟩
  case load t x =>
    obtain ⟨v, h', hs⟩ := loadO_sound h
    exact ⟨v, H, n, _, h', loadLike (fun ev => Instr.loadAt t (ev x)) (fun a => by unfold execOp; rfl) fun g a w hr hρ => hs g w _ hr (hρ x)⟩
  case store t x y =>
    obtain ⟨H', D, h', hs⟩ := storeO_sound h
    refine ⟨_, H', n, D, h', Nat.le_refl _, fun g a w hr hρ hnb _ => ?_⟩
    obtain ⟨w', h1, g', h2⟩ := hs g w _ _ hr (hρ x) (hρ y)
    exact Gives.unit (s := Instr.storeAt t (a.eval x) (a.eval y)) rfl h1 ⟨g', h2.wide fun b e => e.elim⟩
  case nilCheck x =>
    split at h <;> try (cases h; done)
    · rename_i b i off k hx
      refine ⟨_, _, _, _, h, Nat.le_refl _, fun g a w hr hρ _ _ => ?_⟩
      have h1 := hρ x
      rw [hx] at h1
      have h2 := h1
      cases h1 with
      | ptr _ _ _ _ _ _ hp =>
        obtain ⟨ad, hu⟩ := hp
        unfold Gives
        simp only [execOp, hu, Sem.run_pure]
        rw [hu] at h2
        exact ⟨g, Went.same hr h2⟩
    · rename_i cs hx
      refine ⟨_, _, _, _, h, Nat.le_refl _, fun g a w hr hρ _ _ => ?_⟩
      have h1 := hρ x
      rw [hx] at h1
      generalize hu : a.eval x = u at h1
      have h2 := h1
      cases h1
      unfold Gives
      simp only [execOp, hu, Sem.run_pure]
      exact ⟨g, Went.same hr h2⟩
    · rename_i t v hx
      refine ⟨_, _, _, _, h, Nat.le_refl _, fun g a w hr hρ _ _ => ?_⟩
      have h1 := hρ x
      rw [hx] at h1
      generalize hu : a.eval x = u at h1
      have h2 := h1
      cases h1
      unfold Gives
      simp only [execOp, hu, Sem.run_pure]
      exact ⟨g, Went.same hr h2⟩
    · rename_i f xs ys hx
      refine ⟨_, _, _, _, h, Nat.le_refl _, fun g a w hr hρ _ _ => ?_⟩
      have h1 := hρ x
      rw [hx] at h1
      generalize hu : a.eval x = u at h1
      have h2 := h1
      cases h1
      unfold Gives
      simp only [execOp, hu, Sem.run_pure]
      exact ⟨g, Went.same hr h2⟩
  case binOp op t x y yt =>
    obtain ⟨v, h', hs⟩ := binO_sound h
    exact ⟨v, H, n, _, h', loadLike (fun ev => do eqGuard op t x y (ev x) (ev y); binOp op t (ev x) (ev y)) (fun a => by unfold execOp; rfl) fun g a w hr hρ => hs g w _ _ (hρ x) (hρ y)⟩
  case unOp op t x =>
    obtain ⟨v, h', hs⟩ := unO_sound h
    exact ⟨v, H, n, _, h', loadLike (fun ev => Op.unary op (ev x)) (fun a => by unfold execOp; rfl) fun g a w hr hρ => hs g w _ (hρ x)⟩
  case convert s d x =>
    obtain ⟨v, h', hs⟩ := convO_sound h
    exact ⟨v, H, n, _, h', loadLike (fun ev => convert s d (ev x)) (fun a => by unfold execOp; rfl) fun g a w hr hρ => hs g w _ hr (hρ x)⟩
  case makeInterface t x =>
    split at h <;> try (cases h; done)
    rename_i d hd ht
    refine ⟨_, _, _, _, h, loadLike (fun ev => Instr.makeInterface t (ev x)) (fun a => by unfold execOp; rfl) fun g a w hr hρ => ?_⟩
    refine ⟨.iface t (a.eval x), ?_, .iface _ _ _ (hρ x)⟩
    simp only [Instr.makeInterface, Sem.run_bind, run_underlying ht, Result.andThen_ok]
    cases d <;> first | rfl | (exact absurd rfl (hd _))
  case makeFunc f xs ys =>
    refine ⟨_, _, _, _, h, loadLike (fun ev => Instr.makeFunc f (xs.map ev) (ys.map ev)) (fun a => by unfold execOp; rfl) fun g a w hr hρ => ?_⟩
    refine ⟨.func f (xs.map a.eval) (ys.map a.eval), rfl, ?_⟩
    refine .fn f _ _ _ _ (fun j => ((xs.map a.eval)[j]?).getD Go.undef) (fun j => ((ys.map a.eval)[j]?).getD Go.undef) (by simp) (by simp) (fun j c hj => ?_) (fun j c hj => ?_) (fun j c hj => ?_) (fun j c hj => ?_)
    all_goals
      rw [List.getElem?_map, Array.getElem?_toList] at hj
      rw [Array.getElem?_map]
      first
        | (cases hx : xs[j]? with
           | none => rw [hx] at hj; cases hj
           | some x =>
             rw [hx] at hj
             cases hj
             first | rfl | exact hρ x)
        | (cases hx : ys[j]? with
           | none => rw [hx] at hj; cases hj
           | some x =>
             rw [hx] at hj
             cases hj
             first | rfl | exact hρ x)
  case makeSlice t l c =>
    obtain ⟨v, H', h', hs⟩ := makeSliceO_sound h
    exact ⟨v, H', n, _, h', newLike (fun ev => Instr.makeSlice t (ev l) (ev c)) (fun a => by unfold execOp; rfl) fun g a w hr hρ hnb => hs g w _ _ hr hnb (hρ l) (hρ c)⟩
  case slice t x lo hi mx =>
    obtain ⟨v, h', hs⟩ := sliceO_sound h
    refine ⟨v, H, n, _, h', loadLike (fun ev => Instr.sliceAt t (ev x) (lo.map ev) (hi.map ev) (mx.map ev)) (fun a => by unfold execOp; rfl) fun g a w hr hρ => hs g w _ _ _ _ hr (hρ x) ?_ ?_ ?_⟩
    · cases lo <;> first | trivial | exact hρ _
    · cases hi <;> first | trivial | exact hρ _
    · cases mx <;> first | trivial | exact hρ _
  case fieldAddr t x f =>
    split at h <;> try (cases h; done)
    rename_i off hoff
    have hfd : ∃ fs fd i, P.underlying t = some (.struct fs) ∧ fs[f]? = some fd ∧ fd.offset = off ∧ P.info? fd.type = some i ∧ i.size ≠ 0 := by
      unfold fieldO at hoff
      split at hoff <;> try (cases hoff; done)
      rename_i fs hu
      split at hoff <;> try (cases hoff; done)
      rename_i fd hf
      obtain ⟨hz, hoff⟩ := none_br hoff
      cases hoff
      unfold sizeT at hz
      split at hz
      · rename_i i hi
        exact ⟨fs, fd, i, hu, hf, rfl, hi, fun e => by rw [e] at hz; cases hz⟩
      · cases hz
    obtain ⟨fs, fd, i, hu, hf, rfl, hi, hne⟩ := hfd
    have run : ∀ (w : World) (ad : Addr), (Instr.fieldAt t (.pointer (some ad)) f).run P w = .ok (.pointer (some (ad.add fd.offset))) w := fun w ad => by
      simp only [Instr.fieldAt, Sem.run_bind, run_underlying hu, Result.andThen_ok, hf, Instr.sureAddr, Sem.run_pure, fieldPlace, run_sizeOf' hi, if_neg hne]
    split at h <;> try (cases h; done)
    · rename_i b i' o' k hx
      refine ⟨_, _, _, _, h, loadLike (fun ev => Instr.fieldAt t (ev x) f) (fun a => by unfold execOp; rfl) fun g a w hr hρ => ?_⟩
      have h1 := hρ x
      rw [hx] at h1
      generalize hue : a.eval x = u at h1
      cases h1 with
      | ptr _ _ _ _ _ hn hp ha hb hs =>
        obtain ⟨ad, rfl⟩ := hp
        refine ⟨_, run w ad, .ptr _ _ _ _ _ hn ⟨_, rfl⟩ (fun t k' n hG => ?_) (fun hG he => ?_) (fun hG he => ?_)⟩
        · obtain ⟨a1, a2⟩ := ha t k' n hG
          refine ⟨a1, fun e => ?_⟩
          obtain ⟨r', c, e1, e2⟩ := a2 e
          cases e2
          exact ⟨r', c, e1, by rw [add_mk, Nat.add_assoc]⟩
        · obtain ⟨r', c, e1, e2⟩ := hb hG he
          cases e2
          exact ⟨r', c, e1, by rw [add_mk]⟩
        · obtain ⟨r', c, e1, e2⟩ := hs hG (by omega)
          cases e2
          exact ⟨r', c, e1, by
            rw [add_mk]
            have : fd.offset = 0 := by omega
            rw [this]⟩
    · rename_i cs hx
      refine ⟨_, _, _, _, h, loadLike (fun ev => Instr.fieldAt t (ev x) f) (fun a => by unfold execOp; rfl) fun g a w hr hρ => ?_⟩
      have h1 := hρ x
      rw [hx] at h1
      generalize hue : a.eval x = u at h1
      cases h1 with
      | cptr _ ad fv h1 h2 =>
        refine ⟨_, run w ad, .cptr _ _ (fun j => fv (fd.offset + j)) (fun j c hj => ?_) (fun j c hj => ?_)⟩
        · rw [List.getElem?_drop] at hj
          rw [add_block, Addr.add_add]
          exact h1 _ c hj
        · rw [List.getElem?_drop] at hj
          exact h2 _ c hj
  case field t x f =>
    split at h <;> try (cases h; done)
    rename_i fs hu
    split at h <;> try (cases h; done)
    rename_i fd hf
    split at h <;> try (cases h; done)
    rename_i cs hx
    split at h <;> try (cases h; done)
    rename_i v hv
    refine ⟨_, _, _, _, h, loadLike (fun ev => Instr.field t (ev x) f) (fun a => by unfold execOp; rfl) fun g a w hr hρ => ?_⟩
    have h1 := hρ x
    rw [hx] at h1
    have e1 := h1.isAgg rfl
    obtain ⟨u, hu1, hu2⟩ := partV_run hv (h1.cells rfl)
    refine ⟨u, ?_, hu2⟩
    rw [e1]
    simp only [Instr.field, Sem.run_bind, run_underlying hu, Result.andThen_ok, hf, asAgg, Sem.run_pure, hu1]
  case makeMap t res =>
    unfold makeMapO at h
    split at h <;> try (cases h; done)
    rename_i hres
    split at h <;> try (cases h; done)
    rename_i k e hu
    split at h <;> try (cases h; done)
    rename_i kt vt _ _
    cases res with
    | some x => cases hres
    | none =>
      refine ⟨_, _, n, _, h, newLike (fun ev => Instr.makeMap t none) (fun a => by unfold execOp; rfl) fun g a w hr hρ hnb => ?_⟩
      obtain ⟨x1, x2, x3⟩ := HRel.alloc (w' := { w with heap := w.heap.push (.map #[] 0) }) (cap := 0) (blk := .map kt vt [] 0) hr hnb rfl (fun h => by cases h) (fun he => ⟨w.heap.size, 0, #[], 0, Gh.new_i .., by simp, rfl, fun i e m h => by simp at h, fun i j m m' h => by simp at h⟩)
      refine ⟨.map (some w.heap.size), { w with heap := w.heap.push (.map #[] 0) }, by simp only [Instr.makeMap, Sem.run_bind, Result.andThen_ok, Sem.run_pure, run_newObj], _, x1, x2, ?_, x3⟩
      refine .map _ _ (by rw [Gh.new_G]; exact kindOf_none) ⟨_, rfl⟩ (fun kt' vt' k' h => ⟨_, _, Gh.new_i .., rfl⟩)
  case lookup t x ix ok =>
    obtain ⟨v, h', hs⟩ := lookupO_sound h
    exact ⟨v, H, n, _, h', loadLike (fun ev => Instr.lookup t (ev x) (ev ix) ok) (fun a => by unfold execOp; rfl) fun g a w hr hρ => hs g w _ _ hr (hρ x) (hρ ix)⟩
  case mapUpdate t m k v =>
    obtain ⟨H', D, h', hs⟩ := mapUpdateO_sound h
    refine ⟨_, H', n, D, h', Nat.le_refl _, fun g a w hr hρ hnb _ => ?_⟩
    obtain ⟨w', h1, g', h2⟩ := hs g w _ _ _ hr (hρ m) (hρ k) (hρ v)
    exact Gives.unit (s := Instr.mapUpdate t (a.eval m) (a.eval k) (a.eval v)) rfl h1 ⟨g', h2.wide fun b e => e.elim⟩
  case range t x =>
    unfold rangeO at h
    split at h <;> try (cases h; done)
    rename_i s hu hx
    refine ⟨_, _, n, _, h, newLike (fun ev => Instr.range t (ev x)) (fun a => by unfold execOp; rfl) fun g a w hr hρ hnb => ?_⟩
    have h1 := hρ x
    rw [hx] at h1
    generalize a.eval x = u at h1
    cases h1
    obtain ⟨x1, x2, x3⟩ := HRel.alloc (w' := { w with heap := w.heap.push (.stringIter s 0) }) (cap := 0) (blk := .siter s 0) hr hnb rfl (fun h => by cases h) (fun he => ⟨w.heap.size, 0, Gh.new_i .., by simp⟩)
    refine ⟨.pointer (some ⟨w.heap.size, 0, none⟩), { w with heap := w.heap.push (.stringIter s 0) }, by simp only [Instr.range, Sem.run_bind, run_underlying hu, Result.andThen_ok, Sem.run_pure, run_newObj], _, x1, x2, ?_, x3⟩
    refine .ptr _ _ _ _ _ (by rw [Gh.new_G]; exact kindOf_none) ⟨_, rfl⟩ (fun t k' n h => ?_) (fun h _ => ?_) (fun _ _ => ⟨_, _, Gh.new_i .., rfl⟩)
    · rw [Gh.new_G] at h; cases h
    · rw [Gh.new_G] at h; cases h
  case next x isS =>
    have h2 := br_none h
    clear h
    obtain ⟨hS, h⟩ := h2
    subst hS
    unfold nextO at h
    split at h <;> try (cases h; done)
    rename_i b hx
    split at h <;> try (cases h; done)
    rename_i s pos hb
    have base : ∀ (g : Gh) (a : Act) (w : World), HRel g H w → (∀ x, RelV g w (ρ x) (a.eval x)) → ∃ r c, g.i b = some (r, c) ∧ w.heap[r]? = some (.stringIter s pos) ∧ a.eval x = .pointer (some ⟨r, 0, none⟩) := fun g a w hr hρ => by
      have hG : g.G b = .siter := by rw [hr.kd b (fun e => by rw [hb] at e; cases e), hb]; rfl
      have hB := hr.blk b
      rw [hb] at hB
      obtain ⟨r', c', h1, h2⟩ := hB
      have hv := hρ x
      rw [hx] at hv
      generalize hue : a.eval x = u at hv
      cases hv with
      | ptr _ _ _ _ _ hn hp ha hbx hs =>
        obtain ⟨r2, c2, e1, rfl⟩ := hs hG rfl
        rw [h1] at e1; cases e1
        exact ⟨r', c', h1, h2, rfl⟩
    rcases br_some h with ⟨hp, h⟩ | ⟨hp, h⟩
    · have hp : pos < s.size := Nat.le_of_ble_eq_true hp
      refine ⟨_, _, n, [b], h, Nat.le_refl _, fun g a w hr hρ _ _ => ?_⟩
      obtain ⟨r', c', h1, h2, h3⟩ := base g a w hr hρ
      have hrun : (Instr.next (a.eval x) true ty).run P w = .ok (.tuple #[.bool true, goInt pos, .int .i32 (Utf8.decode s pos).1]) { w with heap := w.heap.setIfInBounds r' (.stringIter s (pos + (Utf8.decode s pos).2)) } := by
        rw [h3]
        have e1 : (getObj r').run P w = .ok (.stringIter s pos) w := by simp [getObj, Sem.run, h2]
        have e2 : ∀ o, (setObj r' o).run P w = .ok () { w with heap := w.heap.setIfInBounds r' o } := fun o => by simp [setObj, Sem.run, h2]
        simp only [Instr.next, Sem.run_bind, e1, Result.andThen_ok, if_pos hp, e2, Sem.run_pure]
      have hs : H b ≠ .gone := by rw [hb]; exact fun h => by cases h
      have hlt : r' < w.heap.size := (Array.getElem?_eq_some_iff.1 h2).1
      obtain ⟨x1, x2, x3⟩ := HRel.write (w' := { w with heap := w.heap.setIfInBounds r' (.stringIter s (pos + (Utf8.decode s pos).2)) }) (blk := .siter s (pos + (Utf8.decode s pos).2)) hr hs h1 (fun h => by cases h) (by simp) (fun r'' hne => by simp [Array.getElem?_setIfInBounds, Ne.symm hne])
        (.inr (.inl ⟨by rw [hr.kd b (fun e => by rw [hb] at e; cases e), hb]; rfl, rfl⟩)) (fun he => ⟨r', c', h1, by simp [Array.getElem?_setIfInBounds, hlt]⟩)
      refine Gives.val (s := Instr.next (a.eval x) true ty) (by unfold execOp; rfl) hrun ⟨_, x1, x2, RelVs.tup (.cons (.bool true) (.cons (.int ..) (.cons (.int ..) .nil))), fun b h h' => (x3 b h h').elim⟩
    · have hp : ¬ pos < s.size := fun h' => by
        have := Nat.ble_eq_true_of_le h'
        rw [show Nat.blt pos s.size = Nat.ble (pos + 1) s.size from rfl, this] at hp
        cases hp
      refine ⟨_, _, n, _, h, Nat.le_refl _, fun g a w hr hρ _ _ => ?_⟩
      obtain ⟨r', c', h1, h2, h3⟩ := base g a w hr hρ
      have hrun : (Instr.next (a.eval x) true ty).run P w = .ok (.tuple #[.bool false]) w := by
        rw [h3]
        have e1 : (getObj r').run P w = .ok (.stringIter s pos) w := by simp [getObj, Sem.run, h2]
        simp only [Instr.next, Sem.run_bind, e1, Result.andThen_ok, if_neg hp, Sem.run_pure]
      exact Gives.val (s := Instr.next (a.eval x) true ty) (by unfold execOp; rfl) hrun ⟨g, Went.same hr (RelVs.tup (.cons (.bool false) .nil))⟩
  case indexAddr t x ix =>
    obtain ⟨v, h', hs⟩ := indexAddrO_sound h
    exact ⟨v, H, n, _, h', loadLike (fun ev => Instr.indexAt t (ev x) (ev ix)) (fun a => by unfold execOp; rfl) fun g a w hr hρ => hs g w _ _ hr (hρ x) (hρ ix)⟩
  case index t x ix =>
    split at h <;> try (cases h; done)
    rotate_left
    · rename_i len e cs k i hu hx hix
      obtain ⟨hin, h⟩ := br_none h
      obtain ⟨h0, hlt⟩ := inRange_spec hin
      split at h <;> try (cases h; done)
      rename_i ie hie
      split at h <;> try (cases h; done)
      rename_i v hv
      refine ⟨_, _, _, _, h, loadLike (fun ev => Instr.index t (ev x) (ev ix)) (fun a => by unfold execOp; rfl) fun g a w hr hρ => ?_⟩
      have h1 := hρ x
      have h2 := hρ ix
      rw [hx] at h1; rw [hix] at h2
      have e1 := h1.isAgg rfl
      obtain ⟨u, hu1, hu2⟩ := partV_run hv (h1.cells rfl)
      generalize a.eval ix = ui at h2
      cases h2
      refine ⟨u, ?_, hu2⟩
      rw [e1]
      simp only [Instr.index, Sem.run_bind, asIntOf, Sem.run_pure, Result.andThen_ok, run_underlying hu, if_pos (show 0 ≤ i ∧ i < (len : Int) from ⟨h0, hlt⟩), run_sizeOf' hie, hu1]
    rename_i s k i hu hx hix
    obtain ⟨h0, h⟩ := br_none h
    have h0 : 0 ≤ i := by simpa using h0
    obtain ⟨b, hb, h⟩ := Option.bind_eq_some_iff.1 h
    refine ⟨_, _, _, _, h, loadLike (fun ev => Instr.index t (ev x) (ev ix)) (fun a => by unfold execOp; rfl) fun g a w hr hρ => ?_⟩
    have h1 := hρ x
    have h2 := hρ ix
    rw [hx] at h1; rw [hix] at h2
    generalize a.eval x = ux at h1
    generalize a.eval ix = ui at h2
    cases h1; cases h2
    refine ⟨_, ?_, .int ..⟩
    have hb' : s[i.toNat]? = some b := by
      rw [Array.getElem?_toList] at hb
      exact hb
    simp only [Instr.index, Sem.run_bind, asIntOf, Sem.run_pure, Result.andThen_ok, run_underlying hu, if_pos h0, hb']
  case extract t i =>
    split at h <;> try (cases h; done)
    rename_i vs ht
    split at h <;> try (cases h; done)
    rename_i v hv
    refine ⟨_, _, _, _, h, loadLike (fun ev => Instr.extract (ev t) i) (fun a => by unfold execOp; rfl) fun g a w hr hρ => ?_⟩
    have h1 := hρ t
    rw [ht] at h1
    generalize a.eval t = u at h1
    cases h1 with
    | tup _ us f h1 h2 h3 =>
      refine ⟨f i, ?_, h3 i v hv⟩
      simp only [Instr.extract, h2 i v hv, Sem.run_pure]
  case typeAssert x xt t ok =>
    split at h <;> try (cases h; done)
    rename_i d t' v hd hu hx
    have run : ∀ (a : Act) (w : World) (uv : Value), a.eval x = .iface t' uv → (Instr.typeAssert (a.eval x) xt t ok).run P w = if t' = t then (pure (if ok then .tuple #[uv, .bool true] else uv) : Sem Value).run P w else (if ok then (do pure (.tuple #[← zeroValue t, .bool false]) : Sem Value).run P w else (runtimePanic (.typeAssertion (some xt) (some t') t "") : Sem Value).run P w) := by
      intro a w uv e
      rw [e]
      simp only [Instr.typeAssert, Sem.run_bind, run_underlying hu, Result.andThen_ok]
      cases d <;> first
        | (exact absurd rfl (hd _))
        | (by_cases h1 : t' = t
           · simp only [h1, if_true]
           · simp only [h1, if_false]
             cases ok <;> simp only [Bool.false_eq_true, if_false, if_true, Sem.run_bind])
    rcases br_some h with ⟨ht, h⟩ | ⟨ht, h⟩
    · have ht := Nat.eq_of_beq_eq_true ht
      refine ⟨_, _, _, _, h, loadLike (fun ev => Instr.typeAssert (ev x) xt t ok) (fun a => by unfold execOp; rfl) fun g a w hr hρ => ?_⟩
      have h1 := hρ x
      rw [hx] at h1
      generalize hue : a.eval x = u at h1
      cases h1 with
      | iface _ _ uv h2 =>
        rw [hue.symm, run a w uv hue, if_pos ht]
        cases ok
        · exact ⟨uv, rfl, h2⟩
        · exact ⟨_, rfl, RelVs.tup (.cons h2 (.cons (.bool true) .nil))⟩
    · have ht : ¬ t' = t := fun e => by rw [e, Nat.beq_refl] at ht; cases ht
      obtain ⟨hok, h⟩ := br_none h
      subst hok
      split at h <;> try (cases h; done)
      rename_i z hz
      obtain ⟨i, zv, hi, hzv, rfl⟩ := zeroT_spec hz
      refine ⟨_, _, _, _, h, loadLike (fun ev => Instr.typeAssert (ev x) xt t true) (fun a => by unfold execOp; rfl) fun g a w hr hρ => ?_⟩
      have h1 := hρ x
      rw [hx] at h1
      generalize hue : a.eval x = u at h1
      cases h1 with
      | iface _ _ uv h2 =>
        rw [hue.symm, run a w uv hue, if_neg ht]
        refine ⟨.tuple #[zv, .bool false], ?_, RelVs.tup (.cons (const_sound zv) (.cons (.bool false) .nil))⟩
        simp only [if_true, Sem.run_bind, zeroValue, typeInfo, run_program, hi, hzv, Result.andThen_ok, Sem.run_pure]
  case call c =>
    obtain ⟨callee, args, ats⟩ := c
    cases callee <;> simp only at h <;> try (cases h; done)
    case builtin b =>
      have rel : ∀ (g : Gh) (a : Act) (w : World), (∀ x, RelV g w (ρ x) (a.eval x)) → RelVs g w (args.toList.map ρ) (args.toList.map a.eval) := fun g a w hρ => RelVs.of hρ _
      have back : ∀ (a : Act) (us : List Value), args.toList.map a.eval = us → args.map a.eval = us.toArray := fun a us e => by rw [← e]; apply Array.ext'; simp
      unfold builtinO at h
      split at h <;> try (cases h; done)
      · rename_i x hargs
        split at h <;> try (cases h; done)
        rename_i t hts
        split at h <;> try (cases h; done)
        rename_i m hm
        refine ⟨_, _, _, _, h, Nat.le_refl _, fun g a w hr hρ _ _ => ?_⟩
        have hrel := rel g a w hρ
        rw [hargs] at hrel
        generalize hus : args.toList.map a.eval = us at hrel
        cases hrel with
        | cons h1 h2 =>
          cases h2
          have hrun := lenO_sound hm g w _ ats ty hts hr h1
          unfold Gives
          simp only [execOp, resolve, Sem.run_bind, Sem.run_pure, Result.andThen_ok, invoke, builtin, back a _ hus, hrun]
          exact ⟨g, Went.same hr (.int ..)⟩
      · rename_i x y hargs
        split at h <;> try (cases h; done)
        rename_i t u hts hus'
        split at h <;> try (cases h; done)
        rename_i e e2 ht hu
        obtain ⟨v, H', D, h', hs⟩ := appendO_sound h
        refine ⟨v, H', _, D, h', Nat.le_refl _, fun g a w hr hρ hnb _ => ?_⟩
        have hrel := rel g a w hρ
        rw [hargs] at hrel
        generalize hus : args.toList.map a.eval = us at hrel
        cases hrel with
        | cons h1 h2 =>
          cases h2 with
          | cons h2 h3 =>
            cases h3
            obtain ⟨uv, w', hrun, g', hw⟩ := hs g w _ _ t u ty ht ⟨_, hu⟩ hr hnb h1 h2
            have hts' : ∀ us, Builtin.append_ ats ty us = Builtin.append_ #[t, u] ty us := fun us => by
              unfold Builtin.append_
              simp [hts, hus']
            unfold Gives
            simp only [execOp, resolve, Sem.run_bind, Sem.run_pure, Result.andThen_ok, invoke, builtin, back a _ hus, hts', hrun]
            exact ⟨g', hw.wide fun b e => .inl e⟩
      · rename_i k x r' hargs
        split at h <;> try (cases h; done)
        rename_i l hl
        refine ⟨_, _, _, _, h, Nat.le_refl _, fun g a w hr hρ _ _ => ?_⟩
        have hrel := rel g a w hρ
        rw [hargs] at hrel
        generalize hus : args.toList.map a.eval = us at hrel
        cases hrel with
        | cons h1 h2 =>
          cases h1
          have := intsOf_spec hl h2
          subst this
          unfold Gives
          simp only [execOp, resolve, Sem.run_bind, Sem.run_pure, Result.andThen_ok, invoke, builtin, back a _ hus, Builtin.max_, fold_max]
          exact ⟨g, Went.same hr (.int ..)⟩
      · rename_i k x r' hargs
        split at h <;> try (cases h; done)
        rename_i l hl
        refine ⟨_, _, _, _, h, Nat.le_refl _, fun g a w hr hρ _ _ => ?_⟩
        have hrel := rel g a w hρ
        rw [hargs] at hrel
        generalize hus : args.toList.map a.eval = us at hrel
        cases hrel with
        | cons h1 h2 =>
          cases h1
          have := intsOf_spec hl h2
          subst this
          unfold Gives
          simp only [execOp, resolve, Sem.run_bind, Sem.run_pure, Result.andThen_ok, invoke, builtin, back a _ hus, Builtin.min_, fold_min]
          exact ⟨g, Went.same hr (.int ..)⟩
      · rename_i m k hargs
        split at h <;> try (cases h; done)
        rename_i t hts
        obtain ⟨H', D, h', hs⟩ := deleteO_sound h
        refine ⟨_, H', n, D, h', Nat.le_refl _, fun g a w hr hρ hnb _ => ?_⟩
        have hrel := rel g a w hρ
        rw [hargs] at hrel
        generalize hus : args.toList.map a.eval = us at hrel
        cases hrel with
        | cons h1 h2 =>
          cases h2 with
          | cons h2 h3 =>
            cases h3
            obtain ⟨w', hrun, g', hw⟩ := hs g w _ _ ats ty hts hr h1 h2
            unfold Gives
            simp only [execOp, resolve, Sem.run_bind, Sem.run_pure, Result.andThen_ok, invoke, builtin, back a _ hus, hrun]
            exact ⟨g', hw.wide fun b e => e.elim⟩
    case value f =>
      split at h <;> try (cases h; done)
      rename_i fid first caps hf
      obtain ⟨hen, v, H', n', D, h', hn, hs⟩ := callO_sound hE hI h
      refine ⟨v, H', n', D, h', hn, fun g a w hr hρ hnb hn0 => ?_⟩
      have h1 := hρ f
      rw [hf] at h1
      generalize hfe : a.eval f = u at h1
      cases h1 with
      | fn _ _ _ vs us fx fy e1 e2 e3 e4 e5 e6 =>
        have r1 : RelVs g w first vs.toList := RelVs.get (by simp [e1]) fun j x v a1 a2 => by
          have := e3 j x a1
          rw [Array.getElem?_toList, this] at a2
          cases a2; exact e4 j x a1
        have r2 : RelVs g w caps us.toList := RelVs.get (by simp [e2]) fun j x v a1 a2 => by
          have := e5 j x a1
          rw [Array.getElem?_toList, this] at a2
          cases a2; exact e6 j x a1
        have hrel := (r1.append (RelVs.of hρ args.toList)).append r2
        have hcall := hs g w _ hr hrel hn0
        have hargs : (vs ++ args.map a.eval ++ us) = (vs.toList ++ args.toList.map a.eval ++ us.toList).toArray := by
          apply Array.ext'; simp
        unfold Gives
        simp only [execOp, resolve, hfe, Deferred.ofValue, Sem.run_bind, Sem.run_pure, Result.andThen_ok, invoke, hargs, enterable_run hen]
        refine hcall.mono fun en w'' ⟨u, e, g', hw⟩ => ⟨u, e, g', hw.wide fun b hb => .inr hb⟩
end Go.VI
