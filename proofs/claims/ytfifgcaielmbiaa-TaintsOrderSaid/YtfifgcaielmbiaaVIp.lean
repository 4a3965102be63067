/- A region in any order. -/
import Derived.Test.YtfifgcaielmbiaaVIo
namespace Go.VI
set_option linter.unusedVariables false
set_option linter.unusedSimpArgs false
variable {R : Type} {P : Program}

/-! ### Operations that leave the heap out of account -/

theorem heapless_sound {E : FuncId → Option Entry} {inl : Inl R} {o : Oper} (ho : heapless o = true) {ρ : Operand → AV} {H : Hp} {nb n : Nat} {κ : KO R} {r : R} (h : aop P E inl o ρ H nb n κ = some r) :
    ∃ v, κ v H n [] = some r ∧ ∀ (g : Gh) (a : Act) (w : World), (∀ x ∈ o.op.operands, RelV g w (ρ x) (a.eval x)) → ∃ u, (execOp a.eval o).run P w = .ok (.value u) w ∧ RelV g w v u := by
  have val : ∀ {a : Act} {w : World} {s : Sem Value} {u : Value}, execOp a.eval o = (do pure (.value (← s))) → s.run P w = .ok u w → (execOp a.eval o).run P w = .ok (.value u) w := by
    intro a w s u e hs
    rw [e]; simp only [Sem.run_bind, hs, Result.andThen_ok, Sem.run_pure]
  obtain ⟨dst, op, ty, pos, aft, gd⟩ := o
  unfold aop at h
  simp only at h
  cases op <;> simp only at h <;> try (cases ho; done)
  case move x => exact ⟨_, h, fun g a w hρ => ⟨_, rfl, hρ x (by simp [Op.operands])⟩⟩
  case assign x => exact ⟨_, h, fun g a w hρ => ⟨_, rfl, hρ x (by simp [Op.operands])⟩⟩
  case pick c x y =>
    split at h
    case h_2 => cases h
    rename_i t hc
    rcases br_some h with ⟨ht, h⟩ | ⟨ht, h⟩
    · refine ⟨_, h, fun g a w hρ => ⟨a.eval x, ?_, hρ x (by simp [Op.operands])⟩⟩
      have h1 := hρ c (by simp [Op.operands])
      rw [hc, ht] at h1
      generalize hu : a.eval c = u at h1
      cases h1
      simp only [execOp, hu, asBool, Sem.run_bind, Sem.run_pure, Result.andThen_ok, if_true]
    · refine ⟨_, h, fun g a w hρ => ⟨a.eval y, ?_, hρ y (by simp [Op.operands])⟩⟩
      have h1 := hρ c (by simp [Op.operands])
      rw [hc, ht] at h1
      generalize hu : a.eval c = u at h1
      cases h1
      simp only [execOp, hu, asBool, Sem.run_bind, Sem.run_pure, Result.andThen_ok, Bool.false_eq_true, if_false]
  case build t ps =>
    split at h
    case h_2 => cases h
    rename_i v hv
    refine ⟨_, h, fun g a w hρ => ?_⟩
    have hps : RelPs g w (parts ρ ps) (ps.map fun (i, x) => (i, a.eval x)).toList := by
      have hmem : ∀ p ∈ ps.toList, RelV g w (ρ p.2) (a.eval p.2) := fun p hp => hρ p.2 (by simp only [Op.operands]; rw [List.mem_toArray]; exact List.mem_map.2 ⟨p, hp, rfl⟩)
      unfold parts
      rw [Array.toList_map]
      generalize ps.toList = l at hmem
      induction l with
      | nil => exact .nil
      | cons p l ih => exact .cons (hmem p (List.mem_cons_self)) (ih fun q hq => hmem q (List.mem_cons_of_mem _ hq))
    obtain ⟨u, h1, h2⟩ := buildO_sound hv g w _ hps
    exact ⟨u, val (by unfold execOp; rfl) h1, h2⟩
  case nilCheck x =>
    split at h <;> try (cases h; done)
    all_goals
      rename_i hx
      refine ⟨_, h, fun g a w hρ => ?_⟩
      have h1 := hρ x (by simp [Op.operands])
      rw [hx] at h1
      have h2 := h1
      first
        | (cases h1 with
           | ptr _ _ _ _ _ _ hp =>
             obtain ⟨ad, hu⟩ := hp
             rw [hu] at h2
             exact ⟨_, by simp only [execOp, hu, Sem.run_pure], h2⟩)
        | (generalize hu : a.eval x = u at h1 h2
           cases h1
           exact ⟨_, by simp only [execOp, hu, Sem.run_pure], h2⟩)
  case binOp op t x y yt =>
    obtain ⟨v, h', hs⟩ := binO_sound h
    refine ⟨v, h', fun g a w hρ => ?_⟩
    obtain ⟨u, h1, h2⟩ := hs g w _ _ (hρ x (by simp [Op.operands])) (hρ y (by simp [Op.operands]))
    exact ⟨u, val (by unfold execOp; rfl) h1, h2⟩
  case unOp op t x =>
    obtain ⟨v, h', hs⟩ := unO_sound h
    refine ⟨v, h', fun g a w hρ => ?_⟩
    obtain ⟨u, h1, h2⟩ := hs g w _ (hρ x (by simp [Op.operands]))
    exact ⟨u, val (by unfold execOp; rfl) h1, h2⟩
  case makeInterface t x =>
    split at h <;> try (cases h; done)
    rename_i d hd ht
    refine ⟨_, h, fun g a w hρ => ⟨.iface t (a.eval x), val (s := Instr.makeInterface t (a.eval x)) (by unfold execOp; rfl) ?_, .iface _ _ _ (hρ x (by simp [Op.operands]))⟩⟩
    simp only [Instr.makeInterface, Sem.run_bind, run_underlying ht, Result.andThen_ok]
    cases d <;> first | rfl | (exact absurd rfl (hd _))
  case makeFunc f xs ys =>
    refine ⟨_, h, fun g a w hρ => ⟨.func f (xs.map a.eval) (ys.map a.eval), val (s := Instr.makeFunc f (xs.map a.eval) (ys.map a.eval)) (by unfold execOp; rfl) rfl, ?_⟩⟩
    refine .fn f _ _ _ _ (fun j => ((xs.map a.eval)[j]?).getD Go.undef) (fun j => ((ys.map a.eval)[j]?).getD Go.undef) (by simp) (by simp) (fun j c hj => ?_) (fun j c hj => ?_) (fun j c hj => ?_) (fun j c hj => ?_)
    all_goals
      rw [List.getElem?_map, Array.getElem?_toList] at hj
      rw [Array.getElem?_map]
      first
        | (cases hx : xs[j]? with
           | none => rw [hx] at hj; cases hj
           | some x =>
             rw [hx] at hj
             cases hj
             first | rfl | exact hρ x (by simp only [Op.operands, Array.mem_append]; exact .inl (Array.mem_of_getElem? hx)))
        | (cases hx : ys[j]? with
           | none => rw [hx] at hj; cases hj
           | some x =>
             rw [hx] at hj
             cases hj
             first | rfl | exact hρ x (by simp only [Op.operands, Array.mem_append]; exact .inr (Array.mem_of_getElem? hx)))
  case fieldAddr t x f =>
    split at h <;> try (cases h; done)
    rename_i off hoff
    have hfd : ∃ fs fd i, P.underlying t = some (.struct fs) ∧ fs[f]? = some fd ∧ fd.offset = off ∧ P.info? fd.type = some i ∧ i.size ≠ 0 := by
      unfold fieldO at hoff
      split at hoff <;> try (cases hoff; done)
      rename_i fs hu
      split at hoff <;> try (cases hoff; done)
      rename_i fd hf
      obtain ⟨hz, hoff⟩ := none_br hoff
      cases hoff
      unfold sizeT at hz
      split at hz
      · rename_i i hi
        exact ⟨fs, fd, i, hu, hf, rfl, hi, fun e => by rw [e] at hz; cases hz⟩
      · cases hz
    obtain ⟨fs, fd, i, hu, hf, rfl, hi, hne⟩ := hfd
    have run : ∀ (w : World) (ad : Addr), (Instr.fieldAt t (.pointer (some ad)) f).run P w = .ok (.pointer (some (ad.add fd.offset))) w := fun w ad => by
      simp only [Instr.fieldAt, Sem.run_bind, run_underlying hu, Result.andThen_ok, hf, Instr.sureAddr, Sem.run_pure, fieldPlace, run_sizeOf' hi, if_neg hne]
    split at h <;> try (cases h; done)
    · rename_i b i' o' k hx
      refine ⟨_, h, fun g a w hρ => ?_⟩
      have h1 := hρ x (by simp [Op.operands])
      rw [hx] at h1
      generalize hue : a.eval x = u at h1
      cases h1 with
      | ptr _ _ _ _ _ hn hp ha hb hs =>
        obtain ⟨ad, rfl⟩ := hp
        refine ⟨_, val (s := Instr.fieldAt t (a.eval x) f) (by unfold execOp; rfl) (by rw [hue]; exact run w ad), .ptr _ _ _ _ _ hn ⟨_, rfl⟩ (fun t k' n hG => ?_) (fun hG he => ?_) (fun hG he => ?_)⟩
        · obtain ⟨a1, a2⟩ := ha t k' n hG
          refine ⟨a1, fun e => ?_⟩
          obtain ⟨r', c, e1, e2⟩ := a2 e
          cases e2
          exact ⟨r', c, e1, by rw [add_mk, Nat.add_assoc]⟩
        · obtain ⟨r', c, e1, e2⟩ := hb hG he
          cases e2
          exact ⟨r', c, e1, by rw [add_mk]⟩
        · obtain ⟨r', c, e1, e2⟩ := hs hG (by omega)
          cases e2
          exact ⟨r', c, e1, by
            rw [add_mk]
            have : fd.offset = 0 := by omega
            rw [this]⟩
    · rename_i cs hx
      refine ⟨_, h, fun g a w hρ => ?_⟩
      have h1 := hρ x (by simp [Op.operands])
      rw [hx] at h1
      generalize hue : a.eval x = u at h1
      cases h1 with
      | cptr _ ad fv h1 h2 =>
        refine ⟨_, val (s := Instr.fieldAt t (a.eval x) f) (by unfold execOp; rfl) (by rw [hue]; exact run w ad), .cptr _ _ (fun j => fv (fd.offset + j)) (fun j c hj => ?_) (fun j c hj => ?_)⟩
        · rw [List.getElem?_drop] at hj
          rw [add_block, Addr.add_add]
          exact h1 _ c hj
        · rw [List.getElem?_drop] at hj
          exact h2 _ c hj
  case field t x f =>
    split at h <;> try (cases h; done)
    rename_i fs hu
    split at h <;> try (cases h; done)
    rename_i fd hf
    split at h <;> try (cases h; done)
    rename_i cs hx
    split at h <;> try (cases h; done)
    rename_i v hv
    refine ⟨_, h, fun g a w hρ => ?_⟩
    have h1 := hρ x (by simp [Op.operands])
    rw [hx] at h1
    have e1 := h1.isAgg rfl
    obtain ⟨u, hu1, hu2⟩ := partV_run hv (h1.cells rfl)
    refine ⟨u, val (s := Instr.field t (a.eval x) f) (by unfold execOp; rfl) ?_, hu2⟩
    rw [e1]
    simp only [Instr.field, Sem.run_bind, run_underlying hu, Result.andThen_ok, hf, asAgg, Sem.run_pure, hu1]
  case index t x ix =>
    split at h <;> try (cases h; done)
    rotate_left
    · rename_i len e cs k i hu hx hix
      obtain ⟨hin, h⟩ := br_none h
      obtain ⟨h0, hlt⟩ := inRange_spec hin
      split at h <;> try (cases h; done)
      rename_i ie hie
      split at h <;> try (cases h; done)
      rename_i v hv
      refine ⟨_, h, fun g a w hρ => ?_⟩
      have h1 := hρ x (by simp [Op.operands])
      have h2 := hρ ix (by simp [Op.operands])
      rw [hx] at h1; rw [hix] at h2
      have e1 := h1.isAgg rfl
      obtain ⟨u, hu1, hu2⟩ := partV_run hv (h1.cells rfl)
      generalize hui : a.eval ix = ui at h2
      cases h2
      refine ⟨u, val (s := Instr.index t (a.eval x) (a.eval ix)) (by unfold execOp; rfl) ?_, hu2⟩
      rw [e1, hui]
      simp only [Instr.index, Sem.run_bind, asIntOf, Sem.run_pure, Result.andThen_ok, run_underlying hu, if_pos (show 0 ≤ i ∧ i < (len : Int) from ⟨h0, hlt⟩), run_sizeOf' hie, hu1]
    rename_i s k i hu hx hix
    obtain ⟨h0, h⟩ := br_none h
    have h0 : 0 ≤ i := by simpa using h0
    obtain ⟨b, hb, h⟩ := Option.bind_eq_some_iff.1 h
    refine ⟨_, h, fun g a w hρ => ?_⟩
    have h1 := hρ x (by simp [Op.operands])
    have h2 := hρ ix (by simp [Op.operands])
    rw [hx] at h1; rw [hix] at h2
    generalize hux : a.eval x = ux at h1
    generalize hui : a.eval ix = ui at h2
    cases h1; cases h2
    refine ⟨_, val (s := Instr.index t (a.eval x) (a.eval ix)) (by unfold execOp; rfl) ?_, .int ..⟩
    have hb' : s[i.toNat]? = some b := by
      rw [Array.getElem?_toList] at hb
      exact hb
    rw [hux, hui]
    simp only [Instr.index, Sem.run_bind, asIntOf, Sem.run_pure, Result.andThen_ok, run_underlying hu, if_pos h0, hb']
  case extract t i =>
    split at h <;> try (cases h; done)
    rename_i vs ht
    split at h <;> try (cases h; done)
    rename_i v hv
    refine ⟨_, h, fun g a w hρ => ?_⟩
    have h1 := hρ t (by simp [Op.operands])
    rw [ht] at h1
    generalize hue : a.eval t = u at h1
    cases h1 with
    | tup _ us f h1 h2 h3 =>
      refine ⟨f i, val (s := Instr.extract (a.eval t) i) (by unfold execOp; rfl) ?_, h3 i v hv⟩
      rw [hue]
      simp only [Instr.extract, h2 i v hv, Sem.run_pure]
end Go.VI
