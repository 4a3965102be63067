/- Arithmetic, comparison, conversion. -/
import Derived.Test.YtfifgcaielmbiaaVIg
namespace Go.VI
set_option linter.unusedVariables false
set_option linter.unusedSimpArgs false
variable {R : Type} {P : Program}

theorem bEq_eq (a b : Bool) : bEq a b = (a == b) := by cases a <;> cases b <;> rfl
theorem beq_bytes (a b : ByteArray) : (a.toList == b.toList) = decide (a = b) := by
  by_cases h : a = b
  · subst h; simp
  · rw [decide_eq_false h]
    refine beq_eq_false_iff_ne.2 fun e => h ?_
    rw [ByteArray.toList_eq, ByteArray.toList_eq] at e
    cases a; cases b
    simp only at e
    rw [Array.toList_inj.1 e]
theorem beq_int (a b : Int) : (a == b) = decide (a = b) := by by_cases h : a = b <;> simp [h]

theorem partV_run {g : Gh} {w : World} {t : TypeId} {cs : List AV} {o : Nat} {v : AV} {vs : Array Value} (hp : partV P t cs o = some v) (hc : RelC g w cs vs.toList) : ∃ u, (part t vs o).run P w = .ok u w ∧ RelV g w v u := by
  unfold partV at hp
  split at hp
  · rename_i hk
    split at hp
    · rename_i i hi
      obtain ⟨hle, hp⟩ := br_none hp
      cases hp
      refine ⟨.agg (vs.extract o (o + i.size)), ?_, ?_⟩
      · simp only [part, Sem.run_bind, run_isAgg' hk, Result.andThen_ok, if_true, run_sizeOf' hi, Sem.run_pure]
      · have := RelV.ofAgg ((hc.drop o).take i.size)
        have e : (vs.extract o (o + i.size)) = ((vs.toList.drop o).take i.size).toArray := by
          apply Array.ext'
          simp [Array.toList_extract, List.extract_eq_take_drop]
        rw [e]; exact this
    · cases hp
  · rename_i hk
    obtain ⟨u, hu, hr⟩ := hc.get hp
    rw [Array.getElem?_toList] at hu
    refine ⟨u, ?_, hr⟩
    simp only [part, Sem.run_bind, run_isAgg' hk, Result.andThen_ok, Bool.false_eq_true, if_false, hu, Sem.run_pure]
  · cases hp

theorem eqFs_sound {g : Gh} {w : World} {d : Nat} {rec : TypeId → AV → AV → Option Bool} {cs ds : List AV} {xs ys : Array Value} (hx : RelC g w cs xs.toList) (hy : RelC g w ds ys.toList)
    (ih : ∀ t a b e u v, rec t a b = some e → RelV g w a u → RelV g w b v → (Op.equalIn d t u v).run P w = .ok e w) :
    ∀ {fs : List Field} {e : Bool}, eqFs P rec cs ds fs = some e → (Op.eqFields d xs ys fs).run P w = .ok e w
  | [], e, h => by simp only [eqFs] at h; cases h; rfl
  | f :: fs, e, h => by
    simp only [eqFs] at h
    obtain ⟨hn, h⟩ := none_br h
    split at h <;> try (cases h; done)
    rename_i a ha
    split at h <;> try (cases h; done)
    rename_i b hb
    split at h <;> try (cases h; done)
    rename_i e1 he1
    split at h <;> try (cases h; done)
    rename_i e2 he2
    cases h
    obtain ⟨u, hu, hu'⟩ := partV_run ha hx
    obtain ⟨v, hv, hv'⟩ := partV_run hb hy
    have h1 := ih _ _ _ _ _ _ he1 hu' hv'
    have h2 := eqFs_sound hx hy ih he2
    have hne : f.name ≠ "_" := fun e => by rw [e] at hn; revert hn; decide
    simp only [Op.eqFields, hne, ne_eq, not_false_eq_true, if_true, Sem.run_bind, hu, hv, h1, Result.andThen_ok]
    cases e1
    · rfl
    · simp only [Bool.not_true, Bool.false_eq_true, if_false, h2]; rfl

theorem eqV_sound {g : Gh} {w : World} : ∀ (d D : Nat) (_ : d ≤ D) (t : TypeId) (a b : AV) (e : Bool) (u v : Value), eqV P d t a b = some e → RelV g w a u → RelV g w b v → (Op.equalIn D t u v).run P w = .ok e w
  | 0, D, _, t, a, b, e, u, v, h, _, _ => by cases h
  | d + 1, 0, hD, t, a, b, e, u, v, h, _, _ => by omega
  | d + 1, D + 1, hD, t, a, b, e, u, v, h, hu, hv => by
    simp only [eqV] at h
    split at h <;> try (cases h; done)
    · rename_i ht
      cases a <;> cases b <;> simp only at h <;> try (cases h; done)
      cases h; cases hu; cases hv
      rw [run_equalIn_bool' w D t _ _ ht, bEq_eq]
    · rename_i k ht
      cases a <;> cases b <;> simp only at h <;> try (cases h; done)
      obtain ⟨hk, h'⟩ := br_none h
      clear h
      have := kEq_eq hk; subst this
      cases h'; cases hu; cases hv
      rw [run_equalIn_int w D t _ _ _ _ ht, beq_int]
    · rename_i ht
      cases a <;> cases b <;> simp only at h <;> try (cases h; done)
      cases h; cases hu; cases hv
      rw [run_equalIn_string w D t _ _ ht, beq_bytes]
    · rename_i fs ht
      cases a <;> cases b <;> simp only at h <;> try (cases h; done)
      obtain ⟨hs, h'⟩ := none_br h
      rename_i cs ds
      have hf : P.fieldsOf t = fs := by simp [Program.fieldsOf, ht]
      have e1 := hu.isAgg rfl
      have e2 := hv.isAgg rfl
      rw [e1, e2, run_equalIn_agg w D t _ _ (by rw [hf]; exact ht) hs, hf]
      exact eqFs_sound (hu.cells rfl) (hv.cells rfl) (fun t a b e u v => eqV_sound d D (by omega) t a b e u v) h'

theorem run_eqGuard_plain {op : BinOp} {t : TypeId} {x y : Operand} {u v : Value} {w : World} (h1 : u ≠ .nilIface ∨ v ≠ .nilIface) (h2 : ∀ a b, u = .agg a → v = .agg b → False) : (eqGuard op t x y u v).run P w = .ok () w := by
  unfold eqGuard
  cases op <;> simp <;> split <;> first | rfl | (exfalso; rcases h1 with h | h <;> exact h rfl) | (exfalso; exact h2 _ _ rfl rfl)

def plainV : Value → Bool
  | .int _ _ => true
  | .float _ _ => true
  | .complex _ _ _ => true
  | .string _ => true
  | _ => false

theorem run_equal' {t : TypeId} {a b : Value} {e : Bool} {w : World} (h : ∀ d, (Op.equalIn (d + 1) t a b).run P w = .ok e w) : (Op.equal t a b).run P w = .ok e w := h 9999

theorem nilEq_sound {op : BinOp} {t : TypeId} {x y : AV} {xo yo : Operand} {e : Bool} {g : Gh} {w : World} {ux uy : Value} (h : nilEq P t x y ((isConst xo).or (isConst yo)) = some e) (hx : RelV g w x ux) (hy : RelV g w y uy) :
    (eqGuard op t xo yo ux uy).run P w = .ok () w ∧ (Op.equal t ux uy).run P w = .ok e w ∧ plainV ux = false := by
  unfold nilEq at h
  split at h
  case h_14 => cases h
  case h_11 =>
    rename_i ms ht
    obtain ⟨hc, h'⟩ := br_none h
    cases h'; cases hx; cases hy
    refine ⟨?_, run_equal' (fun d => by simp only [Op.equalIn, Sem.run_bind, run_underlying ht, Result.andThen_ok]; rfl), rfl⟩
    have hc : ((isConst xo) || (isConst yo)) = true := hc
    unfold eqGuard
    cases op <;> cases xo <;> cases yo <;> first | (simp [isConst] at hc; done) | simp
  all_goals
    rename_i ht
    cases h
  case h_1 => cases hx; cases hy; exact ⟨run_eqGuard_plain (.inl fun h => by cases h) (fun _ _ h => by cases h), run_equal' (fun d => by simp only [Op.equalIn, Sem.run_bind, run_underlying ht, Result.andThen_ok]; rfl), rfl⟩
  case h_2 =>
    cases hy
    cases hx with
    | ptr _ _ _ _ _ _ hp => obtain ⟨ad, rfl⟩ := hp; exact ⟨run_eqGuard_plain (.inl fun h => by cases h) (fun _ _ h => by cases h), run_equal' (fun d => by simp only [Op.equalIn, Sem.run_bind, run_underlying ht, Result.andThen_ok]; rfl), rfl⟩
  case h_3 =>
    cases hx
    cases hy with
    | ptr _ _ _ _ _ _ hp => obtain ⟨ad, rfl⟩ := hp; exact ⟨run_eqGuard_plain (.inl fun h => by cases h) (fun _ _ h => by cases h), run_equal' (fun d => by simp only [Op.equalIn, Sem.run_bind, run_underlying ht, Result.andThen_ok]; rfl), rfl⟩
  case h_4 => cases hx; cases hy; exact ⟨run_eqGuard_plain (.inl fun h => by cases h) (fun _ _ h => by cases h), run_equal' (fun d => by simp only [Op.equalIn, Sem.run_bind, run_underlying ht, Result.andThen_ok]; rfl), rfl⟩
  case h_5 => cases hx; cases hy; exact ⟨run_eqGuard_plain (.inl fun h => by cases h) (fun _ _ h => by cases h), run_equal' (fun d => by simp only [Op.equalIn, Sem.run_bind, run_underlying ht, Result.andThen_ok]; rfl), rfl⟩
  case h_6 => cases hx; cases hy; exact ⟨run_eqGuard_plain (.inl fun h => by cases h) (fun _ _ h => by cases h), run_equal' (fun d => by simp only [Op.equalIn, Sem.run_bind, run_underlying ht, Result.andThen_ok]; rfl), rfl⟩
  case h_7 =>
    cases hy
    cases hx with
    | map _ _ _ hp => obtain ⟨ad, rfl⟩ := hp; exact ⟨run_eqGuard_plain (.inl fun h => by cases h) (fun _ _ h => by cases h), run_equal' (fun d => by simp only [Op.equalIn, Sem.run_bind, run_underlying ht, Result.andThen_ok]; rfl), rfl⟩
  case h_8 =>
    cases hx
    cases hy with
    | map _ _ _ hp => obtain ⟨ad, rfl⟩ := hp; exact ⟨run_eqGuard_plain (.inl fun h => by cases h) (fun _ _ h => by cases h), run_equal' (fun d => by simp only [Op.equalIn, Sem.run_bind, run_underlying ht, Result.andThen_ok]; rfl), rfl⟩
  case h_9 => cases hx; cases hy; exact ⟨run_eqGuard_plain (.inl fun h => by cases h) (fun _ _ h => by cases h), run_equal' (fun d => by simp only [Op.equalIn, Sem.run_bind, run_underlying ht, Result.andThen_ok]; rfl), rfl⟩
  case h_10 => cases hx; cases hy; exact ⟨run_eqGuard_plain (.inl fun h => by cases h) (fun _ _ h => by cases h), run_equal' (fun d => by simp only [Op.equalIn, Sem.run_bind, run_underlying ht, Result.andThen_ok]; rfl), rfl⟩
  case h_12 => cases hx; cases hy; exact ⟨run_eqGuard_plain (.inl fun h => by cases h) (fun _ _ h => by cases h), run_equal' (fun d => by simp only [Op.equalIn, Sem.run_bind, run_underlying ht, Result.andThen_ok]; rfl), rfl⟩
  case h_13 => cases hx; cases hy; exact ⟨run_eqGuard_plain (.inr fun h => by cases h) (fun _ _ h => by cases h), run_equal' (fun d => by simp only [Op.equalIn, Sem.run_bind, run_underlying ht, Result.andThen_ok]; rfl), rfl⟩

theorem binO_sound {op : BinOp} {t : TypeId} {x y : AV} {xo yo : Operand} {κ : AV → Option R} {r : R} (h : binO P op t x y ((isConst xo).or (isConst yo)) κ = some r) :
    ∃ v, κ v = some r ∧ ∀ (g : Gh) (w : World) (ux uy : Value), RelV g w x ux → RelV g w y uy → ∃ u, (do eqGuard op t xo yo ux uy; binOp op t ux uy : Sem Value).run P w = .ok u w ∧ RelV g w v u := by
  unfold binO at h
  split at h
  · -- ints
    rename_i k a k' b
    have guard : ∀ w, (eqGuard op t xo yo (.int k a) (.int k' b)).run P w = .ok () w := fun w => run_eqGuard_plain (.inl fun h => by cases h) (fun _ _ h => by cases h)
    split at h
    · obtain ⟨hb, h⟩ := none_br h
      have hb : ¬ b < 0 := by simpa using hb
      refine ⟨_, h, fun g w ux uy hx hy => ?_⟩
      cases hx; cases hy
      refine ⟨_, ?_, .int ..⟩
      simp only [Sem.run_bind, guard, Result.andThen_ok, binOp, Op.shift, if_neg hb, Sem.run_pure]
    · obtain ⟨hb, h⟩ := none_br h
      have hb : ¬ b < 0 := by simpa using hb
      refine ⟨_, h, fun g w ux uy hx hy => ?_⟩
      cases hx; cases hy
      refine ⟨_, ?_, .int ..⟩
      simp only [Sem.run_bind, guard, Result.andThen_ok, binOp, Op.shift, if_neg hb, Sem.run_pure]
    · rename_i n1 n2
      obtain ⟨hk, h'⟩ := br_none h
      clear h
      have := kEq_eq hk; subst this
      have h := h'
      clear h'
      cases op <;> simp only at h <;> first
        | (exact absurd rfl n1)
        | (exact absurd rfl n2)
        | (obtain ⟨hb, h'⟩ := none_br h
           have hb : ¬ b = 0 := by simpa using hb
           refine ⟨_, h', fun g w ux uy hx hy => ?_⟩
           cases hx; cases hy
           refine ⟨_, ?_, .int ..⟩
           simp only [Sem.run_bind, guard, Result.andThen_ok, binOp, Op.intDiv, if_neg hb, ne_eq, not_true_eq_false, if_false, Sem.run_pure]; done)
        | (refine ⟨_, h, fun g w ux uy hx hy => ?_⟩
           cases hx; cases hy
           refine ⟨_, ?_, by first | exact .int .. | exact .bool ..⟩
           simp only [Sem.run_bind, guard, Result.andThen_ok, binOp, Op.intArith, Op.intCmp, ne_eq, not_true_eq_false, if_false, Sem.run_pure, bne, beq_int]
           try rfl
           done)
        | skip
      all_goals
        simp only [bitsV] at h
        first
          | (refine ⟨_, h, fun g w ux uy hx hy => ?_⟩
             cases hx; cases hy
             refine ⟨_, ?_, .int ..⟩
             simp only [Sem.run_bind, guard, Result.andThen_ok, binOp, Op.intBits, ne_eq, not_true_eq_false, if_false, Sem.run_pure]; done)
          | (cases h; done)
  · -- strings
    rename_i a b
    have guard : ∀ w, (eqGuard op t xo yo (.string a) (.string b)).run P w = .ok () w := fun w => run_eqGuard_plain (.inl fun h => by cases h) (fun _ _ h => by cases h)
    cases op <;> simp only at h <;> first
      | (cases h; done)
      | (obtain ⟨hb, h'⟩ := br_none h
         have hb := Nat.le_of_ble_eq_true hb
         refine ⟨_, h', fun g w ux uy hx hy => ?_⟩
         cases hx; cases hy
         refine ⟨_, ?_, .str ..⟩
         have hn : ¬ (((a.size + b.size : Nat) : Int) > IntKind.i64.max) := by
           have : IntKind.i64.max = 9223372036854775807 := by decide
           rw [this]; omega
         simp only [Sem.run_bind, guard, Result.andThen_ok, binOp, Op.stringOp, if_neg hn, Sem.run_pure]; done)
      | (refine ⟨_, h, fun g w ux uy hx hy => ?_⟩
         cases hx; cases hy
         refine ⟨_, ?_, .bool ..⟩
         simp only [Sem.run_bind, guard, Result.andThen_ok, binOp, Op.stringOp, Sem.run_pure, beq_bytes]
         try rfl
         done)
  · -- bools
    rename_i a b
    split at h <;> try (cases h; done)
    rename_i ht
    have guard : ∀ w, (eqGuard op t xo yo (.bool a) (.bool b)).run P w = .ok () w := fun w => run_eqGuard_plain (.inl fun h => by cases h) (fun _ _ h => by cases h)
    cases op <;> simp only at h <;> first
      | (cases h; done)
      | (refine ⟨_, h, fun g w ux uy hx hy => ?_⟩
         cases hx; cases hy
         refine ⟨_, ?_, .bool ..⟩
         rw [Sem.run_bind, guard, Result.andThen_ok]
         first | (rw [run_eql_bool w t a b ht, bEq_eq]; done) | (rw [run_neq_bool w t a b ht, bEq_eq]; done))
  · -- structs
    rename_i cs ds
    obtain ⟨hg, h⟩ := none_br h
    split at h <;> try (cases h; done)
    rename_i e he
    have run : ∀ (g : Gh) (w : World) (ux uy : Value), RelV g w (.agg cs) ux → RelV g w (.agg ds) uy → ∃ xs ys, ux = .agg xs ∧ uy = .agg ys ∧ (Op.equalIn 10000 t ux uy).run P w = .ok e w := by
      intro g w ux uy hx hy
      exact ⟨_, _, hx.isAgg rfl, hy.isAgg rfl, eqV_sound 9 10000 (by omega) t _ _ e ux uy he hx hy⟩
    cases op <;> simp only at h <;> first
      | (cases h; done)
      | (refine ⟨_, h, fun g w ux uy hx hy => ?_⟩
         obtain ⟨xs, ys, rfl, rfl, hr⟩ := run g w ux uy hx hy
         refine ⟨_, ?_, .bool ..⟩
         rw [Sem.run_bind, run_eqGuard_agg w _ t _ _ _ _ hg, Result.andThen_ok]
         first | (rw [run_eql_struct, hr]; rfl) | (rw [run_neq_struct, hr]; rfl))
  · split at h
    case h_2 => cases h
    rename_i e he
    cases op <;> simp only at h <;> first
      | (cases h; done)
      | (refine ⟨_, h, fun g w ux uy hx hy => ?_⟩
         obtain ⟨h1, h2, h3⟩ := nilEq_sound (op := _) he hx hy
         refine ⟨_, ?_, .bool ..⟩
         rw [Sem.run_bind, h1, Result.andThen_ok]
         unfold binOp
         cases ux <;> first
           | (simp [plainV] at h3; done)
           | (simp only [Sem.run_bind, h2, Result.andThen_ok, Sem.run_pure]))
end Go.VI
