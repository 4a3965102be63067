/- A region in any order: what it is told of each operation, and the state behind some of them. -/
import Derived.Test.YtfifgcaielmbiaaVIp
namespace Go.VI
set_option linter.unusedVariables false
set_option linter.unusedSimpArgs false
variable {R : Type} {P : Program}

/-! ### Operands -/

/-- A frame of which only an operation's operands are seen. -/
def seen (o : Oper) (tm : Nat → AV) : Nat → AV := fun t => br (memN (tmpsOf o.op.operands) t) (tm t) .undef

theorem seen_eval {o : Oper} {tm : Nat → AV} {x : Operand} (hx : x ∈ o.op.operands) : evalO (seen o tm) x = evalO tm x := by
  cases x with
  | tmp t =>
    have : memN (tmpsOf o.op.operands) t = true := by
      rw [memN_iff']
      unfold tmpsOf
      exact List.mem_filterMap.2 ⟨.tmp t, Array.mem_toList_iff.2 hx, rfl⟩
    show br (memN (tmpsOf o.op.operands) t) (tm t) .undef = tm t
    rw [this]; rfl
  | _ => rfl
where
  memN_iff' {l : List Nat} {a : Nat} : (memN l a = true) = (a ∈ l) := by
    apply propext
    unfold memN
    rw [List.any_eq_true]
    constructor
    · rintro ⟨x, hx, e⟩
      rw [Nat.eq_of_beq_eq_true e]; exact hx
    · intro h
      exact ⟨a, h, Nat.beq_refl a⟩

theorem aop_congr {E : FuncId → Option Entry} {inl : Inl R} {o : Oper} {ρ ρ' : Operand → AV} {H : Hp} {nb n : Nat} {κ : KO R} (h : ∀ x ∈ o.op.operands, ρ x = ρ' x) : aop P E inl o ρ H nb n κ = aop P E inl o ρ' H nb n κ := by
  obtain ⟨dst, op, ty, pos, aft, gd⟩ := o
  have hl : ∀ {as : Array Operand}, (∀ x ∈ as, ρ x = ρ' x) → as.toList.map ρ = as.toList.map ρ' := fun {as} ha => List.map_congr_left fun x hx => ha x (Array.mem_toList_iff.1 hx)
  have hp : ∀ {ps : Array (Nat × Operand)}, (∀ p ∈ ps.toList, ρ p.2 = ρ' p.2) → parts ρ ps = parts ρ' ps := fun {ps} ha => List.map_congr_left fun p hp => by rw [ha p hp]
  unfold aop
  cases op <;> simp only
  case move x => rw [h x (by simp [Op.operands])]
  case assign x => rw [h x (by simp [Op.operands])]
  case pick c a b => rw [h c (by simp [Op.operands]), h a (by simp [Op.operands]), h b (by simp [Op.operands])]
  case box e x => rw [h x (by simp [Op.operands])]
  case build t ps => rw [hp fun p hp' => h p.2 (by simp only [Op.operands]; rw [List.mem_toArray]; exact List.mem_map.2 ⟨p, hp', rfl⟩)]
  case buildSlice t l ps => rw [hp fun p hp' => h p.2 (by simp only [Op.operands]; rw [List.mem_toArray]; exact List.mem_map.2 ⟨p, hp', rfl⟩)]
  case load t a => rw [h a (by simp [Op.operands])]
  case store t a x => rw [h a (by simp [Op.operands]), h x (by simp [Op.operands])]
  case nilCheck x => rw [h x (by simp [Op.operands])]
  case binOp op t x y yt => rw [h x (by simp [Op.operands]), h y (by simp [Op.operands])]
  case unOp op t x => rw [h x (by simp [Op.operands])]
  case convert s d x => rw [h x (by simp [Op.operands])]
  case makeInterface t x => rw [h x (by simp [Op.operands])]
  case makeFunc f xs ys => rw [hl (as := xs) fun x hx => h x (by simp only [Op.operands, Array.mem_append]; exact .inl hx), hl (as := ys) fun x hx => h x (by simp only [Op.operands, Array.mem_append]; exact .inr hx)]
  case makeSlice t l c => rw [h l (by simp [Op.operands]), h c (by simp [Op.operands])]
  case slice t x lo hi mx =>
    have h0 := h x (by simp [Op.operands])
    have h1 : lo.map ρ = lo.map ρ' := by cases lo <;> first | rfl | exact congrArg some (h _ (by simp [Op.operands]))
    have h2 : hi.map ρ = hi.map ρ' := by cases hi <;> first | rfl | exact congrArg some (h _ (by simp [Op.operands]))
    have h3 : mx.map ρ = mx.map ρ' := by cases mx <;> first | rfl | exact congrArg some (h _ (by simp [Op.operands]))
    rw [h0, h1, h2, h3]
  case range t x => rw [h x (by simp [Op.operands])]
  case lookup t x ix ok => rw [h x (by simp [Op.operands]), h ix (by simp [Op.operands])]
  case mapUpdate t m k v => rw [h m (by simp [Op.operands]), h k (by simp [Op.operands]), h v (by simp [Op.operands])]
  case makeMap t res =>
    have h1 : res.map ρ = res.map ρ' := by cases res <;> first | rfl | exact congrArg some (h _ (by simp [Op.operands]))
    rw [h1]
  case next x s => rw [h x (by simp [Op.operands])]
  case fieldAddr t x f => rw [h x (by simp [Op.operands])]
  case field t x f => rw [h x (by simp [Op.operands])]
  case indexAddr t x ix => rw [h x (by simp [Op.operands]), h ix (by simp [Op.operands])]
  case index t x ix => rw [h x (by simp [Op.operands]), h ix (by simp [Op.operands])]
  case extract t i => rw [h t (by simp [Op.operands])]
  case typeAssert x xt t ok => rw [h x (by simp [Op.operands])]
  case call c =>
    obtain ⟨cal, args, ats⟩ := c
    cases cal <;> simp only
    case value f => rw [h f (by simp [Op.operands, Call.operands]), hl (as := args) fun x hx => h x (by simp only [Op.operands, Call.operands, Array.mem_append]; exact .inr hx)]
    case builtin b => rw [hl (as := args) fun x hx => h x (by simp only [Op.operands, Call.operands, Array.mem_append]; exact .inr hx)]

theorem aopT_congr {E : FuncId → Option Entry} {inl : Inl R} {thaw : Bool} {o : Oper} {ρ ρ' : Operand → AV} {H : Hp} {nb n : Nat} {κ : KO R} (h : ∀ x ∈ o.op.operands, ρ x = ρ' x) : aopT P E inl thaw o ρ H nb n κ = aopT P E inl thaw o ρ' H nb n κ := by
  unfold aopT
  rw [aop_congr h]
  cases hop : o.op <;> simp only
  case move x => rw [h x (by rw [hop]; simp [Op.operands])]
  case assign x => rw [h x (by rw [hop]; simp [Op.operands])]

/-! ### The state behind some of the operations -/

/-- What became of one operation. -/
structure Ev where
  v : AV
  own : Option (Nat × Blk)
  all : Option Hp
  d : List Nat
instance : Inhabited Ev := ⟨⟨.tup [], none, none, []⟩⟩

def Ev.eff (base j : Nat) (e : Ev) (H : Hp) : Hp :=
  match e.all with
  | some H' => H'
  | none => match e.own with
    | some p => upd H (base + p.1) p.2
    | none => H

section fold
variable (ops : List Oper) (es : List Ev) (base : Nat)

def dstAt (j : Nat) : Option Tmp := (ops[j]?).bind (·.dst)
def evAt (j : Nat) : Ev := (es[j]?).getD default

def tmD (tm0 : Nat → AV) (D : Nat → Bool) : Nat → (Nat → AV)
  | 0 => tm0
  | m + 1 => if D m then setDst (dstAt ops m) (tmD tm0 D m) (evAt es m).v else tmD tm0 D m
def hpD (hp0 : Hp) (D : Nat → Bool) : Nat → Hp
  | 0 => hp0
  | m + 1 => if D m then (evAt es m).eff base m (hpD hp0 D m) else hpD hp0 D m
def dD (d0 : List Nat) (D : Nat → Bool) : Nat → List Nat
  | 0 => d0
  | m + 1 => if D m then (evAt es m).d ++ dD d0 D m else dD d0 D m
end fold

variable {ops : List Oper} {es : List Ev} {base : Nat}

theorem setDst_ne {dst : Option Tmp} {tm : Nat → AV} {v : AV} {t : Nat} (h : dst ≠ some t) : setDst dst tm v t = tm t := by
  cases dst with
  | none => rfl
  | some d => exact upd_ne _ _ (fun e => h (by rw [e]))
theorem setDst_eq {tm : Nat → AV} {v : AV} {t : Nat} : setDst (some t) tm v t = v := upd_same _ _ _

theorem tmD_agree {tm0 : Nat → AV} {D D' : Nat → Bool} {t : Nat} : ∀ {m : Nat}, (∀ i, i < m → dstAt ops i = some t → D i = D' i) → tmD ops es tm0 D m t = tmD ops es tm0 D' m t
  | 0, _ => rfl
  | m + 1, h => by
    have ih := tmD_agree (tm0 := tm0) (D := D) (D' := D') (m := m) fun i hi => h i (by omega)
    simp only [tmD]
    by_cases hd : dstAt ops m = some t
    · rw [h m (by omega) hd]
      split
      · rw [hd, setDst_eq, setDst_eq]
      · exact ih
    · split <;> split <;> (try rw [setDst_ne hd]) <;> (try rw [setDst_ne hd]) <;> exact ih

/-- An effect at a place that it leaves alone, and that it looks at alone. -/
theorem eff_at {j : Nat} {e : Ev} {H H' : Hp} {b : Nat} (h : H b = H' b) : e.eff base j H b = e.eff base j H' b := by
  obtain ⟨v, own, all, d⟩ := e
  cases all with
  | some H0 => rfl
  | none =>
    cases own with
    | none => exact h
    | some x =>
      show upd H (base + x.1) x.2 b = upd H' (base + x.1) x.2 b
      by_cases hb : b = base + x.1
      · subst hb; rw [upd_same, upd_same]
      · rw [upd_ne _ _ hb, upd_ne _ _ hb]; exact h

theorem hpD_agree {hp0 : Hp} {D D' : Nat → Bool} {b : Nat} : ∀ {m : Nat}, (∀ i, i < m → (∀ H, (evAt es i).eff base i H b = H b) ∨ D i = D' i) → hpD es base hp0 D m b = hpD es base hp0 D' m b
  | 0, _ => rfl
  | m + 1, h => by
    have ih := hpD_agree (hp0 := hp0) (D := D) (D' := D') (m := m) fun i hi => h i (by omega)
    simp only [hpD]
    rcases h m (by omega) with h1 | h1
    · split <;> split <;> (try rw [h1]) <;> (try rw [h1]) <;> exact ih
    · rw [h1]
      split
      · exact eff_at ih
      · exact ih

theorem dD_mem {d0 : List Nat} {D : Nat → Bool} {b : Nat} : ∀ {m : Nat}, b ∈ dD es d0 D m ↔ b ∈ d0 ∨ ∃ i, i < m ∧ D i = true ∧ b ∈ (evAt es i).d
  | 0 => by simp [dD]
  | m + 1 => by
    have ih := dD_mem (d0 := d0) (D := D) (b := b) (m := m)
    simp only [dD]
    by_cases hD : D m = true
    · rw [if_pos hD, List.mem_append, ih]
      constructor
      · rintro (h | h | ⟨i, h1, h2, h3⟩)
        · exact .inr ⟨m, by omega, hD, h⟩
        · exact .inl h
        · exact .inr ⟨i, by omega, h2, h3⟩
      · rintro (h | ⟨i, h1, h2, h3⟩)
        · exact .inr (.inl h)
        · by_cases e : i = m
          · subst e; exact .inl h3
          · exact .inr (.inr ⟨i, by omega, h2, h3⟩)
    · rw [if_neg hD, ih]
      constructor
      · rintro (h | ⟨i, h1, h2, h3⟩)
        · exact .inl h
        · exact .inr ⟨i, by omega, h2, h3⟩
      · rintro (h | ⟨i, h1, h2, h3⟩)
        · exact .inl h
        · by_cases e : i = m
          · subst e; exact absurd h2 hD
          · exact .inr ⟨i, by omega, h2, h3⟩

theorem hide_spec {H : Hp} {m : Nat} : ∀ {k b : Nat}, hideFor H base m k b = .gone ∨ (hideFor H base m k b = H b ∧ ∀ i, i < k → b = base + i → m.testBit i = true)
  | 0, b => .inr ⟨rfl, fun i h => by omega⟩
  | k + 1, b => by
    have ih := hide_spec (H := H) (m := m) (k := k) (b := b)
    simp only [hideFor]
    cases hb : m.testBit k with
    | true =>
      rcases ih with ih | ⟨ih1, ih2⟩
      · exact .inl ih
      · refine .inr ⟨ih1, fun i hi e => ?_⟩
        by_cases hik : i = k
        · subst hik; exact hb
        · exact ih2 i (by omega) e
    | false =>
      show upd (hideFor H base m k) (base + k) .gone b = .gone ∨ _
      by_cases e : b = base + k
      · subst e; exact .inl (upd_same _ _ _)
      · rw [show br false (hideFor H base m k) (upd (hideFor H base m k) (base + k) .gone) b = upd (hideFor H base m k) (base + k) .gone b from rfl, upd_ne _ _ e]
        rcases ih with ih | ⟨ih1, ih2⟩
        · exact .inl ih
        · refine .inr ⟨ih1, fun i hi e' => ?_⟩
          by_cases hik : i = k
          · subst hik; exact absurd e' e
          · exact ih2 i (by omega) e'

/-- Less is seen. -/
theorem HRel.less {g : Gh} {H H' : Hp} {w : World} (hr : HRel g H w) (h : ∀ b, H' b = .gone ∨ H' b = H b) : HRel g H' w := by
  refine ⟨fun b => ?_, fun b hb => ?_, hr.inj, hr.disj, hr.ex⟩
  · rcases h b with e | e <;> rw [e]
    · exact trivial
    · exact hr.blk b
  · rcases h b with e | e
    · exact (hb e).elim
    · rw [e]; exact hr.kd b (fun e' => hb (by rw [e, e']))
end Go.VI
