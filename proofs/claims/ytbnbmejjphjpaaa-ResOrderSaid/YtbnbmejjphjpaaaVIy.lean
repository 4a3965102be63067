/- What printed texts lean on: tables of contracts, of loops, and a loop's rounds. -/
import Derived.Test.YtbnbmejjphjpaaaVIw
import Derived.Test.YtbnbmejjphjpaaaVIs
import Derived.Test.YtbnbmejjphjpaaaVIx
namespace Go.VI
set_option linter.unusedVariables false
variable {P : Program}

theorem e_none : ∀ (f : FuncId) (e : Entry), (none : Option Entry) = some e → Holds P f e := fun _ _ h => by cases h
theorem e_br {m : Nat} {e0 : Entry} {rest : FuncId → Option Entry} (h : Holds P m e0) (hr : ∀ f e, rest f = some e → Holds P f e) :
    ∀ f e, br (Nat.beq f m) (some e0) (rest f) = some e → Holds P f e := fun f e he => by
  rcases br_some he with ⟨h1, h2⟩ | ⟨_, h2⟩
  · cases Nat.eq_of_beq_eq_true h1
    cases h2; exact h
  · exact hr f e h2

theorem lh_none {R : Type} {c : Code} : ∀ (i : Nat) (b : Code) (le : LoopEntry R), loopAt c i = some b → (none : Option (LoopEntry R)) = some le → LoopOk P b le := fun _ _ _ _ h => by cases h
theorem lh_en {R : Type} {c : Code} {m : Nat} {e : LoopEntry R} {rest : Nat → Option (LoopEntry R)} (he : LoopOk P ((loopAt c m).getD .skip) e) (hr : ∀ i b le, loopAt c i = some b → rest i = some le → LoopOk P b le) :
    ∀ i b le, loopAt c i = some b → br (Nat.beq i m) (some e) (rest i) = some le → LoopOk P b le := fun i b le hb hl => by
  rcases br_some hl with ⟨h1, h2⟩ | ⟨_, h2⟩
  · cases Nat.eq_of_beq_eq_true h1
    cases h2
    rw [hb] at he; exact he
  · exact hr i b le hb h2
theorem lh_un {R : Type} {c : Code} {m n : Nat} {rest : Nat → Option (LoopEntry R)} (hr : ∀ i b le, loopAt c i = some b → rest i = some le → LoopOk P b le) :
    ∀ i b le, loopAt c i = some b → br (Nat.beq i m) (some (.unroll n)) (rest i) = some le → LoopOk P b le := lh_en (e := .unroll n) trivial hr

/-- Loops of functions that are walked into, laid out. -/
def unrollTab {R : Type} : List (Nat × Nat × Nat) → FuncId → Nat → Option (LoopEntry R)
  | [], _, _ => none
  | (f, i, n) :: l, g, j => br ((Nat.beq g f).and (Nat.beq j i)) (some (.unroll n)) (unrollTab l g j)
theorem unrollTab_is {R : Type} : ∀ {l : List (Nat × Nat × Nat)} {f i : Nat} {le : LoopEntry R}, unrollTab l f i = some le → ∃ n, le = .unroll n
  | [], _, _, _, h => by cases h
  | (f, i, n) :: l, g, j, le, h => by
    rcases br_some (show br ((Nat.beq g f).and (Nat.beq j i)) (some (.unroll n)) (unrollTab l g j) = some le from h) with ⟨_, h⟩ | ⟨_, h⟩
    · cases h; exact ⟨n, rfl⟩
    · exact unrollTab_is h
theorem loopsOk_un {R : Type} {LH : Nat → Option (LoopEntry R)} (h : ∀ i le, LH i = some le → ∃ n, le = .unroll n) : ∀ c : Code, LoopsOk P LH c
  | .seq a b => ⟨loopsOk_un h a, loopsOk_un h b⟩
  | .cond _ a b => ⟨loopsOk_un h a, loopsOk_un h b⟩
  | .block _ c => loopsOk_un h c
  | .loop c => ⟨fun le hl => by obtain ⟨n, rfl⟩ := h _ _ hl; exact trivial, loopsOk_un h c⟩
  | .skip => trivial
  | .region _ _ _ => trivial
  | .rangeFunc _ _ _ _ => trivial
  | .exit _ => trivial
  | .scope _ => trivial
  | .label _ => trivial
  | .goto _ => trivial
  | .ret => trivial
  | .refuse _ => trivial
theorem loopsOk_tab {R : Type} {l : List (Nat × Nat × Nat)} {f : Nat} (c : Code) : LoopsOk (R := R) P (unrollTab l f) c := loopsOk_un (fun _ _ h => unrollTab_is h) c
theorem loopsOk_none {R : Type} (c : Code) : LoopsOk (R := R) P (fun _ => none) c := loopsOk_un (fun _ _ h => by cases h) c

theorem run_eq {A B : Type} {r l : Nat → A → Option B} (s : (A → Option B) → A → Option B) (r0 : ∀ x, r 0 x = none) (rs : ∀ m x, r (m + 1) x = s (r m) x) (l0 : ∀ x, l 0 x = none) (ls : ∀ m x, l (m + 1) x = s (l m) x) : r = l := by
  funext m
  induction m with
  | zero => funext x; rw [r0, l0]
  | succ m ih => funext x; rw [rs, ls, ih]
end Go.VI
