/- What printed texts lean on: tables of contracts, of loops, and a loop's rounds. -/
import Derived.Test.YtfifgcaielmbiaaVIw
import Derived.Test.YtfifgcaielmbiaaVIs
import Derived.Test.YtfifgcaielmbiaaVIx
namespace Go.VI
set_option linter.unusedVariables false
variable {P : Program}

theorem e_none : ∀ (f : FuncId) (e : Entry), (none : Option Entry) = some e → Holds P f e := fun _ _ h => by cases h
theorem e_br {m : Nat} {e0 : Entry} {rest : FuncId → Option Entry} (h : Holds P m e0) (hr : ∀ f e, rest f = some e → Holds P f e) :
    ∀ f e, br (Nat.beq f m) (some e0) (rest f) = some e → Holds P f e := fun f e he => by
  rcases br_some he with ⟨h1, h2⟩ | ⟨_, h2⟩
  · cases Nat.eq_of_beq_eq_true h1
    cases h2; exact h
  · exact hr f e h2

theorem lh_none {R : Type} {c : Code} : ∀ (i : Nat) (b : Code) (le : LoopEntry R), loopAt c i = some b → (none : Option (LoopEntry R)) = some le → LoopOk P b le := fun _ _ _ _ h => by cases h
theorem lh_en {R : Type} {c : Code} {m : Nat} {e : LoopEntry R} {rest : Nat → Option (LoopEntry R)} (he : LoopOk P ((loopAt c m).getD .skip) e) (hr : ∀ i b le, loopAt c i = some b → rest i = some le → LoopOk P b le) :
    ∀ i b le, loopAt c i = some b → br (Nat.beq i m) (some e) (rest i) = some le → LoopOk P b le := fun i b le hb hl => by
  rcases br_some hl with ⟨h1, h2⟩ | ⟨_, h2⟩
  · cases Nat.eq_of_beq_eq_true h1
    cases h2
    rw [hb] at he; exact he
  · exact hr i b le hb h2
theorem lh_un {R : Type} {c : Code} {m n : Nat} {rest : Nat → Option (LoopEntry R)} (hr : ∀ i b le, loopAt c i = some b → rest i = some le → LoopOk P b le) :
    ∀ i b le, loopAt c i = some b → br (Nat.beq i m) (some (.unroll n)) (rest i) = some le → LoopOk P b le := lh_en (e := .unroll n) trivial hr

/-- Loops of functions that are walked into, laid out. -/
def unrollTab {R : Type} : List (Nat × Nat × Nat) → FuncId → Nat → Option (LoopEntry R)
  | [], _, _ => none
  | (f, i, n) :: l, g, j => br ((Nat.beq g f).and (Nat.beq j i)) (some (.unroll n)) (unrollTab l g j)
theorem unrollTab_is {R : Type} : ∀ {l : List (Nat × Nat × Nat)} {f i : Nat} {le : LoopEntry R}, unrollTab l f i = some le → ∃ n, le = .unroll n
  | [], _, _, _, h => by cases h
  | (f, i, n) :: l, g, j, le, h => by
    rcases br_some (show br ((Nat.beq g f).and (Nat.beq j i)) (some (.unroll n)) (unrollTab l g j) = some le from h) with ⟨_, h⟩ | ⟨_, h⟩
    · cases h; exact ⟨n, rfl⟩
    · exact unrollTab_is h
theorem loopsOk_un {R : Type} {LH : Nat → Option (LoopEntry R)} (h : ∀ i le, LH i = some le → ∃ n, le = .unroll n) : ∀ c : Code, LoopsOk P LH c
  | .seq a b => ⟨loopsOk_un h a, loopsOk_un h b⟩
  | .cond _ a b => ⟨loopsOk_un h a, loopsOk_un h b⟩
  | .block _ c => loopsOk_un h c
  | .loop c => ⟨fun le hl => by obtain ⟨n, rfl⟩ := h _ _ hl; exact trivial, loopsOk_un h c⟩
  | .skip => trivial
  | .region _ _ _ => trivial
  | .rangeFunc _ _ _ _ => trivial
  | .exit _ => trivial
  | .scope _ => trivial
  | .label _ => trivial
  | .goto _ => trivial
  | .ret => trivial
  | .refuse _ => trivial
theorem loopsOk_tab {R : Type} {l : List (Nat × Nat × Nat)} {f : Nat} (c : Code) : LoopsOk (R := R) P (unrollTab l f) c := loopsOk_un (fun _ _ h => unrollTab_is h) c
theorem loopsOk_none {R : Type} (c : Code) : LoopsOk (R := R) P (fun _ => none) c := loopsOk_un (fun _ _ h => by cases h) c

theorem run_eq {A B : Type} {r l : Nat → A → Option B} (s : (A → Option B) → A → Option B) (r0 : ∀ x, r 0 x = none) (rs : ∀ m x, r (m + 1) x = s (r m) x) (l0 : ∀ x, l 0 x = none) (ls : ∀ m x, l (m + 1) x = s (l m) x) : r = l := by
  funext m
  induction m with
  | zero => funext x; rw [r0, l0]
  | succ m ih => funext x; rw [rs, ls, ih]

def LoopEntry.fn {R : Type} : LoopEntry R → St → KC R → Option R
  | .run f => f
  | .unroll _ => fun _ _ => none
def hasL {R : Type} (l : List (Nat × Nat × Nat × LoopEntry R)) (g j : Nat) : Bool := l.any fun x => (Nat.beq g x.1).and (Nat.beq j x.2.1)
def goL {R : Type} : List (Nat × Nat × Nat × LoopEntry R) → Nat → Nat → St → KC R → Option R
  | [], _, _, _, _ => none
  | x :: l, g, j, st, κ => br ((Nat.beq g x.1).and ((Nat.beq j x.2.1).and (Nat.beq st.n x.2.2.1))) (x.2.2.2.fn st κ) (goL l g j st κ)
/-- Loops of functions that are walked into: by function, loop, and number at the head; or laid out. -/
def loopTab {R : Type} (l : List (Nat × Nat × Nat × LoopEntry R)) (u : List (Nat × Nat × Nat)) : FuncId → Nat → Option (LoopEntry R) := fun g j => br (hasL l g j) (some (.run (goL l g j))) (unrollTab u g j)
/-- Is a loop's entry right in its function? -/
def TabOk (P : Program) {R : Type} (x : Nat × Nat × Nat × LoopEntry R) : Prop := ∃ fn c, P.funcs[x.1]? = some fn ∧ fn.body = some c ∧ noDup (loopIds c) = true ∧ LoopOk P ((loopAt c x.2.1).getD .skip) x.2.2.2
def TabsOk (P : Program) {R : Type} : List (Nat × Nat × Nat × LoopEntry R) → Prop
  | [] => True
  | x :: l => TabOk P x ∧ TabsOk P l
theorem goL_ok {R : Type} {g j : Nat} {fn : Func} {c b : Code} (hf : P.funcs[g]? = some fn) (hc : fn.body = some c) (hb : loopAt c j = some b) : ∀ {l : List (Nat × Nat × Nat × LoopEntry R)}, TabsOk P l → RoundOk P b (goL l g j)
  | [], _ => fun st κ r h => by cases h
  | x :: l, h => fun st κ r hr => by
    rcases br_some (show br ((Nat.beq g x.1).and ((Nat.beq j x.2.1).and (Nat.beq st.n x.2.2.1))) (x.2.2.2.fn st κ) (goL l g j st κ) = some r from hr) with ⟨h1, h2⟩ | ⟨_, h2⟩
    · obtain ⟨e1, e2⟩ := and_spec h1
      obtain ⟨e2, _⟩ := and_spec e2
      have e1 := Nat.eq_of_beq_eq_true e1
      have e2 := Nat.eq_of_beq_eq_true e2
      obtain ⟨fn', c', f1, f2, _, f4⟩ := h.1
      rw [← e1, hf] at f1
      cases f1
      rw [hc] at f2
      cases f2
      rw [← e2, hb] at f4
      cases hx : x.2.2.2 with
      | unroll n => rw [hx] at h2; cases h2
      | run f => rw [hx] at h2 f4; exact f4 st κ r h2
    · exact goL_ok hf hc hb h.2 st κ r h2
theorem loopTab_ok {R : Type} {l : List (Nat × Nat × Nat × LoopEntry R)} {u : List (Nat × Nat × Nat)} (hl : TabsOk P l) {g : Nat} {fn : Func} {c : Code} (hf : P.funcs[g]? = some fn) (hc : fn.body = some c) : LoopsOk P (loopTab l u g) c := by
  by_cases hg : ∃ x ∈ l, x.1 = g
  · obtain ⟨x, hx, rfl⟩ := hg
    have : TabOk P x := by
      clear hf hc
      induction l with
      | nil => cases hx
      | cons y l ih =>
        rcases List.mem_cons.1 hx with rfl | hx
        · exact hl.1
        · exact ih hl.2 hx
    obtain ⟨fn', c', f1, f2, f3, _⟩ := this
    rw [hf] at f1; cases f1
    rw [hc] at f2; cases f2
    refine loopsOk_of f3 fun i b le hb h => ?_
    rcases br_some (show br (hasL l x.1 i) (some (.run (goL l x.1 i))) (unrollTab u x.1 i) = some le from h) with ⟨_, h⟩ | ⟨_, h⟩
    · cases h; exact goL_ok hf hc hb hl
    · obtain ⟨n, rfl⟩ := unrollTab_is h; trivial
  · refine loopsOk_un (fun i le h => ?_) c
    rcases br_some (show br (hasL l g i) (some (.run (goL l g i))) (unrollTab u g i) = some le from h) with ⟨h1, _⟩ | ⟨_, h⟩
    · obtain ⟨x, hx, hy⟩ := List.any_eq_true.1 h1
      exact absurd ⟨x, hx, (Nat.eq_of_beq_eq_true (and_spec hy).1).symm⟩ hg
    · exact unrollTab_is h
theorem loopsOk_sub {R : Type} {LH : Nat → Option (LoopEntry R)} : ∀ {c b : Code} {i : Nat}, LoopsOk P LH c → loopAt c i = some b → LoopsOk P LH b
  | .seq x y, b, i, h, hb => by
    simp only [loopAt] at hb
    split at hb
    · rename_i c hc; cases hb; exact loopsOk_sub h.1 hc
    · exact loopsOk_sub h.2 hb
  | .cond _ x y, b, i, h, hb => by
    simp only [loopAt] at hb
    split at hb
    · rename_i c hc; cases hb; exact loopsOk_sub h.1 hc
    · exact loopsOk_sub h.2 hb
  | .block _ c, b, i, h, hb => loopsOk_sub (c := c) h hb
  | .loop c, b, i, h, hb => by
    rcases br_some (show br (Nat.beq (firstR c) i) (some c) (loopAt c i) = some b from hb) with ⟨_, hb⟩ | ⟨_, hb⟩
    · cases hb; exact h.2
    · exact loopsOk_sub h.2 hb
  | .skip, _, _, _, hb => by cases hb
  | .region _ _ _, _, _, _, hb => by cases hb
  | .rangeFunc _ _ _ _, _, _, _, hb => by cases hb
  | .exit _, _, _, _, hb => by cases hb
  | .scope _, _, _, _, hb => by cases hb
  | .label _, _, _, _, hb => by cases hb
  | .goto _, _, _, _, hb => by cases hb
  | .ret, _, _, _, hb => by cases hb
  | .refuse _, _, _, _, hb => by cases hb
theorem loopsOk_getD {R : Type} {LH : Nat → Option (LoopEntry R)} {c : Code} {i : Nat} (h : LoopsOk P LH c) : LoopsOk P LH ((loopAt c i).getD .skip) := by
  cases hb : loopAt c i with
  | none => trivial
  | some b => exact loopsOk_sub h hb
theorem tabs_nil {R : Type} : TabsOk (R := R) P [] := trivial
theorem tabs_cons {R : Type} {x : Nat × Nat × Nat × LoopEntry R} {l : List (Nat × Nat × Nat × LoopEntry R)} (h : TabOk P x) (h' : TabsOk P l) : TabsOk P (x :: l) := ⟨h, h'⟩
theorem tab_ok {R : Type} {e : LoopEntry R} (f i n : Nat) (fn : Func) (c : Code) (hf : P.funcs[f]? = some fn) (hc : fn.body = some c) (hn : noDup (loopIds c) = true) (hk : LoopOk P ((loopAt c i).getD .skip) e) : TabOk P (f, i, n, e) := ⟨fn, c, hf, hc, hn, hk⟩
end Go.VI
