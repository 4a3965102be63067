/- Walked-in calls whose answer is told as typed data: one way behind the call, whatever ways are inside. -/
import Derived.Test.YtfifgcaielmbiaaVIr
namespace Go.VI
set_option linter.unusedVariables false
set_option linter.unusedSimpArgs false
variable {P : Program}

/-- Calls that are walked into, d deep; those of J are told by their answer alone. -/
noncomputable def inlJ (P : Program) (E : FuncId → Option Entry) (HN : FuncId → Hints) (HL : (R : Type) → FuncId → Nat → Option (LoopEntry R)) (J : FuncId → Option (List Ty)) : Nat → (R : Type) → Inl R
  | 0, R => fun _ _ _ _ _ => none
  | d + 1, R => fun f args hp n κ => match P.funcs[f]? with
    | some fn => match J f with
      | some rs => (funO P E (inlJ P E HN HL J d (Tup rs)) (HN f) (HL (Tup rs) f) fn args hp n (fun v _ _ ds => br (ds.all (Nat.ble n)) (decRes rs v) none)).bind fun x => κ (resVal (encVals rs x)) hp n []
      | none => funO P E (inlJ P E HN HL J d R) (HN f) (HL R f) fn args hp n κ
    | none => none

theorem inlJ_ok {E : FuncId → Option Entry} (hm : P.follows .mixedOrders = true) (hE : ∀ f e, E f = some e → Holds P f e) {HN : FuncId → Hints} {HL : (R : Type) → FuncId → Nat → Option (LoopEntry R)} {J : FuncId → Option (List Ty)}
    (hL : ∀ R f fn c, P.funcs[f]? = some fn → fn.body = some c → LoopsOk P (HL R f) c) : ∀ d R, InlOk P (inlJ P E HN HL J d R)
  | 0, R => fun f as H n κ r h => by cases h
  | d + 1, R => fun f as H n κ r h => by
    simp only [inlJ] at h
    split at h
    case h_2 => cases h
    rename_i fn hf
    split at h
    · rename_i rs hJ
      obtain ⟨x, hx, hk⟩ := Option.bind_eq_some_iff.1 h
      obtain ⟨v, H', n', D, hk0, hle, hc⟩ := funO_sound hm hE (inlJ_ok hm hE hL d (Tup rs)) hf (fun c hc => hL _ f fn c hf hc) hx
      obtain ⟨hD, hdec⟩ := br_none hk0
      have hD : ∀ b ∈ D, n ≤ b := fun b hb => Nat.le_of_ble_eq_true (List.all_eq_true.1 hD b hb)
      refine ⟨_, H, n, [], hk, Nat.le_refl _, fun g w us hr hrel hn => (hc g w us hr hrel hn).mono fun en w' ⟨u, hu, g', hw⟩ => ?_⟩
      have hDn : ∀ b ∈ D, g.G b = .none := fun b hb => hn b (hD b hb)
      have ext : Ext g H w [] ⟨g'.F, g.i, g.G⟩ H w' := by
        refine ⟨hw.ext.mono, fun r hr' => ?_, hw.ext.size, fun r hlt _ => hw.ext.frame r hlt fun b hb hne => absurd (hDn b hb) hne, (fun b hb => by cases hb), fun b _ _ => ⟨rfl, rfl, rfl⟩, (fun b hb => by cases hb), (fun b hb => by cases hb), fun b r c h1 h2 _ => absurd h1 h2, hw.ext.env⟩
        rcases hw.ext.more r hr' with h | ⟨b, hb, hne, _⟩ | h
        · exact .inl h
        · exact absurd (hDn b hb) hne
        · exact .inr (.inr h)
      have same : ∀ b, g.G b ≠ .none → g'.G b = g.G b ∧ g'.i b = g.i b := fun b hb => by
        obtain ⟨h1, h2, _⟩ := hw.ext.same b hb fun hb' => hb (hDn b hb')
        exact ⟨h1, h2⟩
      have rel : HRel ⟨g'.F, g.i, g.G⟩ H w' := by
        refine ⟨fun b => ?_, hr.kd, hr.inj, fun b r c hi h1 h2 => ?_, hw.rel.ex⟩
        · by_cases hb : H b = .gone
          · rw [hb]; trivial
          · exact RelB.step ext hr hb (by simp)
        · obtain ⟨e1, e2⟩ := same b h1
          exact hw.rel.disj b r c (e2.trans hi) (by rw [e1]; exact h1) (by rw [e1]; exact h2)
      obtain ⟨vs, rfl, hvs⟩ := decRes_sound hdec hw.val
      exact ⟨_, hu, _, ext, rel, resVal_sound (encArgs_rel (g := ⟨g'.F, g.i, g.G⟩) rfl hvs), fun b h1 h2 => absurd h1 h2⟩
    · exact funO_sound hm hE (inlJ_ok hm hE hL d R) hf (fun c hc => hL R f fn c hf hc) h
end Go.VI
