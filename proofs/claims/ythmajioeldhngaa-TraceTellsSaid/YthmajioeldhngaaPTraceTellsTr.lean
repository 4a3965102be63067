/- TraceTells: what the law computes is true. -/
import Derived.Test.YthmajioeldhngaaTrcVTr
import Derived.Test.YthmajioeldhngaaPTraceAheadTr
namespace Go.Proofs.Ythmajioeldhngaa.Tr
open Go Go.VI
set_option linter.unusedVariables false
set_option linter.unusedSimpArgs false
set_option maxRecDepth 100000

theorem pureTraceTells (x : List Ev × ByteArray × Unit) (hw : Ty.wf (.slice tyEv) x.1 ∧ Ty.wf .str x.2.1 ∧ True) : ∃ N, G_law32_TraceTells N x = some (true, ()) := by
  obtain ⟨l, g, ⟨⟩⟩ := x
  obtain ⟨l1, l2⟩ := okEv_of hw.1
  clear hw
  refine ⟨281474976710656 + 300, ?_⟩
  have hk := known_is 281474976710656
  have hN := big
  generalize 281474976710656 + 300 = N at *
  have hN' := hN
  unfold Big at hN'
  have hw : ∀ s, okS s → G_lex_Word N (s, ()) = some (wordB N s, ()) := fun s hs => lex_Word_is hN hs
  have hv : ∀ s, okS s → G_ref01_Word N (s, ()) = some (wordB N s, ()) := fun s hs => ref01_Word_is hN hs
  generalize wordB N = w at hw hv
  obtain ⟨⟨b1, ⟨⟩⟩, e1, k1⟩ := law32_light_tot N hN l1
  unfold G_law32_TraceTells S_law32_TraceTells
  simp only [e1, hk, Option.bind_some]
  cases b1
  · rfl
  have hl : l.length ≤ 60 := (k1 rfl).1
  have hs : ∀ e ∈ l, smallE e := (k1 rfl).2
  simp only [Bool.not_true, br_false]
  by_cases hz : (300 : Int) < ((g.size : Nat) : Int)
  · rw [decide_eq_true hz]; rfl
  rw [decide_eq_false hz, br_false]
  simp only [law32_given_is N hN (l := l) (by omega), Option.bind_some]
  have loop : ∀ m (i : Nat) x, i ≤ l.length → x = ((l, g, l, (i : Int), ()), ()) → l.length - i < m → Tot (g_law32_TraceTells_5 N m x) fun o => (∃ y, o = .inl ((l, g, l, ()), y)) ∨ ∃ y, o = .inr ((true, ()), y) := by
    refine Tot.range l.length fun m i x hx hi rec => ?_
    subst hx
    rw [g_law32_TraceTells_5_succ]
    unfold s_law32_TraceTells_5
    by_cases hlt : i < l.length
    · have d0 : decide ((0 : Int) ≤ (i : Int)) = true := decide_eq_true (by omega)
      have d1 : decide ((i : Int) < ((l.length : Nat) : Int)) = true := decide_eq_true (by omega)
      have hm := l2 _ (List.getElem_mem hlt)
      simp only [d0, d1, br_true, Int.toNat_natCast, at_lt hlt, Option.bind_some, wi (i := i) (by omega), trace_Right_is N hN w hw hm, ref32_Right_is N hN w hv hm, bEq_beq, beq_self_eq_true, Bool.not_true, br_false, hk]
      refine Tot.br (fun _ => Tot.some (.inr ⟨_, rfl⟩)) fun _ => ?_
      refine Tot.br (fun _ => Tot.some (.inr ⟨_, rfl⟩)) fun _ => ?_
      exact rec (i + 1) _ (by omega) (by omega) rfl
    · have d1 : decide ((i : Int) < ((l.length : Nat) : Int)) = false := decide_eq_false (by omega)
      simp only [d1, br_false]
      exact Tot.some (.inl ⟨_, rfl⟩)
  obtain ⟨o, e, ho⟩ := loop N 0 _ (by omega) rfl (by omega)
  have e : g_law32_TraceTells_5 N N ((l, g, l, 0, ()), ()) = _ := e
  simp only [e, Option.bind_some]
  rcases ho with ⟨y, rfl⟩ | ⟨y, rfl⟩
  · simp only [Sum.elim_inl, trace_Show_is N hN w hw hl hs, ref32_Show_is N hN w hv hl hs, trace_Calls_is N hN (l := l) (by omega), ref32_Calls_is N hN (l := l) (by omega), trace_Check_is N hN w hw (l := l) (by omega) l2,
      ref32_Check_is N hN w hv (l := l) (by omega) l2, trace_Added_is N hN (l := l) (by omega), ref32_Added_is N hN (l := l) (by omega), Option.bind_some, decide_true, br_true, hk]
  · rfl
end Go.Proofs.Ythmajioeldhngaa.Tr
