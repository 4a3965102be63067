/- Ledger: whether ticks are light is told; what New's groups are. -/
import Derived.Test.YtiiiipdnodgkmaaLdgSLt
import Derived.Test.YtiiiipdnodgkmaaGrpLLt
import Derived.Test.YtiiiipdnodgkmaaGrpPLt
import Derived.Test.YtiiiipdnodgkmaaGrpFLt
namespace Go.Proofs.Ytiiiipdnodgkmaa.Lt
open Go Go.VI
set_option linter.unusedVariables false
set_option linter.unusedSimpArgs false
set_option maxRecDepth 100000

def okLl (l : List (List LInst)) : Prop := l.length ≤ 140737488355328 ∧ ∀ x ∈ l, x.length ≤ 140737488355328
theorem law35_light_tot (N : Nat) (hN : Big N) {l : List (List LInst)} (hl : okLl l) : Tot (G_law35_light N (l, ())) fun v => v.1 = true → l.length ≤ 30 ∧ ∀ x ∈ l, x.length ≤ 60 := by
  unfold Big at hN
  have hl1 := hl.1
  have inner : ∀ (i : Nat) (hi : i < l.length), Tot (g_law35_light_9 N N ((l, (i : Int), 0, ()), ())) fun o => (∃ u, o = .inr ((false, ()), u)) ∨ o = .inl ((l, (i : Int), ()), ()) := by
    intro i hi
    have h2 := hl.2 _ (List.getElem_mem hi)
    have d0 : decide ((0 : Int) ≤ (i : Int)) = true := decide_eq_true (by omega)
    have loop : ∀ m (j : Nat) x, j ≤ l[i].length → x = ((l, (i : Int), (j : Int), ()), ()) → l[i].length - j < m → Tot (g_law35_light_9 N m x) fun o => (∃ u, o = .inr ((false, ()), u)) ∨ o = .inl ((l, (i : Int), ()), ()) := by
      refine Tot.range l[i].length fun m j x ha hj rec => ?_
      subst ha
      rw [g_law35_light_9_succ]
      unfold s_law35_light_9
      simp only [d0, br_true, Int.toNat_natCast, at_lt hi, Option.bind_some]
      by_cases hlt : j < l[i].length
      · have d1 : decide ((j : Int) < ((l[i].length : Nat) : Int)) = true := decide_eq_true (by omega)
        have d2 : decide ((0 : Int) ≤ (j : Int)) = true := decide_eq_true (by omega)
        simp only [d1, d2, br_true, Int.toNat_natCast, at_lt hlt, Option.bind_some, wi (i := j) (by omega)]
        refine Tot.br (fun _ => Tot.some (.inl ⟨_, rfl⟩)) fun _ => Tot.br (fun _ => Tot.some (.inl ⟨_, rfl⟩)) fun _ => ?_
        exact rec (j + 1) _ (by omega) (by omega) rfl
      · have d1 : decide ((j : Int) < ((l[i].length : Nat) : Int)) = false := decide_eq_false (by omega)
        simp only [d1, br_false]
        exact Tot.some (.inr rfl)
    exact loop N 0 _ (by omega) rfl (by omega)
  have loop : ∀ m (i : Nat) x, i ≤ l.length → (x = ((l, (i : Int), ()), ()) ∧ ∀ y ∈ l.take i, y.length ≤ 60) → l.length - i < m → Tot (g_law35_light_4 N m x) fun o => (∃ u, o = .inr ((false, ()), u)) ∨ (o = .inl ((), ()) ∧ ∀ y ∈ l, y.length ≤ 60) := by
    refine Tot.range l.length fun m i x ha hi rec => ?_
    obtain ⟨rfl, hy⟩ := ha
    rw [g_law35_light_4_succ]
    unfold s_law35_light_4
    by_cases hlt : i < l.length
    · have d0 : decide ((0 : Int) ≤ (i : Int)) = true := decide_eq_true (by omega)
      have d1 : decide ((i : Int) < ((l.length : Nat) : Int)) = true := decide_eq_true (by omega)
      simp only [d0, d1, br_true, Int.toNat_natCast, at_lt hlt, Option.bind_some]
      refine Tot.brD (fun _ => Tot.some (.inl ⟨_, rfl⟩)) fun hc => ?_
      refine Tot.bind (inner i hlt) fun o ho => ?_
      rcases ho with ⟨u, rfl⟩ | rfl
      · exact Tot.some (.inl ⟨_, rfl⟩)
      · simp only [Sum.elim_inl, wi (i := i) (by omega)]
        refine rec (i + 1) _ (by omega) (by omega) ⟨rfl, fun y h => ?_⟩
        rw [List.take_add_one, at_lt hlt, List.mem_append] at h
        rcases h with h | h
        · exact hy y h
        · simp only [Option.toList_some, List.mem_singleton] at h
          rw [h]; omega
    · have d1 : decide ((i : Int) < ((l.length : Nat) : Int)) = false := decide_eq_false (by omega)
      simp only [d1, br_false]
      rw [List.take_of_length_le (by omega)] at hy
      exact Tot.some (.inr ⟨rfl, hy⟩)
  unfold G_law35_light S_law35_light
  refine Tot.brD (fun _ => Tot.some fun h => by cases h) fun hc => ?_
  refine Tot.bind (loop N 0 _ (by omega) ⟨rfl, fun y h => by simp at h⟩ (by have := hl.1; omega)) fun o ho => ?_
  rcases ho with ⟨u, rfl⟩ | ⟨rfl, h⟩
  · exact Tot.some fun h => by cases h
  · exact Tot.some fun _ => ⟨by have hc : ¬ (30 : Int) < ((l.length : Nat) : Int) := hc; omega, h⟩

theorem prices {N : Nat} {l : List Grp} (h : rightGs N l = true) : l.length ≤ 16 ∧ ∀ g ∈ l, 0 ≤ g.2.2.2.2.1 ∧ g.2.2.2.2.1 ≤ LTop := by
  unfold rightGs at h
  rw [Bool.and_eq_true] at h
  refine ⟨of_decide_eq_true h.1, fun g hg => ?_⟩
  obtain ⟨i, hi⟩ := List.getElem?_of_mem hg
  have hlt := (List.getElem?_eq_some_iff.1 hi).1
  have := allN_iff.1 h.2 i (by omega) (by omega)
  unfold okGr at this
  rw [hi] at this
  simp only [rightG, Bool.and_eq_true, inB, decide_eq_true_eq] at this
  exact this.1.2.2.2.1
/-- The group that a name finds. -/
theorem look_of {M : Type} {name : ByteArray} : ∀ (gs : List (LGrp M)), (∃ g ∈ gs, g.1 = name) → ∃ g ∈ gs, g.1 = name ∧ ∀ F : LGrp M → LRow, (∀ g, (F g).1 = g.1) → look (gs.map F) name = F g
  | [], ⟨g, h, _⟩ => by cases h
  | g :: gs, ⟨g', h, e⟩ => by
    by_cases hg : g.1 = name
    · exact ⟨g, List.mem_cons_self, hg, fun F hF => by rw [List.map_cons, look, if_pos (by rw [hF]; exact hg)]⟩
    · have : ∃ g ∈ gs, g.1 = name := by
        rcases List.mem_cons.1 h with rfl | h
        · exact absurd e hg
        · exact ⟨g', h, e⟩
      obtain ⟨q, h1, h2, h3⟩ := look_of gs this
      exact ⟨q, List.mem_cons_of_mem _ h1, h2, fun F hF => by rw [List.map_cons, look, if_neg (by rw [hF]; exact hg)]; exact h3 F hF⟩
end Go.Proofs.Ytiiiipdnodgkmaa.Lt
