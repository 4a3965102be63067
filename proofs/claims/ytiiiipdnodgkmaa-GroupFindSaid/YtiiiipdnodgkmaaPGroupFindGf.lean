/- GroupFind: what the law computes is true. -/
import Derived.Test.YtiiiipdnodgkmaaGrpAGf
namespace Go.Proofs.Ytiiiipdnodgkmaa.Gf
open Go Go.VI
set_option linter.unusedVariables false
set_option linter.unusedSimpArgs false
set_option maxRecDepth 100000

theorem known_is (m : Nat) : G_law16_known (m + 300) () = some (true, ()) := by kernel_rfl
theorem fndF_none {name : ByteArray} : ∀ (l : List Grp) (i : Nat), (∀ g ∈ l, g.1 ≠ name) → fndF name l i = -1
  | [], _, _ => rfl
  | g :: l, i, h => by
    simp only [fndF]
    rw [if_neg (h g List.mem_cons_self)]
    exact fndF_none l (i + 1) fun g hg => h g (List.mem_cons_of_mem _ hg)
theorem fndF_some {name : ByteArray} : ∀ (l : List Grp) (i : Nat), (∃ g ∈ l, g.1 = name) → 0 ≤ fndF name l i
  | [], _, ⟨g, h, _⟩ => by cases h
  | g :: l, i, ⟨g', h, e⟩ => by
    simp only [fndF]
    split
    · omega
    · rename_i hn
      rcases List.mem_cons.1 h with rfl | h
      · exact absurd e hn
      · exact fndF_some l (i + 1) ⟨g', h, e⟩
theorem pureGroupFind (x : List Grp × ByteArray × Unit) (hw : Ty.wf (.slice tyGrp) x.1 ∧ Ty.wf .str x.2.1 ∧ True) : ∃ N, G_law16_GroupFind N x = some (true, ()) := by
  obtain ⟨l, name, ⟨⟩⟩ := x
  have hl : okGs l := okGs_of hw.1
  clear hw
  refine ⟨281474976710656 + 300, ?_⟩
  have hk := known_is 281474976710656
  have hN := big
  generalize 281474976710656 + 300 = N at *
  have hN' := hN
  unfold Big at hN'
  obtain ⟨⟨b1, ⟨⟩⟩, e1, k1⟩ := ref16_Light_tot N hN hl
  have e2 := group_Right_is N hN hl
  unfold G_law16_GroupFind S_law16_GroupFind
  simp only [e1, e2, hk, Option.bind_some]
  cases b1
  · rfl
  have hlen := (k1 rfl).1
  have e3 := group_Names_is N hN (l := l) (by omega)
  simp only [e3, Option.bind_some, Bool.not_true, br_false, List.length_map, decide_true]
  by_cases hz : (300 : Int) < ((name.size : Nat) : Int)
  · rw [decide_eq_true hz]; rfl
  rw [decide_eq_false hz, br_false]
  cases hr : rightGs N l
  · rfl
  simp only [Bool.not_true, br_false]
  unfold rightGs at hr
  rw [Bool.and_eq_true] at hr
  have hall := allN_iff.1 hr.2
  have hf : ∀ i (hi : i < l.length), fnd l l[i].1 = (i : Int) := fun i hi => by
    have := hall i (by omega) (by omega)
    unfold okGr at this
    rw [at_lt hi] at this
    simp only [Bool.and_eq_true] at this
    exact of_decide_eq_true this.2.2
  have loop : ∀ m (i : Nat) x, i ≤ l.length → x = ((l, name, l.map (·.1), (l.take i).any (fun g => decide (g.1 = name)), (i : Int), ()), ()) → l.length - i < m → Tot (g_law16_GroupFind_8 N m x) fun o => o = .inl ((l, name, l.any (fun g => decide (g.1 = name)), ()), ()) := by
    refine Tot.range l.length fun m i x ha hi rec => ?_
    subst ha
    rw [g_law16_GroupFind_8_succ]
    unfold s_law16_GroupFind_8
    by_cases hlt : i < l.length
    · have d0 : decide ((0 : Int) ≤ (i : Int)) = true := decide_eq_true (by omega)
      have d1 : decide ((i : Int) < ((l.length : Nat) : Int)) = true := decide_eq_true (by omega)
      have hn : (l.map (·.1))[i]? = some l[i].1 := by rw [List.getElem?_map, at_lt hlt]; rfl
      simp only [d0, d1, br_true, Int.toNat_natCast, at_lt hlt, hn, Option.bind_some, wi (i := i) (by omega), decide_true, Bool.not_true, br_false, group_Find_is N hN hl.1, hf i hlt]
      have hs : (l.take (i + 1)).any (fun g => decide (g.1 = name)) = ((l.take i).any (fun g => decide (g.1 = name)) || decide (l[i].1 = name)) := by
        rw [List.take_add_one, at_lt hlt, List.any_append]; simp only [Option.toList_some, List.any_cons, List.any_nil, Bool.or_false]
      cases hm : (l.take i).any (fun g => decide (g.1 = name))
      · rw [br_false]
        exact rec (i + 1) _ (by omega) (by omega) (by rw [hs, hm, Bool.false_or])
      · rw [br_true]
        exact rec (i + 1) _ (by omega) (by omega) (by rw [hs, hm, Bool.true_or])
    · have d1 : decide ((i : Int) < ((l.length : Nat) : Int)) = false := decide_eq_false (by omega)
      simp only [d1, br_false]
      rw [List.take_of_length_le (by omega)]
      exact Tot.some rfl
  obtain ⟨o, e, rfl⟩ := loop N 0 ((l, name, l.map (·.1), false, 0, ()), ()) (by omega) rfl (by omega)
  simp only [e, Option.bind_some, Sum.elim_inl, group_Find_is N hN hl.1]
  have : l.any (fun g => decide (g.1 = name)) = decide (0 ≤ fnd l name) := by
    rw [Bool.eq_iff_iff, List.any_eq_true, decide_eq_true_eq]
    constructor
    · rintro ⟨g, hg, h⟩
      exact fndF_some l 0 ⟨g, hg, of_decide_eq_true h⟩
    · intro h
      by_cases hh : ∃ g ∈ l, g.1 = name
      · obtain ⟨g, hg, e⟩ := hh
        exact ⟨g, hg, decide_eq_true e⟩
      · have := fndF_none l 0 fun g hg e => hh ⟨g, hg, e⟩
        unfold fnd at h
        rw [this] at h; omega
  rw [this]
  cases decide (0 ≤ fnd l name) <;> rfl
end Go.Proofs.Ytiiiipdnodgkmaa.Gf
