/- SimilarTells: what the law computes is true. -/
import Derived.Test.YtfifgcaielmbiaaSimOSlA
namespace Go.Proofs.Ytfifgcaielmbiaa.SlA
open Go Go.VI
set_option linter.unusedVariables false
set_option linter.unusedSimpArgs false
set_option maxRecDepth 100000

theorem known_is (m : Nat) : G_law22_known (m + 300) () = some (true, ()) := by kernel_rfl
theorem tells_7 (N : Nat) (hN : Big N) {l : List Grp} (hl : l.length ≤ 1000) (ok : ∀ g ∈ l, okA g) (name : ByteArray) {a : Nat} (ha : a < l.length) : Tot (g_law22_SimilarTells_7 N N ((l, name, (a : Int), 0, ()), ())) fun o => o = .inl ((l, name, (a : Int), ()), ()) := by
  unfold Big at hN
  have loop : ∀ m (i : Nat) x, i ≤ l.length → x = ((l, name, (a : Int), (i : Int), ()), ()) → l.length - i < m → Tot (g_law22_SimilarTells_7 N m x) fun o => o = .inl ((l, name, (a : Int), ()), ()) := by
    refine Tot.range l.length fun m i x hx hi rec => ?_
    subst hx
    rw [g_law22_SimilarTells_7_succ]
    unfold s_law22_SimilarTells_7
    by_cases hlt : i < l.length
    · have d0 : decide ((0 : Int) ≤ (i : Int)) = true := decide_eq_true (by omega)
      have d1 : decide ((i : Int) < ((l.length : Nat) : Int)) = true := decide_eq_true (by omega)
      have d2 : decide ((0 : Int) ≤ (a : Int)) = true := decide_eq_true (by omega)
      have h1 := sAlike N hN (ok _ (List.getElem_mem ha)) (ok _ (List.getElem_mem hlt))
      have h2 := rAlike N hN (ok _ (List.getElem_mem ha)) (ok _ (List.getElem_mem hlt))
      have h3 := sAlike N hN (ok _ (List.getElem_mem hlt)) (ok _ (List.getElem_mem ha))
      rw [alike_comm] at h3
      simp only [d0, d1, d2, br_true, Int.toNat_natCast, at_lt hlt, at_lt ha, Option.bind_some, h1, h2, h3, bEq_beq, beq_self_eq_true, Bool.not_true, br_false, wi (i := i) (by omega)]
      exact rec (i + 1) _ (by omega) (by omega) rfl
    · have d1 : decide ((i : Int) < ((l.length : Nat) : Int)) = false := decide_eq_false (by omega)
      simp only [d1, br_false]
      exact Tot.some rfl
  exact loop N 0 _ (by omega) rfl (by omega)
theorem tells_4 (N : Nat) (hN : Big N) {l : List Grp} (hl : l.length ≤ 1000) (ok : ∀ g ∈ l, okA g) (name : ByteArray) : Tot (g_law22_SimilarTells_4 N N ((l, name, 0, ()), ())) fun o => o = .inl ((l, name, ()), ()) := by
  have hN' := hN
  unfold Big at hN'
  have loop : ∀ m (i : Nat) x, i ≤ l.length → x = ((l, name, (i : Int), ()), ()) → l.length - i < m → Tot (g_law22_SimilarTells_4 N m x) fun o => o = .inl ((l, name, ()), ()) := by
    refine Tot.range l.length fun m i x hx hi rec => ?_
    subst hx
    rw [g_law22_SimilarTells_4_succ]
    unfold s_law22_SimilarTells_4
    by_cases hlt : i < l.length
    · have d1 : decide ((i : Int) < ((l.length : Nat) : Int)) = true := decide_eq_true (by omega)
      obtain ⟨o, e7, rfl⟩ := tells_7 N hN hl ok name hlt
      simp only [d1, br_true, e7, Option.bind_some, Sum.elim_inl, wi (i := i) (by omega)]
      exact rec (i + 1) _ (by omega) (by omega) rfl
    · have d1 : decide ((i : Int) < ((l.length : Nat) : Int)) = false := decide_eq_false (by omega)
      simp only [d1, br_false]
      exact Tot.some rfl
  exact loop N 0 _ (by omega) rfl (by omega)
theorem pureSimilarTells (x : List Grp × ByteArray × Unit) (hw : Ty.wf (.slice tyGrp) x.1 ∧ Ty.wf .str x.2.1 ∧ True) : ∃ N, G_law22_SimilarTells N x = some (true, ()) := by
  obtain ⟨l, name, ⟨⟩⟩ := x
  have hgs : okGs l := okGs_of hw.1
  clear hw
  refine ⟨281474976710656 + 300, ?_⟩
  have hk := known_is 281474976710656
  have hN := big
  generalize 281474976710656 + 300 = N at *
  have hN' := hN
  unfold Big at hN'
  obtain ⟨⟨b1, ⟨⟩⟩, e1, k1⟩ := ref16_Light_tot N hN hgs
  unfold G_law22_SimilarTells S_law22_SimilarTells
  simp only [e1, hk, ref16_Right_is N hN hgs, Option.bind_some]
  cases b1
  · rfl
  have hlen := (k1 rfl).1
  cases hr : rightGs N l
  · rfl
  simp only [Bool.not_true, br_false]
  by_cases hz : (300 : Int) < ((name.size : Nat) : Int)
  · rw [decide_eq_true hz]; rfl
  rw [decide_eq_false hz, br_false]
  have ok : ∀ g ∈ l, okA g := fun g hg => okA_of hr hg
  obtain ⟨o, e4, rfl⟩ := tells_4 N hN (by omega) ok name
  have hol := ofG_len (l := l) (name := name)
  simp only [e4, Option.bind_some, Sum.elim_inl, similar_Of_is N hN (l := l) (by omega) ok, ref22_Of_is N hN (l := l) (by omega) ok, Ints_same N hN (l := ofG l name) (by omega), br_true]
end Go.Proofs.Ytfifgcaielmbiaa.SlA
