/- The document: labels that are right. -/
import Derived.Test.YtiiiipdnodgkmaaLabSLt
namespace Go.Proofs.Ytiiiipdnodgkmaa.Lt
open Go Go.VI
set_option linter.unusedVariables false
set_option linter.unusedSimpArgs false
set_option maxRecDepth 100000

theorem ref05_maybe_is {N : Nat} (hN : Big N) {s : ByteArray} (hs : okS s) : G_ref05_maybe N (s, ()) = some (maybeB N s, ()) := by
  unfold G_ref05_maybe S_ref05_maybe maybeB
  simp only [ref01_Word_is hN hs, Option.bind_some]
  by_cases h : s = nameless <;> simp [h, br]
theorem Less_is (N : Nat) (hN : Big N) {a b : ByteArray} (ha : okS a) (hb : okS b) : G_ref05_Less N (a, b, ()) = some (bl a b, ()) := by
  unfold Big at hN; unfold okS at ha hb
  have sa := size_list a
  have sb := size_list b
  have loop : ∀ m (i : Nat) (x : (ByteArray × ByteArray × Int × Unit) × Unit), i ≤ a.size → x = ((a, b, (i : Int), ()), ()) → a.size - i < m → Tot (g_ref05_Less_2 N m x) fun o =>
      Op.bytesLess (a.data.toList.drop i) (b.data.toList.drop i) = Sum.elim (fun v => decide (((v.1.1.size : Nat) : Int) < ((v.1.2.1.size : Nat) : Int))) (fun v => v.1.1) o := by
    intro m
    induction m with
    | zero => intro i x h1 h2 h3; omega
    | succ m ih =>
      intro i x h1 h2 h3
      subst h2
      rw [g_ref05_Less_2_succ]
      unfold s_ref05_Less_2
      by_cases hi : i < a.size
      · have ga : a.data.toList.drop i = a.data.toList[i] :: a.data.toList.drop (i + 1) := List.drop_eq_getElem_cons (by omega)
        have d1 : decide ((i : Int) < ((a.size : Nat) : Int)) = true := decide_eq_true (by omega)
        have d0 : decide ((0 : Int) ≤ (i : Int)) = true := decide_eq_true (by omega)
        by_cases hj : i < b.size
        · have gb : b.data.toList.drop i = b.data.toList[i] :: b.data.toList.drop (i + 1) := List.drop_eq_getElem_cons (by omega)
          have d2 : decide ((i : Int) < ((b.size : Nat) : Int)) = true := decide_eq_true (by omega)
          simp only [d0, d1, d2, br_true, Int.toNat_natCast, at_lt (l := a.data.toList) (i := i) (by omega), at_lt (l := b.data.toList) (i := i) (by omega), Option.bind_some, wi (i := i) (by omega)]
          rw [ga, gb]
          generalize hx : a.data.toList[i] = x
          generalize hy : b.data.toList[i] = y
          by_cases e : x.toNat = y.toNat
          · have d3 : decide (((x.toNat : Nat) : Int) = ((y.toNat : Nat) : Int)) = true := decide_eq_true (by omega)
            simp only [d3, Bool.not_true, br_false]
            refine (ih (i + 1) _ (by omega) rfl (by omega)).mono fun o ho => ?_
            rw [← ho, Bool.eq_iff_iff, bL_cons]
            constructor
            · rintro (h | h)
              · omega
              · exact h.2
            · intro h; exact .inr ⟨e, h⟩
          · have d3 : decide (((x.toNat : Nat) : Int) = ((y.toNat : Nat) : Int)) = false := decide_eq_false (by omega)
            simp only [d3, Bool.not_false, br_true]
            refine Tot.some ?_
            show _ = decide (((x.toNat : Nat) : Int) < ((y.toNat : Nat) : Int))
            rw [Bool.eq_iff_iff, bL_cons, decide_eq_true_eq]
            constructor
            · rintro (h | h)
              · omega
              · exact absurd h.1 e
            · intro h; left; omega
        · have gb : b.data.toList.drop i = [] := List.drop_eq_nil_of_le (by omega)
          have d2 : decide ((i : Int) < ((b.size : Nat) : Int)) = false := decide_eq_false (by omega)
          simp only [d1, d2, br_true, br_false]
          refine Tot.some ?_
          rw [ga, gb]
          show false = decide (((a.size : Nat) : Int) < ((b.size : Nat) : Int))
          symm; exact decide_eq_false (by omega)
      · have ga : a.data.toList.drop i = [] := List.drop_eq_nil_of_le (by omega)
        have d1 : decide ((i : Int) < ((a.size : Nat) : Int)) = false := decide_eq_false (by omega)
        simp only [d1, br_false]
        refine Tot.some ?_
        rw [ga]
        show _ = decide (((a.size : Nat) : Int) < ((b.size : Nat) : Int))
        by_cases hj : i < b.size
        · have gb : b.data.toList.drop i = b.data.toList[i] :: b.data.toList.drop (i + 1) := List.drop_eq_getElem_cons (by omega)
          rw [gb]
          show true = _
          symm; exact decide_eq_true (by omega)
        · have gb : b.data.toList.drop i = [] := List.drop_eq_nil_of_le (by omega)
          rw [gb]
          show false = _
          symm; exact decide_eq_false (by omega)
  obtain ⟨o, e, ho⟩ := loop N 0 _ (by omega) rfl (by omega)
  have e : g_ref05_Less_2 N N ((a, b, 0, ()), ()) = some o := e
  unfold G_ref05_Less S_ref05_Less
  simp only [e, Option.bind_some]
  have hb' : bl a b = Op.bytesLess (a.data.toList.drop 0) (b.data.toList.drop 0) := by
    unfold bl; rw [toList_data, toList_data]; rfl
  rw [hb', ho]
  cases o <;> rfl

theorem ref05_Right_is (N : Nat) (hN : Big N) {l : Labels} (hl : okL l) : G_ref05_Right N (l, ()) = some (rightL N l, ()) := by
  have hN' := hN
  unfold Big at hN'; obtain ⟨h1, h2⟩ := hl
  have loop := Tot.all (f := g_ref05_Right_4 N) (Inv := fun i x => x = ((l, (i : Int), ()), ())) (Y := fun o => ∃ y, o = .inl y) (No := fun o => ∃ y, o = .inr ((false, ()), y)) l.length (okLab N l)
    (fun m a ha => by
      subst ha
      rw [g_ref05_Right_4_succ]
      unfold s_ref05_Right_4
      exact Tot.brD (fun h => absurd h (by dsimp only; omega)) fun _ => Tot.some ⟨_, rfl⟩)
    (fun m i a Q ha hi rec no => by
      subst ha
      rw [g_ref05_Right_4_succ]
      unfold s_ref05_Right_4
      have hm : l[i] ∈ l := List.getElem_mem hi
      have d0 : decide ((0 : Int) ≤ (i : Int)) = true := decide_eq_true (by omega)
      have d1 : decide ((i : Int) < ((l.length : Nat) : Int)) = true := decide_eq_true (by omega)
      simp only [d0, d1, br_true, Int.toNat_natCast, at_lt hi, Option.bind_some, ref01_Word_is hN (h2 _ hm).1, ref05_maybe_is hN (h2 _ hm).2, wi (i := i) (by omega)]
      have hok : okLab N l i = ((wordB N l[i].1 && maybeB N l[i].2) && (i == 0 || match l[i - 1]? with
        | some u => bl u.1 l[i].1
        | none => false)) := by unfold okLab; rw [at_lt hi]; first | done | rfl
      cases hw : wordB N l[i].1
      · rw [hw] at hok
        exact Tot.some (no (by rw [hok]; rfl) _ ⟨_, rfl⟩)
      cases hv : maybeB N l[i].2
      · rw [hw, hv] at hok
        exact Tot.some (no (by rw [hok]; rfl) _ ⟨_, rfl⟩)
      rw [hw, hv] at hok
      simp only [Bool.not_true, br_false]
      by_cases e : i = 0
      · have d2 : decide ((0 : Int) < (i : Int)) = false := decide_eq_false (by omega)
        simp only [d2, br_false]
        exact rec (by rw [hok]; simp [e]) _ rfl
      · have d2 : decide ((0 : Int) < (i : Int)) = true := decide_eq_true (by omega)
        have w1 : IntKind.i64.wrap ((i : Int) - 1) = ((i - 1 : Nat) : Int) := by rw [w64 (by omega) (by omega)]; omega
        have d3 : decide ((0 : Int) ≤ ((i - 1 : Nat) : Int)) = true := decide_eq_true (by omega)
        have hp : i - 1 < l.length := by omega
        have hm' : l[i - 1] ∈ l := List.getElem_mem hp
        have e' : (i == 0) = false := by simp [e]
        rw [at_lt hp, e'] at hok
        simp only [d2, w1, d3, br_true, Int.toNat_natCast, at_lt hp, Option.bind_some, Less_is N hN (h2 _ hm').1 (h2 _ hm).1]
        cases hb : bl l[i - 1].1 l[i].1
        · simp only [hb] at hok
          exact Tot.some (no (by rw [hok]; rfl) _ ⟨_, rfl⟩)
        · simp only [hb] at hok
          exact rec (by rw [hok]; rfl) _ rfl)
    N 0 ((l, 0, ()), ()) (by omega) rfl (by omega)
  obtain ⟨o, e, ho⟩ := loop
  unfold G_ref05_Right S_ref05_Right rightL
  simp only [e, Option.bind_some]
  by_cases h : l.length ≤ 16
  · have d1 : decide ((16 : Int) < ((l.length : Nat) : Int)) = false := decide_eq_false (by omega)
    simp only [d1, br_false, decide_eq_true h, Bool.true_and]
    rw [Nat.sub_zero] at ho
    split at ho
    · rename_i hy; obtain ⟨y, rfl⟩ := ho; rw [hy]; rfl
    · rename_i hy; obtain ⟨y, rfl⟩ := ho; rw [Bool.not_eq_true] at hy; rw [hy]; rfl
  · have d1 : decide ((16 : Int) < ((l.length : Nat) : Int)) = true := decide_eq_true (by omega)
    simp only [d1, br_true, decide_eq_false h, Bool.false_and]

end Go.Proofs.Ytiiiipdnodgkmaa.Lt
