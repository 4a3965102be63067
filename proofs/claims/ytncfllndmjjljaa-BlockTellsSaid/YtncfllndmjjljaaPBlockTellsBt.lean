/- BlockTells: what the law computes is true. -/
import Derived.Test.YtncfllndmjjljaaMovTBt
import Derived.Test.YtncfllndmjjljaaShwTBt
import Derived.Test.YtncfllndmjjljaaTxtEBt
namespace Go.Proofs.Ytncfllndmjjljaa.Bt
open Go Go.VI
set_option linter.unusedVariables false
set_option linter.unusedSimpArgs false
set_option maxRecDepth 100000

theorem movB_mem {bs : List Bound} {on : ByteArray} {p : Pod} (h : p ∈ movB bs on) : ∃ b ∈ bs, b.1 = p := by
  unfold movB onB at h
  obtain ⟨h1, _⟩ := List.mem_filter.1 h
  obtain ⟨b, hb, e⟩ := List.mem_map.1 h1
  exact ⟨b, (List.mem_filter.1 hb).1, e⟩
theorem light_of_right {N : Nat} (hN : Big N) {ms : List Mach} {bs : List Bound} {l : List Budget} (h : okY ms bs) (e : G_law25_right N (ms, bs, l, ()) = some (true, ())) : G_ref09_Light N (ms, bs, ()) = some (true, ()) := by
  obtain ⟨⟨b, ⟨⟩⟩, eL, _⟩ := ref09_Light_tot N hN h
  unfold G_law25_right S_law25_right at e
  simp only [eL, Option.bind_some] at e
  cases b
  · cases e
  · exact eL
theorem loop13 (N : Nat) (hN : Big N) {ms : List Mach} {bs : List Bound} {c : List Budget × Int} (i : Int) {mv : List Pod} (hlen : mv.length ≤ 1000000) (hsame : ∀ p ∈ mv, G_ref07_SamePod N (p, p, ()) = some (true, ())) :
    Tot (g_law25_BlockTells_13 N N ((ms, bs, i, mv, mv, 0, ()), (c, ()), ())) fun o => ∃ y, o = .inl ((ms, bs, i, ()), (c, ()), y) := by
  have hN' := hN
  unfold Big at hN'
  have loop : ∀ m (k : Nat) x, k ≤ mv.length → x = ((ms, bs, i, mv, mv, (k : Int), ()), (c, ()), ()) → mv.length - k < m → Tot (g_law25_BlockTells_13 N m x) fun o => ∃ y, o = .inl ((ms, bs, i, ()), (c, ()), y) := by
    refine Tot.range mv.length fun m k x hx hk rec => ?_
    subst hx
    rw [g_law25_BlockTells_13_succ]
    unfold s_law25_BlockTells_13
    by_cases hlt : k < mv.length
    · have d0 : decide ((0 : Int) ≤ (k : Int)) = true := decide_eq_true (by omega)
      have d1 : decide ((k : Int) < ((mv.length : Nat) : Int)) = true := decide_eq_true (by omega)
      have hs := hsame _ (List.getElem_mem hlt)
      simp only [d0, d1, br_true, Int.toNat_natCast, at_lt hlt, Option.bind_some, eta2, hs, Bool.not_true, br_false, wi (i := k) (by omega)]
      exact rec (k + 1) _ (by omega) (by omega) rfl
    · have d1 : decide ((k : Int) < ((mv.length : Nat) : Int)) = false := decide_eq_false (by omega)
      simp only [d1, br_false]
      exact Tot.some ⟨_, rfl⟩
  exact loop N 0 _ (by omega) rfl (by omega)
theorem pureBlockTells (x : List Mach × List Bound × (List Budget × Int) × Unit) (hw : Ty.wf (.slice tyMach0) x.1 ∧ Ty.wf (.slice tyBound) x.2.1 ∧ Ty.wf (.agg (.pair (.slice tyBudget) (.int .i64))) x.2.2.1 ∧ True) : ∃ N, G_law25_BlockTells N x = some (true, ()) := by
  obtain ⟨ms, bs, ⟨l, most⟩, ⟨⟩⟩ := x
  obtain ⟨w1, w2, w3, -⟩ := hw
  have h : okY ms bs := okY_of w1 w2
  have w3 : Ty.wf (.slice tyBudget) l ∧ _ := w3
  have hg : l.length ≤ 140737488355328 ∧ ∀ b ∈ l, okBg b := okBgs_of w3.1
  clear w1 w2 w3
  refine ⟨281474976710656 + 300, ?_⟩
  have hk := known_is 281474976710656
  have hN := big
  generalize 281474976710656 + 300 = N at *
  have hN' := hN
  unfold Big at hN'
  obtain ⟨⟨b1, ⟨⟩⟩, e1, k1⟩ := law25_right_tot N hN h hg
  unfold G_law25_BlockTells S_law25_BlockTells
  simp only [e1, hk, Option.bind_some]
  cases b1
  · rfl
  obtain ⟨⟨hml, hbl⟩, hfy, hfb⟩ := k1 rfl
  have hlt := ref09_Light_all N hN h (light_of_right hN h e1)
  have gB := goodB_of h hbl hfy
  have gG := goodG_of hg.2 hfb
  have hbm : bs.length ≤ 1000000 := by omega
  obtain ⟨u, hu⟩ := use_fun N hN hbm
  have hsame : ∀ on, ∀ p ∈ movB bs on, G_ref07_SamePod N (p, p, ()) = some (true, ()) := fun on p hp => by
    obtain ⟨b, hb, rfl⟩ := movB_mem hp
    exact SamePod_same N hN (h.bb b hb).1 (hlt b hb)
  simp only [Bool.not_true, br_false]
  have loop : ∀ m (i : Nat) x, i ≤ ms.length → x = ((ms, bs, (i : Int), ()), ((l, most), ()), ()) → ms.length - i < m → Tot (g_law25_BlockTells_4 N m x) fun o => ∃ y, o = .inl ((ms, bs, ()), ((l, most), ()), y) := by
    refine Tot.range ms.length fun m i x hx hi rec => ?_
    subst hx
    rw [g_law25_BlockTells_4_succ]
    unfold s_law25_BlockTells_4
    by_cases hlt : i < ms.length
    · have d0 : decide ((0 : Int) ≤ (i : Int)) = true := decide_eq_true (by omega)
      have d1 : decide ((i : Int) < ((ms.length : Nat) : Int)) = true := decide_eq_true (by omega)
      have hlen := Nat.le_trans (movB_len bs ms[i].1) hbm
      obtain ⟨o, e, y, rfl⟩ := loop13 N hN (ms := ms) (bs := bs) (c := (l, most)) (i : Int) hlen (hsame ms[i].1)
      simp only [d0, d1, br_true, Int.toNat_natCast, at_lt hlt, Option.bind_some, eta2, block_Why_is N hN gB gG, ref25_Why_is N hN gB gG, block_Movable_is N hN hbm, ref25_Movable_is N hN hbm, ref25_Use_eq N hN hbm, (hu _).2, decide_true, Bool.not_true, br_false, e, Sum.elim_inl, wi (i := i) (by omega)]
      exact rec (i + 1) _ (by omega) (by omega) rfl
    · have d1 : decide ((i : Int) < ((ms.length : Nat) : Int)) = false := decide_eq_false (by omega)
      simp only [d1, br_false]
      exact Tot.some ⟨_, rfl⟩
  obtain ⟨o, e, y, rfl⟩ := loop N 0 _ (by omega) rfl (by omega)
  have e : g_law25_BlockTells_4 N N ((ms, bs, 0, ()), ((l, most), ()), ()) = _ := e
  have f1 : (idleB u ms most).length ≤ 1000 := by
    unfold idleB
    rw [List.length_map]
    exact Nat.le_trans (List.length_filter_le _ _) (by omega)
  have f2 : (emptyB bs ms).length ≤ 1000 := by
    unfold emptyB
    rw [List.length_map]
    exact Nat.le_trans (List.length_filter_le _ _) (by omega)
  simp only [e, Option.bind_some, Sum.elim_inl, block_Idle_is N hN hu (ms := ms) (by omega), ref25_Idle_is N hN hbm hu (ms := ms) (by omega), block_Empty_is N hN hbm (ms := ms) (by omega), ref25_Empty_is N hN hbm (ms := ms) (by omega), Texts_same N hN f1, Texts_same N hN f2, br_true]
end Go.Proofs.Ytncfllndmjjljaa.Bt
