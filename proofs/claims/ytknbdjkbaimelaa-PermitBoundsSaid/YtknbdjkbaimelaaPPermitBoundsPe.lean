/- PermitBounds: what the law computes is true. -/
import Derived.Test.YtknbdjkbaimelaaPmtQPe
import Derived.Test.YtknbdjkbaimelaaGrpLPe
import Derived.Test.YtknbdjkbaimelaaGrpFPe
namespace Go.Proofs.Ytknbdjkbaimelaa.Pe
open Go Go.VI
set_option linter.unusedVariables false
set_option linter.unusedSimpArgs false
set_option maxRecDepth 100000

@[reducible] def tyInst : Ty := .agg (.pair .str (.pair .str (.pair (.int .i64) (.pair (.int .i64) (.int .i64)))))
@[reducible] def tyCap : Ty := .agg (.pair (.int .i64) (.pair (.int .i64) (.int .i64)))
@[reducible] def tyStt : Ty := .agg (.pair (.slice tyGrp) (.pair (.slice (.int .i64)) (.pair (.slice tyInst) (.pair tyCap (.pair (.slice .str) (.pair (.int .i64) (.int .i64)))))))
@[reducible] def tyCall : Ty := .agg (.pair .str (.pair .str (.int .i64)))
theorem known_is (m : Nat) : G_law33_known (m + 300) () = some (true, ()) := by kernel_rfl
theorem right_tot (N : Nat) (hN : Big N) {s : Stt} (hg : okGs s.1) : Tot (G_law33_right N (s, ())) fun v => v.1 = true → Good s := by
  have hN' := hN
  unfold Big at hN'
  obtain ⟨gs, ts, is, cp, rs, un, sh⟩ := s
  have hg : okGs gs := hg
  obtain ⟨⟨b1, ⟨⟩⟩, e1, k1⟩ := ref16_Light_tot N hN hg
  unfold G_law33_right S_law33_right
  simp only [e1, Option.bind_some]
  cases b1
  · exact Tot.some fun h => by cases h
  simp only [Bool.not_true, br_false, ref16_Right_is N hN hg, Option.bind_some]
  cases hr : rightGs N gs
  · exact Tot.some fun h => by cases h
  obtain ⟨hgl, hgf⟩ := facGs hr
  simp only [Bool.not_true, br_false]
  refine Tot.br (fun _ => Tot.some fun h => by cases h) fun htl => ?_
  have htl : ((ts.length : Nat) : Int) = ((gs.length : Nat) : Int) := by simpa using htl
  have htl : ts.length = gs.length := by omega
  refine Tot.brD (fun _ => Tot.some fun h => by cases h) fun hil => ?_
  refine Tot.brD (fun _ => Tot.some fun h => by cases h) fun hrl => ?_
  simp only [ref23_Right_is, Option.bind_some]
  cases hc : decide (okC cp)
  · exact Tot.some fun h => by cases h
  have hcp := of_decide_eq_true hc
  simp only [Bool.not_true, br_false]
  have l4 : ∀ m (i : Nat) x, i ≤ ts.length → (x = (((i : Int), ()), ((gs, ts, is, cp, rs, un, sh), ()), ()) ∧ ∀ (j : Nat) (g : Grp) (t : Int), j < i → gs[j]? = some g → ts[j]? = some t → g.2.1 ≤ t ∧ t ≤ g.2.2.1) → ts.length - i < m →
      Tot (g_law33_right_4 N m x) fun o => (o = .inl ((), ((gs, ts, is, cp, rs, un, sh), ()), ()) ∧ ∀ (j : Nat) (g : Grp) (t : Int), gs[j]? = some g → ts[j]? = some t → g.2.1 ≤ t ∧ t ≤ g.2.2.1) ∨ ∃ y, o = .inr ((false, ()), y) := by
    refine Tot.range ts.length fun m i x hx hi rec => ?_
    obtain ⟨rfl, hx⟩ := hx
    rw [g_law33_right_4_succ]
    unfold s_law33_right_4
    by_cases hlt : i < ts.length
    · have hlg : i < gs.length := by omega
      have d0 : decide ((0 : Int) ≤ (i : Int)) = true := decide_eq_true (by omega)
      have d1 : decide ((i : Int) < ((ts.length : Nat) : Int)) = true := decide_eq_true (by omega)
      simp only [d0, d1, br_true, Int.toNat_natCast, at_lt hlt, at_lt hlg, Option.bind_some, wi (i := i) (by omega)]
      refine Tot.brD (fun _ => Tot.some (.inr ⟨_, rfl⟩)) fun a1 => Tot.brD (fun _ => Tot.some (.inr ⟨_, rfl⟩)) fun a2 => ?_
      refine rec (i + 1) _ (by omega) (by omega) ⟨rfl, fun j g t h1 h2 h3 => ?_⟩
      by_cases e : j = i
      · subst e
        rw [at_lt hlg] at h2; rw [at_lt hlt] at h3
        cases h2; cases h3
        exact ⟨by omega, by omega⟩
      · exact hx j g t (by omega) h2 h3
    · have d1 : decide ((i : Int) < ((ts.length : Nat) : Int)) = false := decide_eq_false (by omega)
      simp only [d1, br_false]
      exact Tot.some (.inl ⟨rfl, fun j g t h2 h3 => hx j g t (by have := (List.getElem?_eq_some_iff.1 h3).1; omega) h2 h3⟩)
  have l9 : ∀ m (i : Nat) x, i ≤ is.length → x = (((i : Int), ()), ((gs, ts, is, cp, rs, un, sh), ()), ()) → is.length - i < m → Tot (g_law33_right_9 N m x) fun o => (∃ y, o = .inl y) ∨ ∃ y, o = .inr ((false, ()), y) := by
    refine Tot.range is.length fun m i x hx hi rec => ?_
    subst hx
    rw [g_law33_right_9_succ]
    unfold s_law33_right_9
    by_cases hlt : i < is.length
    · have d0 : decide ((0 : Int) ≤ (i : Int)) = true := decide_eq_true (by omega)
      have d1 : decide ((i : Int) < ((is.length : Nat) : Int)) = true := decide_eq_true (by omega)
      simp only [d0, d1, br_true, Int.toNat_natCast, at_lt hlt, Option.bind_some, wi (i := i) (by omega)]
      exact Tot.brD (fun _ => Tot.some (.inr ⟨_, rfl⟩)) fun a1 => Tot.brD (fun _ => Tot.some (.inr ⟨_, rfl⟩)) fun a2 => rec (i + 1) _ (by omega) (by omega) rfl
    · have d1 : decide ((i : Int) < ((is.length : Nat) : Int)) = false := decide_eq_false (by omega)
      simp only [d1, br_false]
      exact Tot.some (.inl ⟨_, rfl⟩)
  obtain ⟨o, e4, ho⟩ := l4 N 0 _ (by omega) ⟨rfl, fun j _ _ h => by omega⟩ (by omega)
  have e4 : g_law33_right_4 N N ((0, ()), ((gs, ts, is, cp, rs, un, sh), ()), ()) = _ := e4
  obtain ⟨o9, e9, ho9⟩ := l9 N 0 _ (by omega) rfl (by omega)
  have e9 : g_law33_right_9 N N ((0, ()), ((gs, ts, is, cp, rs, un, sh), ()), ()) = _ := e9
  simp only [e4, Option.bind_some]
  rcases ho with ⟨rfl, hb⟩ | ⟨y, rfl⟩
  · simp only [Sum.elim_inl, e9, Option.bind_some]
    rcases ho9 with ⟨y, rfl⟩ | ⟨y, rfl⟩
    · exact Tot.some fun _ => ⟨hgl, hgf, htl, hb, by show is.length ≤ 60; omega, hcp, by show rs.length ≤ 20; omega⟩
    · exact Tot.some fun h => by cases h
  · exact Tot.some fun h => by cases h
theorem restB_no {rs : List ByteArray} {name : ByteArray} (h : restB rs name = false) : ∀ x ∈ rs, x ≠ name := by
  unfold restB at h
  intro x hx
  have h : (rs.all fun x => !decide (x = name)) = true := by simpa using h
  simpa using List.all_eq_true.1 h x hx
section
variable (N : Nat) (hN : Big N) (l : List Call) (i : Nat) (s now next : Stt)
include hN
theorem loop11 {more : Bool} (hi : i < l.length) (hr : s.2.2.2.2.1.length ≤ 20) (h : more = true → restB s.2.2.2.2.1 l[i].2.1 = false) :
    g_law33_PermitBounds_11 N N ((l, (i : Int), more, 0, ()), (s, ()), (now, ()), (next, ()), ()) = some (.inl ((l, (i : Int), more, ()), (s, ()), (now, ()), (next, ()), ())) := by
  unfold Big at hN
  have loop : ∀ m (j : Nat) x, j ≤ s.2.2.2.2.1.length → x = ((l, (i : Int), more, (j : Int), ()), (s, ()), (now, ()), (next, ()), ()) → s.2.2.2.2.1.length - j < m → Tot (g_law33_PermitBounds_11 N m x) fun o => o = .inl ((l, (i : Int), more, ()), (s, ()), (now, ()), (next, ()), ()) := by
    refine Tot.range s.2.2.2.2.1.length fun m j x hx hj rec => ?_
    subst hx
    rw [g_law33_PermitBounds_11_succ]
    unfold s_law33_PermitBounds_11
    by_cases hlt : j < s.2.2.2.2.1.length
    · have d0 : decide ((0 : Int) ≤ (i : Int)) = true := decide_eq_true (by omega)
      have d2 : decide ((0 : Int) ≤ (j : Int)) = true := decide_eq_true (by omega)
      have d1 : decide ((j : Int) < ((s.2.2.2.2.1.length : Nat) : Int)) = true := decide_eq_true (by omega)
      simp only [d0, d1, d2, br_true, Int.toNat_natCast, at_lt hlt, at_lt hi, Option.bind_some, wi (i := j) (by omega)]
      cases more
      · exact rec (j + 1) _ (by omega) (by omega) rfl
      · have := restB_no (h rfl) _ (List.getElem_mem hlt)
        rw [decide_eq_false this]
        exact rec (j + 1) _ (by omega) (by omega) rfl
    · have d1 : decide ((j : Int) < ((s.2.2.2.2.1.length : Nat) : Int)) = false := decide_eq_false (by omega)
      simp only [d1, br_false]
      exact Tot.some rfl
  obtain ⟨o, e, rfl⟩ := loop N 0 _ (by omega) rfl (by omega)
  exact e
theorem loop18 (hg : Good next) (hs : next.1 = s.1) : g_law33_PermitBounds_18 N N ((l, (i : Int), 0, ()), (s, ()), (now, ()), (next, ()), ()) = some (.inl ((l, (i : Int), ()), (s, ()), (now, ()), (next, ()), ())) := by
  unfold Big at hN
  have hl : next.2.1.length ≤ 16 := by rw [hg.tl]; exact hg.gl
  have loop : ∀ m (j : Nat) x, j ≤ next.2.1.length → x = ((l, (i : Int), (j : Int), ()), (s, ()), (now, ()), (next, ()), ()) → next.2.1.length - j < m → Tot (g_law33_PermitBounds_18 N m x) fun o => o = .inl ((l, (i : Int), ()), (s, ()), (now, ()), (next, ()), ()) := by
    refine Tot.range next.2.1.length fun m j x hx hj rec => ?_
    subst hx
    rw [g_law33_PermitBounds_18_succ]
    unfold s_law33_PermitBounds_18
    by_cases hlt : j < next.2.1.length
    · have hlg : j < s.1.length := by rw [← hs, ← hg.tl]; exact hlt
      have d2 : decide ((0 : Int) ≤ (j : Int)) = true := decide_eq_true (by omega)
      have d1 : decide ((j : Int) < ((next.2.1.length : Nat) : Int)) = true := decide_eq_true (by omega)
      obtain ⟨q1, q2⟩ := hg.tb j s.1[j] next.2.1[j] (by rw [hs]; exact at_lt hlg) (at_lt hlt)
      simp only [d1, d2, br_true, Int.toNat_natCast, at_lt hlt, at_lt hlg, Option.bind_some, wi (i := j) (by omega), decide_eq_false (show ¬ next.2.1[j] < s.1[j].2.1 by omega), decide_eq_false (show ¬ s.1[j].2.2.1 < next.2.1[j] by omega), br_false]
      exact rec (j + 1) _ (by omega) (by omega) rfl
    · have d1 : decide ((j : Int) < ((next.2.1.length : Nat) : Int)) = false := decide_eq_false (by omega)
      simp only [d1, br_false]
      exact Tot.some rfl
  obtain ⟨o, e, rfl⟩ := loop N 0 _ (by omega) rfl (by omega)
  exact e
theorem loop23 (hil : next.2.2.1.length ≤ 60) (he : next.2.2.1.length = now.2.2.1.length) (hlv : ∀ (i : Nat) (x y : Inst), now.2.2.1[i]? = some x → next.2.2.1[i]? = some y → x.2.2.1 = 3 → y.2.2.1 = 3) :
    g_law33_PermitBounds_23 N N ((l, (i : Int), 0, ()), (s, ()), (now, ()), (next, ()), ()) = some (.inl ((l, (i : Int), ()), (s, ()), (now, ()), (next, ()), ())) := by
  unfold Big at hN
  have loop : ∀ m (j : Nat) x, j ≤ next.2.2.1.length → x = ((l, (i : Int), (j : Int), ()), (s, ()), (now, ()), (next, ()), ()) → next.2.2.1.length - j < m → Tot (g_law33_PermitBounds_23 N m x) fun o => o = .inl ((l, (i : Int), ()), (s, ()), (now, ()), (next, ()), ()) := by
    refine Tot.range next.2.2.1.length fun m j x hx hj rec => ?_
    subst hx
    rw [g_law33_PermitBounds_23_succ]
    unfold s_law33_PermitBounds_23
    by_cases hlt : j < next.2.2.1.length
    · have hlg : j < now.2.2.1.length := by rw [← he]; exact hlt
      have d2 : decide ((0 : Int) ≤ (j : Int)) = true := decide_eq_true (by omega)
      have d1 : decide ((j : Int) < ((next.2.2.1.length : Nat) : Int)) = true := decide_eq_true (by omega)
      simp only [d1, d2, br_true, Int.toNat_natCast, at_lt hlt, at_lt hlg, Option.bind_some, wi (i := j) (by omega)]
      refine Tot.brD (fun h3 => ?_) fun h3 => rec (j + 1) _ (by omega) (by omega) rfl
      rw [decide_eq_true (hlv j _ _ (at_lt hlg) (at_lt hlt) h3)]
      exact rec (j + 1) _ (by omega) (by omega) rfl
    · have d1 : decide ((j : Int) < ((next.2.2.1.length : Nat) : Int)) = false := decide_eq_false (by omega)
      simp only [d1, br_false]
      exact Tot.some rfl
  obtain ⟨o, e, rfl⟩ := loop N 0 _ (by omega) rfl (by omega)
  exact e
end
theorem purePermitBounds (x : Stt × List Call × Unit) (hw : Ty.wf tyStt x.1 ∧ Ty.wf (.slice tyCall) x.2.1 ∧ True) : ∃ N, G_law33_PermitBounds N x = some (true, ()) := by
  obtain ⟨s, l, ⟨⟩⟩ := x
  have hg : okGs s.1 := okGs_of hw.1.1
  clear hw
  refine ⟨281474976710656 + 300, ?_⟩
  have hk := known_is 281474976710656
  have hN := big
  generalize 281474976710656 + 300 = N at *
  have hN' := hN
  unfold Big at hN'
  obtain ⟨⟨b1, ⟨⟩⟩, e1, k1⟩ := right_tot N hN hg
  have e1' : G_law33_right N ((s.1, s.2.1, s.2.2.1, s.2.2.2.1, s.2.2.2.2.1, s.2.2.2.2.2), ()) = _ := e1
  have egiven : G_law33_given N ((s.1, s.2.1, s.2.2.1, s.2.2.2.1, s.2.2.2.2.1, s.2.2.2.2.2), ()) = some (s, ()) := rfl
  unfold G_law33_PermitBounds S_law33_PermitBounds
  simp only [e1', hk, Option.bind_some]
  cases b1
  · rfl
  have hs := k1 rfl
  simp only [Bool.not_true, br_false]
  by_cases hz : (30 : Int) < ((l.length : Nat) : Int)
  · rw [decide_eq_true hz]; rfl
  rw [decide_eq_false hz, br_false]
  simp only [egiven, Option.bind_some]
  have loop : ∀ m (i : Nat) x, i ≤ l.length → (∃ now : Stt, x = ((l, (i : Int), ()), (s, ()), (now, ()), ()) ∧ Good now ∧ now.1 = s.1 ∧ now.2.1.length = s.2.1.length ∧ now.2.2.1.length = s.2.2.1.length ∧ now.2.2.2.2.1 = s.2.2.2.2.1 ∧ now.2.2.2.2.2 = s.2.2.2.2.2) → l.length - i < m →
      Tot (g_law33_PermitBounds_5 N m x) fun o => ∃ y, o = .inl y := by
    refine Tot.range l.length fun m i x hx hi rec => ?_
    obtain ⟨now, rfl, n1, n2, n3, n4, n5, n6⟩ := hx
    rw [g_law33_PermitBounds_5_succ]
    unfold s_law33_PermitBounds_5
    by_cases hlt : i < l.length
    · have d0 : decide ((0 : Int) ≤ (i : Int)) = true := decide_eq_true (by omega)
      have d1 : decide ((i : Int) < ((l.length : Nat) : Int)) = true := decide_eq_true (by omega)
      have ecall : G_law33_call N (l[i], ()) = some (l[i], ()) := rfl
      obtain ⟨⟨next, e, ⟨⟩⟩, e2, hq⟩ := permit_After_tot N hN n1 l[i]
      have e2' : G_permit_After N ((now.1, now.2.1, now.2.2.1, now.2.2.2.1, now.2.2.2.2.1, now.2.2.2.2.2), l[i], ()) = _ := e2
      simp only [d0, d1, br_true, Int.toNat_natCast, at_lt hlt, Option.bind_some, wi (i := i) (by omega), ecall, e2']
      refine Tot.br (fun _ => rec (i + 1) _ (by omega) (by omega) ⟨now, rfl, n1, n2, n3, n4, n5, n6⟩) fun h0 => ?_
      have h0 : e = 0 := by simpa using h0
      have A := hq h0
      have hup : (l[i].1 = sUp ∨ l[i].1 = sRaise) → restB s.2.2.2.2.1 l[i].2.1 = false ∧ ¬ s.2.2.2.2.2.2 < s.2.2.2.2.2.1 := fun h => by
        have := A.up h
        rw [n5, n6] at this; exact this
      have e18 := loop18 N hN l i s now next A.good (A.gs.trans n2)
      have e23 := loop23 N hN l i s now next A.good.il A.il A.lv
      have go := rec (i + 1) ((l, ((i + 1 : Nat) : Int), ()), (s, ()), (next, ()), ()) (by omega) (by omega) ⟨next, rfl, A.good, A.gs.trans n2, A.tl.trans n3, A.il.trans n4, A.rs.trans n5, A.us.trans n6⟩
      have t1 : ((next.2.1.length : Nat) : Int) = ((s.2.1.length : Nat) : Int) := by rw [A.tl, n3]
      have t2 : ((next.2.2.1.length : Nat) : Int) = ((s.2.2.1.length : Nat) : Int) := by rw [A.il, n4]
      refine Tot.brD (fun hw => ?_) fun hw => ?_
      · have e11 := loop11 N hN l i s now next (more := true) hlt hs.rl fun _ => (hup (.inl hw)).1
        have h2 := (hup (.inl hw)).2
        simp only [e11, e18, e23, Option.bind_some, Sum.elim_inl, br_true, decide_eq_false h2, br_false, t1, t2, decide_true, Bool.not_true, wi (i := i) (show i < 4611686018427387904 by omega)]
        exact go
      · have e11 := loop11 N hN l i s now next (more := decide (l[i].1 = sRaise)) hlt hs.rl fun h => (hup (.inr (of_decide_eq_true h))).1
        simp only [e11, e18, e23, Option.bind_some, Sum.elim_inl, t1, t2, decide_true, Bool.not_true, br_false, wi (i := i) (show i < 4611686018427387904 by omega)]
        refine Tot.brD (fun hw2 => ?_) fun _ => ?_
        · have h2 := (hup (.inr hw2)).2
          simp only [decide_eq_false h2, br_false]
          exact go
        · exact go
    · have d1 : decide ((i : Int) < ((l.length : Nat) : Int)) = false := decide_eq_false (by omega)
      simp only [d1, br_false]
      exact Tot.some ⟨_, rfl⟩
  obtain ⟨o, e, y, rfl⟩ := loop N 0 _ (by omega) ⟨s, rfl, hs, rfl, rfl, rfl, rfl, rfl⟩ (by omega)
  have e : g_law33_PermitBounds_5 N N ((l, 0, ()), (s, ()), (s, ()), ()) = _ := e
  simp only [e, Option.bind_some]
  rfl
end Go.Proofs.Ytknbdjkbaimelaa.Pe
