/- permit: what comes of what is permitted. -/
import Derived.Test.YtknbdjkbaimelaaPmtPPe
namespace Go.Proofs.Ytknbdjkbaimelaa.Pe
open Go Go.VI
set_option linter.unusedVariables false
set_option linter.unusedSimpArgs false
set_option maxRecDepth 100000

def BackOk (N : Nat) (s : Stt) (c : Call) : Prop := ∃ i k : Nat, i < s.2.2.1.length ∧ k < s.1.length ∧ G_permit_State_inst N (s, c.2.1, ()) = some ((i : Int), (k : Int), ())
theorem permit_back_tot (N : Nat) (hN : Big N) {s : Stt} (hs : Good s) (c : Call) : Tot (G_permit_State_back N (s, c, ())) fun v => v.1 = 0 → BackOk N s c := by
  have hN' := hN
  unfold Big at hN'
  obtain ⟨hgl, hgf, htl, htb, hil, hcp, hrl⟩ := hs
  obtain ⟨v, e, hv⟩ := permit_inst_tot N hN hgl hil c.2.1
  obtain ⟨gs, ts, is, cp, rs, un, sh⟩ := s
  obtain ⟨what, name, n⟩ := c
  have hgl : gs.length ≤ 16 := hgl
  have hil : is.length ≤ 60 := hil
  have htl : ts.length = gs.length := htl
  have e : G_permit_State_inst N ((gs, ts, is, cp, rs, un, sh), name, ()) = _ := e
  unfold G_permit_State_back S_permit_State_back
  simp only [e, Option.bind_some]
  rcases hv with rfl | ⟨i, hi, rfl⟩
  · exact Tot.some fun h => by cases h
  have hi : i < is.length := hi
  rw [decide_eq_false (show ¬ (i : Int) < 0 by omega), br_false]
  rcases fnd_lt gs is[i].2.1 with h | ⟨k, h, hk⟩
  · have h : fnd (gs, ts, is, cp, rs, un, sh).1 (gs, ts, is, cp, rs, un, sh).2.2.1[i].2.1 = -1 := h
    rw [h]; exact Tot.some fun h => by cases h
  have h : fnd (gs, ts, is, cp, rs, un, sh).1 (gs, ts, is, cp, rs, un, sh).2.2.1[i].2.1 = (k : Int) := h
  have hkt : k < ts.length := by omega
  rw [h] at e
  rw [h, decide_eq_false (show ¬ (k : Int) < 0 by omega), br_false]
  have d0 : decide ((0 : Int) ≤ (i : Int)) = true := decide_eq_true (by omega)
  have d1 : decide ((0 : Int) ≤ (k : Int)) = true := decide_eq_true (by omega)
  have fin : BackOk N (gs, ts, is, cp, rs, un, sh) (what, name, n) := ⟨i, k, hi, hk, e⟩
  simp only [d0, d1, br_true, Int.toNat_natCast, at_lt hi, at_lt hk, at_lt hkt, Option.bind_some]
  repeat' first
    | exact Tot.some fun _ => fin
    | refine Tot.br (fun _ => ?_) fun _ => ?_
def WhyOk (N : Nat) (s : Stt) (c : Call) : Prop := ((c.1 = sUp ∨ c.1 = sRaise ∨ c.1 = sFix) ∧ OfOk s c) ∨ (c.1 ≠ sUp ∧ c.1 ≠ sRaise ∧ c.1 ≠ sFix ∧ BackOk N s c)
theorem permit_Why_tot (N : Nat) (hN : Big N) {s : Stt} (hs : Good s) (c : Call) : Tot (G_permit_Why N (s, c, ())) fun v => v.1 = 0 → WhyOk N s c := by
  obtain ⟨v, e, hv⟩ := permit_of_tot N hN hs c
  obtain ⟨u, e2, hu⟩ := permit_back_tot N hN hs c
  obtain ⟨gs, ts, is, cp, rs, un, sh⟩ := s
  unfold G_permit_Why S_permit_Why
  simp only [e, e2, Option.bind_some]
  refine Tot.brD (fun h => Tot.some fun h0 => .inl ⟨.inl h, hv h0⟩) fun h1 => ?_
  refine Tot.brD (fun h => Tot.some fun h0 => .inl ⟨.inr (.inl h), hv h0⟩) fun h2 => ?_
  refine Tot.brD (fun h => Tot.some fun h0 => .inl ⟨.inr (.inr h), hv h0⟩) fun h3 => ?_
  refine Tot.brD (fun h => Tot.some fun h0 => .inr ⟨h1, h2, h3, hu h0⟩) fun h4 => ?_
  refine Tot.brD (fun h => Tot.some fun h0 => .inr ⟨h1, h2, h3, hu h0⟩) fun h5 => ?_
  exact Tot.some fun h => by cases h
/-- What comes of a call. -/
structure Aft (s : Stt) (c : Call) (t : Stt) : Prop where
  good : Good t
  gs : t.1 = s.1
  il : t.2.2.1.length = s.2.2.1.length
  tl : t.2.1.length = s.2.1.length
  lv : ∀ (i : Nat) (x y : Inst), s.2.2.1[i]? = some x → t.2.2.1[i]? = some y → x.2.2.1 = 3 → y.2.2.1 = 3
  rs : t.2.2.2.2.1 = s.2.2.2.2.1
  us : t.2.2.2.2.2 = s.2.2.2.2.2
  up : c.1 = sUp ∨ c.1 = sRaise → restB s.2.2.2.2.1 c.2.1 = false ∧ ¬ s.2.2.2.2.2.2 < s.2.2.2.2.2.1
theorem up_fix : sUp ≠ sFix := by decide
theorem raise_fix : sRaise ≠ sFix := by decide
theorem permit_After_tot (N : Nat) (hN : Big N) {s : Stt} (hs : Good s) (c : Call) : Tot (G_permit_After N (s, c, ())) fun v => v.2.1 = 0 → Aft s c v.1 := by
  have hN' := hN
  unfold Big at hN'
  have hs' := hs
  obtain ⟨v, e, hv⟩ := permit_Why_tot N hN hs c
  obtain ⟨hgl, hgf, htl, htb, hil, hcp, hrl⟩ := hs
  have hinst := fun h1 h2 => permit_inst_tot N hN (s := s) h1 h2 c.2.1
  obtain ⟨gs, ts, is, ⟨c1, c2, c3⟩, rs, un, sh⟩ := s
  obtain ⟨what, name, n⟩ := c
  have hgl : gs.length ≤ 16 := hgl
  have hgf : ∀ g ∈ gs, facG g := hgf
  have hil : is.length ≤ 60 := hil
  have htl : ts.length = gs.length := htl
  have hrl : rs.length ≤ 20 := hrl
  have htb : ∀ (i : Nat) (g : Grp) (t : Int), gs[i]? = some g → ts[i]? = some t → g.2.1 ≤ t ∧ t ≤ g.2.2.1 := htb
  have e : G_permit_Why N ((gs, ts, is, (c1, c2, c3), rs, un, sh), (what, name, n), ()) = _ := e
  have loop := own_loop N (f := gx_permit_After_0 N) (gs := gs) (u := (ts, is, c1, c2, c3, rs, un, sh, ())) (z := ([], [], [], (0, 0, 0), [], 0, 0)) (Y := fun o => ∃ y z, o = .inl (y, (ts, is, c1, c2, c3, rs, un, sh, ()), z, gs, ())) hgl
    (fun m => by
      rw [gx_permit_After_0_succ]
      unfold sx_permit_After_0
      exact Tot.brD (fun h => absurd h (by dsimp only; omega)) fun _ => Tot.some ⟨_, _, rfl⟩)
    (fun m i Q hi rec => by
      rw [gx_permit_After_0_succ]
      unfold sx_permit_After_0
      obtain ⟨_, q2, q3, _⟩ := hgf _ (List.getElem_mem hi)
      have hlen : (gs.take i).length ≤ 16 := by rw [List.length_take]; omega
      have d0 : decide ((0 : Int) ≤ (i : Int)) = true := decide_eq_true (by omega)
      have d1 : decide ((i : Int) < ((gs.length : Nat) : Int)) = true := decide_eq_true (by omega)
      simp only [d0, d1, br_true, Int.toNat_natCast, at_lt hi, Option.bind_some, wi (i := i) (by omega), ble_max (n := gs[i].2.2.2.1.2.2.2.1.length) (by omega), ble_max (n := gs[i].2.2.2.1.2.2.2.2.1.length) (by omega), ble_max (n := (gs.take i).length + 1) (by omega)]
      exact rec) N (by omega)
  obtain ⟨o, e3, y, z, rfl⟩ := loop
  unfold G_permit_After S_permit_After
  simp only [e, Option.bind_some]
  refine Tot.br (fun h => Tot.some fun h0 => ?_) fun h => ?_
  · have h : (!decide (v.1 = 0)) = true := h
    have h0 : v.1 = 0 := h0
    rw [decide_eq_true h0] at h; cases h
  have h0 : v.1 = 0 := by simpa using h
  have hv := hv h0
  simp only [e3, Option.bind_some, Sum.elim_inl, ble_max (n := ts.length) (by omega), ble_max (n := is.length) (by omega), ble_max (n := rs.length) (by omega), br_true, group_Find_is N hN (l := gs) (by omega)]
  -- a target that changes
  have chg : ∀ (k : Nat) (hk : k < gs.length) (hkt : k < ts.length) (t : Int) (is' : List Inst), gs[k].2.1 ≤ t → t ≤ gs[k].2.2.1 → is'.length = is.length → (∀ (i : Nat) (x y : Inst), is[i]? = some x → is'[i]? = some y → x.2.2.1 = 3 → y.2.2.1 = 3) →
      (what = sUp ∨ what = sRaise → restB rs name = false ∧ ¬ sh < un) → Aft (gs, ts, is, (c1, c2, c3), rs, un, sh) (what, name, n) (gs, ts.set k t, is', (c1, c2, c3), rs, un, sh) := by
    intro k hk hkt t is' q1 q2 q3 q4 q5
    refine ⟨⟨hgl, hgf, by show (ts.set k t).length = _; rw [List.length_set]; exact htl, ?_, by show is'.length ≤ 60; omega, hcp, hrl⟩, rfl, q3, by show (ts.set k t).length = _; rw [List.length_set], q4, rfl, rfl, q5⟩
    intro i g u hg hu
    have hg : gs[i]? = some g := hg
    have hu : (ts.set k t)[i]? = some u := hu
    by_cases e : k = i
    · subst e
      rw [List.getElem?_set_self hkt] at hu
      rw [at_lt hk] at hg
      cases hg; cases hu
      exact ⟨q1, q2⟩
    · rw [List.getElem?_set_ne e] at hu
      exact htb i g u hg hu
  have same3 : ∀ (i : Nat) (x y : Inst), is[i]? = some x → is[i]? = some y → x.2.2.1 = 3 → y.2.2.1 = 3 := fun i x y h1 h2 h3 => by rw [h1] at h2; cases h2; exact h3
  have pick : (what = sUp ∨ what = sRaise ∨ what = sFix) → OfOk (gs, ts, is, (c1, c2, c3), rs, un, sh) (what, name, n) := fun h => by
    rcases hv with ⟨_, h'⟩ | ⟨h1, h2, h3, _⟩
    · exact h'
    · rcases h with h | h | h
      · exact absurd h h1
      · exact absurd h h2
      · exact absurd h h3
  have hmore : (what = sUp ∨ what = sRaise) → ∃ k : Nat, ∃ hk : k < gs.length, ∃ hkt : k < ts.length, fnd gs name = (k : Int) ∧ 1 ≤ n ∧ n ≤ gs[k].2.2.1 - ts[k] ∧ restB rs name = false ∧ ¬ sh < un := fun hw => by
    obtain ⟨k, hk, hkt, q1, q2, q3⟩ := pick (by rcases hw with h | h <;> simp [h])
    rcases q3 with ⟨q3, _⟩ | ⟨_, q3, q4, q5⟩
    · rcases hw with h | h
      · exact absurd (h.symm.trans q3) up_fix
      · exact absurd (h.symm.trans q3) raise_fix
    · exact ⟨k, hk, hkt, q1, q2, q3, q4, q5⟩
  have grow : (what = sUp ∨ what = sRaise) → ∃ k : Nat, ∃ hkt : k < ts.length, fnd gs name = (k : Int) ∧ Aft (gs, ts, is, (c1, c2, c3), rs, un, sh) (what, name, n) (gs, ts.set k (IntKind.i64.wrap (ts[k] + n)), is, (c1, c2, c3), rs, un, sh) := fun hw => by
    obtain ⟨k, hk, hkt, q1, q2, q3, q4, q5⟩ := hmore hw
    obtain ⟨_, _, _, ⟨q6, q7⟩, q8, q9⟩ := hgf _ (List.getElem_mem hk)
    obtain ⟨t1, t2⟩ := htb k gs[k] ts[k] (at_lt hk) (at_lt hkt)
    refine ⟨k, hkt, q1, ?_⟩
    rw [w64 (by omega) (by omega)]
    exact chg k hk hkt _ is (by omega) (by omega) rfl same3 fun _ => ⟨q4, q5⟩
  have inR : ∀ (k m : Nat), k < m → (decide ((0 : Int) ≤ (k : Int))).and (decide ((k : Int) < ((m : Nat) : Int))) = true := fun k m h => by
    rw [decide_eq_true (show (0 : Int) ≤ (k : Int) by omega), decide_eq_true (show (k : Int) < ((m : Nat) : Int) by omega)]; rfl
  refine Tot.brD (fun hw => ?_) fun hw1 => ?_
  · obtain ⟨k, hkt, q1, q2⟩ := grow (.inl hw)
    rw [q1]
    simp only [inR k _ hkt, br_true, Int.toNat_natCast, at_lt hkt, Option.bind_some]
    exact Tot.some fun _ => q2
  refine Tot.brD (fun hw => ?_) fun hw2 => ?_
  · obtain ⟨k, hkt, q1, q2⟩ := grow (.inr hw)
    rw [q1]
    simp only [inR k _ hkt, br_true, Int.toNat_natCast, at_lt hkt, Option.bind_some]
    exact Tot.some fun _ => q2
  refine Tot.brD (fun hw => ?_) fun hw3 => ?_
  · obtain ⟨k, hk, hkt, q1, q2, q3⟩ := pick (.inr (.inr hw))
    have hk : k < gs.length := hk
    have hkt : k < ts.length := hkt
    have q1 : fnd gs name = (k : Int) := q1
    have q2 : 1 ≤ n := q2
    have q3 : n ≤ ts[k] - gs[k].2.1 := by
      rcases q3 with ⟨_, q3⟩ | ⟨q3, _⟩
      · exact q3
      · exact absurd hw q3
    obtain ⟨_, _, _, ⟨q6, q7⟩, q8, q9⟩ := hgf _ (List.getElem_mem hk)
    obtain ⟨t1, t2⟩ := htb k gs[k] ts[k] (at_lt hk) (at_lt hkt)
    rw [q1]
    simp only [inR k _ hkt, br_true, Int.toNat_natCast, at_lt hkt, Option.bind_some]
    rw [w64 (by omega) (by omega)]
    exact Tot.some fun _ => chg k hk hkt _ is (by omega) (by omega) rfl same3 fun h => by
      rcases h with h | h
      · exact absurd h hw1
      · exact absurd h hw2
  · rcases hv with ⟨h', _⟩ | ⟨_, _, _, i, k, hi, hk, e4⟩
    · rcases h' with h' | h' | h'
      · exact absurd h' hw1
      · exact absurd h' hw2
      · exact absurd h' hw3
    have hi : i < is.length := hi
    have hk : k < gs.length := hk
    have hkt : k < ts.length := by omega
    have e4 : G_permit_State_inst N ((gs, ts, is, (c1, c2, c3), rs, un, sh), name, ()) = _ := e4
    obtain ⟨_, _, _, ⟨q6, q7⟩, q8, q9⟩ := hgf _ (List.getElem_mem hk)
    obtain ⟨t1, t2⟩ := htb k gs[k] ts[k] (at_lt hk) (at_lt hkt)
    simp only [e4, Option.bind_some, inR k _ hkt, inR k _ hk, inR i _ hi, br_true, Int.toNat_natCast, at_lt hkt, at_lt hk, at_lt hi, List.foldl_cons, List.foldl_nil]
    rw [w64 (by omega) (by omega)]
    refine Tot.some fun _ => chg k hk hkt _ _ (Int.le_max_left _ _) (Int.max_le.2 ⟨by omega, by omega⟩) (List.length_set ..) (fun j x y h1 h2 h3 => ?_) fun h => by
      rcases h with h | h
      · exact absurd h hw1
      · exact absurd h hw2
    by_cases e : i = j
    · subst e
      rw [List.getElem?_set_self hi] at h2
      cases h2; rfl
    · rw [List.getElem?_set_ne e] at h2
      rw [h1] at h2; cases h2; exact h3
end Go.Proofs.Ytknbdjkbaimelaa.Pe
