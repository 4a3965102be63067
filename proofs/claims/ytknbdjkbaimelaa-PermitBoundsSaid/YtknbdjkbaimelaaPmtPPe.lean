/- permit: what is permitted, and what comes of it. -/
import Derived.Test.YtknbdjkbaimelaaPmtSPe
namespace Go.Proofs.Ytknbdjkbaimelaa.Pe
open Go Go.VI
set_option linter.unusedVariables false
set_option linter.unusedSimpArgs false
set_option maxRecDepth 100000

theorem ble_max {n : Nat} (h : n ≤ 1000000) : Nat.ble n maxElems = true := Nat.ble_eq_true_of_le (by unfold maxElems; omega)
theorem own_loop (N : Nat) {O : Type} {f : Nat → ((List Grp × Int × Int × Unit) × ((List Int × List Inst × Int × Int × Int × List ByteArray × Int × Int × Unit) × (Stt × Unit) × List Grp × Unit)) → Option O} {gs : List Grp} {u : List Int × List Inst × Int × Int × Int × List ByteArray × Int × Int × Unit} {z : Stt} {Y : O → Prop} (hl : gs.length ≤ 16)
    (last : ∀ m, Tot (f (m + 1) ((gs, (gs.length : Int), (gs.length : Int), ()), u, (z, ()), gs, ())) Y)
    (step : ∀ m i (Q : O → Prop) (hi : i < gs.length), Tot (f m ((gs, (gs.length : Int), ((i + 1 : Nat) : Int), ()), u, (z, ()), gs.take i ++ [gs[i]], ())) Q → Tot (f (m + 1) ((gs, (gs.length : Int), (i : Int), ()), u, (z, ()), gs.take i, ())) Q) :
    ∀ N, 300 ≤ N → Tot (f N ((gs, (gs.length : Int), 0, ()), u, (z, ()), [], ())) Y := by
  have go : ∀ m i, i ≤ gs.length → gs.length - i < m → Tot (f m ((gs, (gs.length : Int), (i : Int), ()), u, (z, ()), gs.take i, ())) Y := by
    intro m
    induction m with
    | zero => intro i _ h; omega
    | succ m ih =>
      intro i hi h
      by_cases e : i = gs.length
      · subst e; rw [List.take_length]; exact last m
      · have hlt : i < gs.length := by omega
        refine step m i _ hlt ?_
        have := ih (i + 1) (by omega) (by omega)
        rw [List.take_add_one, at_lt hlt] at this
        exact this
  intro N h
  have := go N 0 (by omega) (by omega)
  exact this
theorem permit_size_tot (N : Nat) (hN : Big N) (gs : List Grp) (ts : List Int) {is : List Inst} (c : Cap) (rs : List ByteArray) (un sh : Int) (hl : is.length ≤ 60) (name : ByteArray) :
    Tot (G_permit_State_size N ((gs, ts, is, c, rs, un, sh), name, ())) fun v => 0 ≤ v.1 ∧ v.1 ≤ 60 := by
  have hN' := hN
  unfold Big at hN'
  have loop : ∀ m (i : Nat) x, i ≤ is.length → (∃ n : Nat, x = ((name, (n : Int), is, (is.length : Int), (i : Int), ()), ()) ∧ n ≤ i) → is.length - i < m → Tot (g_permit_State_size_3 N m x) fun o => ∃ n : Nat, ∃ y, o = .inl (((n : Int), ()), y) ∧ n ≤ 60 := by
    refine Tot.range is.length fun m i x hx hi rec => ?_
    obtain ⟨n, rfl, hn⟩ := hx
    rw [g_permit_State_size_3_succ]
    unfold s_permit_State_size_3
    by_cases hlt : i < is.length
    · have d0 : decide ((0 : Int) ≤ (i : Int)) = true := decide_eq_true (by omega)
      have d1 : decide ((i : Int) < ((is.length : Nat) : Int)) = true := decide_eq_true (by omega)
      simp only [d0, d1, br_true, Int.toNat_natCast, at_lt hlt, Option.bind_some, wi (i := i) (by omega), wi (i := n) (by omega)]
      refine Tot.brD (fun _ => Tot.br (fun _ => ?_) fun _ => ?_) fun _ => ?_
      · exact rec (i + 1) _ (by omega) (by omega) ⟨n + 1, rfl, by omega⟩
      · exact rec (i + 1) _ (by omega) (by omega) ⟨n, rfl, by omega⟩
      · exact rec (i + 1) _ (by omega) (by omega) ⟨n, rfl, by omega⟩
    · have d1 : decide ((i : Int) < ((is.length : Nat) : Int)) = false := decide_eq_false (by omega)
      simp only [d1, br_false]
      exact Tot.some ⟨n, _, rfl, by omega⟩
  obtain ⟨o, e, n, y, rfl, hn⟩ := loop N 0 _ (by omega) ⟨0, rfl, by omega⟩ (by omega)
  have e : g_permit_State_size_3 N N ((name, 0, is, (is.length : Int), 0, ()), ()) = _ := e
  unfold G_permit_State_size S_permit_State_size
  simp only [e, Option.bind_some]
  exact Tot.some ⟨by show (0 : Int) ≤ (n : Int); omega, by show (n : Int) ≤ 60; omega⟩
def restB (rs : List ByteArray) (name : ByteArray) : Bool := !rs.all fun x => !decide (x = name)
theorem permit_rests_is (N : Nat) (hN : Big N) (gs : List Grp) (ts : List Int) (is : List Inst) (c : Cap) {rs : List ByteArray} (un sh : Int) (hl : rs.length ≤ 20) (name : ByteArray) :
    G_permit_State_rests N ((gs, ts, is, c, rs, un, sh), name, ()) = some (restB rs name, ()) := by
  have hN' := hN
  unfold Big at hN'
  obtain ⟨o, e, ho⟩ := Tot.allL (f := g_permit_State_rests_2 N) (l := rs) (q := fun x => !decide (x = name)) (Inv := fun i x => x = ((name, rs, (rs.length : Int), (i : Int), ()), ())) (Y := fun o => ∃ y, o = .inl y) (No := fun o => ∃ y, o = .inr ((true, ()), y))
    (fun m a ha => by
      subst ha
      rw [g_permit_State_rests_2_succ]
      unfold s_permit_State_rests_2
      exact Tot.brD (fun h => absurd h (by dsimp only; omega)) fun _ => Tot.some ⟨_, rfl⟩)
    (fun m i a Q hi ha rec no => by
      subst ha
      rw [g_permit_State_rests_2_succ]
      unfold s_permit_State_rests_2
      have d0 : decide ((0 : Int) ≤ (i : Int)) = true := decide_eq_true (by omega)
      have d1 : decide ((i : Int) < ((rs.length : Nat) : Int)) = true := decide_eq_true (by omega)
      simp only [d0, d1, br_true, Int.toNat_natCast, at_lt hi, Option.bind_some, wi (i := i) (by omega)]
      refine Tot.brD (fun c => Tot.some (no (by rw [decide_eq_true c]; rfl) _ ⟨_, rfl⟩)) fun c => rec (by rw [decide_eq_false c]; rfl) _ rfl)
    N ((name, rs, (rs.length : Int), 0, ()), ()) (by omega) rfl
  unfold G_permit_State_rests S_permit_State_rests restB
  simp only [e, Option.bind_some]
  rcases ho with ⟨h, y, rfl⟩ | ⟨h, y, rfl⟩ <;> rw [h] <;> rfl
theorem permit_capped_tot (N : Nat) (hN : Big N) {s : Stt} (hs : Good s) {k : Nat} (hk : k < s.1.length) {n : Int} (h0 : 1 ≤ n) (h1 : n ≤ 200) :
    Tot (G_permit_State_capped N (s, (k : Int), n, ())) fun _ => True := by
  have hN' := hN
  unfold Big at hN'
  have hgl := hs.gl; have hgf := hs.gf; have hil := hs.il; have hcp := hs.cp
  obtain ⟨gs, ts, is, c, rs, un, sh⟩ := s
  have hk : k < gs.length := hk
  have hgl : gs.length ≤ 16 := hgl
  have hgf : ∀ g ∈ gs, facG g := hgf
  have hil : is.length ≤ 60 := hil
  have hcp : okC c := hcp
  have l0 : ∀ m (i : Nat) x, i ≤ is.length → (∃ ms : List Mach, x = ((is, (is.length : Int), (i : Int), ()), ((gs, ts, is, c, rs, un, sh), ()), ms, ()) ∧ okMs ms ∧ ms.length ≤ i) → is.length - i < m →
      Tot (gx_permit_State_capped_0 N m x) fun o => ∃ ms : List Mach, ∃ y, o = .inl (y, ((gs, ts, is, c, rs, un, sh), ()), ms, ()) ∧ okMs ms ∧ ms.length ≤ 60 := by
    refine Tot.range is.length fun m i x hx hi rec => ?_
    obtain ⟨ms, rfl, hm, hml⟩ := hx
    rw [gx_permit_State_capped_0_succ]
    unfold sx_permit_State_capped_0
    by_cases hlt : i < is.length
    · have d0 : decide ((0 : Int) ≤ (i : Int)) = true := decide_eq_true (by omega)
      have d1 : decide ((i : Int) < ((is.length : Nat) : Int)) = true := decide_eq_true (by omega)
      simp only [d0, d1, br_true, Int.toNat_natCast, at_lt hlt, Option.bind_some, wi (i := i) (by omega), group_Find_is N hN (l := gs) (by omega), ble_max (n := ms.length + 1) (by omega)]
      rcases fnd_lt gs is[i].2.1 with h | ⟨j, h, hj⟩
      · rw [h]
        exact rec (i + 1) _ (by omega) (by omega) ⟨ms, rfl, hm, by omega⟩
      · rw [h]
        have d2 : decide ((0 : Int) ≤ (j : Int)) = true := decide_eq_true (by omega)
        simp only [d2, br_true, Int.toNat_natCast, at_lt hj, Option.bind_some]
        refine Tot.br (fun _ => ?_) fun _ => ?_
        · refine rec (i + 1) _ (by omega) (by omega) ⟨_, rfl, fun m hm' => ?_, by rw [List.length_append]; simp only [List.length_cons, List.length_nil]; omega⟩
          rcases List.mem_append.1 hm' with h | h
          · exact hm m h
          · rw [List.mem_singleton.1 h]; exact (hgf _ (List.getElem_mem hj)).1
        · exact rec (i + 1) _ (by omega) (by omega) ⟨ms, rfl, hm, by omega⟩
    · have d1 : decide ((i : Int) < ((is.length : Nat) : Int)) = false := decide_eq_false (by omega)
      simp only [d1, br_false]
      exact Tot.some ⟨ms, _, rfl, hm, by omega⟩
  have l3 : ∀ (n : Nat), n ≤ 200 → ∀ m (i : Nat) x, i ≤ n → (∃ ms : List Mach, x = (((k : Int), (n : Int), (i : Int), ()), ((gs, ts, is, c, rs, un, sh), ()), ms, ()) ∧ okMs ms ∧ ms.length ≤ 60 + i) → n - i < m →
      Tot (g_permit_State_capped_3 N m x) fun o => ∃ ms : List Mach, ∃ y, o = .inl (y, ((gs, ts, is, c, rs, un, sh), ()), ms, ()) ∧ okMs ms ∧ ms.length ≤ 260 := by
    intro n hn
    refine Tot.range n fun m i x hx hi rec => ?_
    obtain ⟨ms, rfl, hm, hml⟩ := hx
    rw [g_permit_State_capped_3_succ]
    unfold s_permit_State_capped_3
    by_cases hlt : i < n
    · have d0 : decide ((0 : Int) ≤ (k : Int)) = true := decide_eq_true (by omega)
      have d1 : decide ((i : Int) < ((n : Nat) : Int)) = true := decide_eq_true (by omega)
      simp only [d0, d1, br_true, Int.toNat_natCast, at_lt hk, Option.bind_some, wi (i := i) (by omega), ble_max (n := ms.length + 1) (by omega)]
      refine rec (i + 1) _ (by omega) (by omega) ⟨_, rfl, fun m hm' => ?_, by rw [List.length_append]; simp only [List.length_cons, List.length_nil]; omega⟩
      rcases List.mem_append.1 hm' with h | h
      · exact hm m h
      · rw [List.mem_singleton.1 h]; exact (hgf _ (List.getElem_mem hk)).1
    · have d1 : decide ((i : Int) < ((n : Nat) : Int)) = false := decide_eq_false (by omega)
      simp only [d1, br_false]
      exact Tot.some ⟨ms, _, rfl, hm, by omega⟩
  obtain ⟨n, rfl⟩ : ∃ m : Nat, n = (m : Int) := ⟨n.toNat, by omega⟩
  obtain ⟨o, e, ms, y, rfl, hm, hml⟩ := l0 N 0 _ (by omega) ⟨[], rfl, fun m h => by simp at h, by simp⟩ (by omega)
  have e : gx_permit_State_capped_0 N N ((is, (is.length : Int), 0, ()), ((gs, ts, is, c, rs, un, sh), ()), [], ()) = _ := e
  obtain ⟨o2, e2, ms2, y2, rfl, hm2, hml2⟩ := l3 n (by omega) N 0 _ (by omega) ⟨ms, rfl, hm, by omega⟩ (by omega)
  have e2 : g_permit_State_capped_3 N N (((k : Int), (n : Int), 0, ()), ((gs, ts, is, c, rs, un, sh), ()), ms, ()) = _ := e2
  unfold G_permit_State_capped S_permit_State_capped
  obtain ⟨v, e3, _⟩ := caps_Within_tot N hN c ms2 hm2 (by omega)
  simp only [e, Option.bind_some, Sum.elim_inl, e2, e3]
  exact Tot.some trivial

abbrev sUp : ByteArray := ByteArray.mk (List.toArray [117, 112])
abbrev sRaise : ByteArray := ByteArray.mk (List.toArray [114, 97, 105, 115, 101])
abbrev sFix : ByteArray := ByteArray.mk (List.toArray [102, 105, 120])
/-- What is known of what is permitted. -/
def OfOk (s : Stt) (c : Call) : Prop := ∃ k : Nat, ∃ hk : k < s.1.length, ∃ ht : k < s.2.1.length, fnd s.1 c.2.1 = (k : Int) ∧ 1 ≤ c.2.2 ∧
  ((c.1 = sFix ∧ c.2.2 ≤ s.2.1[k] - s.1[k].2.1) ∨ (c.1 ≠ sFix ∧ c.2.2 ≤ s.1[k].2.2.1 - s.2.1[k] ∧ restB s.2.2.2.2.1 c.2.1 = false ∧ ¬ s.2.2.2.2.2.2 < s.2.2.2.2.2.1))
theorem permit_of_tot (N : Nat) (hN : Big N) {s : Stt} (hs : Good s) (c : Call) : Tot (G_permit_State_of N (s, c, ())) fun v => v.1 = 0 → OfOk s c := by
  have hN' := hN
  unfold Big at hN'
  have hs' := hs
  obtain ⟨hgl, hgf, htl, htb, hil, hcp, hrl⟩ := hs
  obtain ⟨gs, ts, is, cp, rs, un, sh⟩ := s
  obtain ⟨what, name, n⟩ := c
  have hgl : gs.length ≤ 16 := hgl
  have hgf : ∀ g ∈ gs, facG g := hgf
  have hil : is.length ≤ 60 := hil
  have htl : ts.length = gs.length := htl
  have hrl : rs.length ≤ 20 := hrl
  unfold G_permit_State_of S_permit_State_of
  simp only [group_Find_is N hN (l := gs) (by omega), Option.bind_some]
  rcases fnd_lt gs name with h | ⟨k, h, hk⟩
  · rw [h]; exact Tot.some fun h => by cases h
  have hkt : k < ts.length := by omega
  obtain ⟨q1, q2, q3, ⟨q4, q5⟩, q6, q7⟩ := hgf _ (List.getElem_mem hk)
  obtain ⟨t1, t2⟩ := htb k gs[k] ts[k] (at_lt hk) (at_lt hkt)
  rw [h, decide_eq_false (show ¬ (k : Int) < 0 by omega)]
  have d0 : decide ((0 : Int) ≤ (k : Int)) = true := decide_eq_true (by omega)
  simp only [br_false, d0, br_true, Int.toNat_natCast, at_lt hk, at_lt hkt, Option.bind_some, permit_rests_is N hN _ _ _ _ _ _ hrl]
  refine Tot.brD (fun _ => Tot.some fun h => by cases h) fun hn => ?_
  have rest : ∀ (hw : what ≠ sFix), Tot (VI.br (decide (sh < un)) (some ((22 : Int), ())) (VI.br (restB rs name) (some ((25 : Int), ())) (VI.br (decide ((IntKind.i64.wrap (gs[k].2.2.1 - ts[k])) < n)) (some ((21 : Int), ()))
      (VI.br (decide (what = sUp)) (Option.bind (G_permit_State_capped N ((gs, ts, is, cp, rs, un, sh), (k : Int), n, ())) (fun v4 => (VI.br v4.1 (some ((24 : Int), ())) (some ((0 : Int), ()))))) (some ((0 : Int), ())))))) fun v => v.1 = 0 → OfOk (gs, ts, is, cp, rs, un, sh) (what, name, n) := by
    intro hw
    refine Tot.brD (fun _ => Tot.some fun h => by cases h) fun c1 => ?_
    refine Tot.br (fun _ => Tot.some fun h => by cases h) fun c2 => ?_
    rw [w64 (by omega) (by omega)]
    refine Tot.brD (fun _ => Tot.some fun h => by cases h) fun c3 => ?_
    have fin : OfOk (gs, ts, is, cp, rs, un, sh) (what, name, n) := ⟨k, hk, hkt, h, by show (1 : Int) ≤ n; omega, .inr ⟨hw, by show n ≤ gs[k].2.2.1 - ts[k]; omega, c2, c1⟩⟩
    refine Tot.brD (fun _ => ?_) fun _ => Tot.some fun _ => fin
    refine Tot.bind (permit_capped_tot N hN hs' (k := k) hk (n := n) (by omega) (by omega)) fun v _ => ?_
    exact Tot.br (fun _ => Tot.some fun h => by cases h) fun _ => Tot.some fun _ => fin
  refine Tot.brD (fun hw => ?_) fun hw => ?_
  · obtain ⟨v, e, v1, v2⟩ := permit_size_tot N hN gs ts cp rs un sh hil name
    simp only [e, Option.bind_some]
    refine Tot.brD (fun _ => Tot.some fun h => by cases h) fun c3 => Tot.some fun _ => ⟨k, hk, hkt, h, by show (1 : Int) ≤ n; omega, .inl ⟨hw, ?_⟩⟩
    show n ≤ ts[k] - gs[k].2.1
    have c3 : ¬ (IntKind.i64.wrap (ts[k] - max gs[k].2.1 v.1) < n) := c3
    rw [w64 (by omega) (by omega)] at c3
    have := Int.le_max_left gs[k].2.1 v.1
    omega
  · refine Tot.brD (fun hu => ?_) fun hu => ?_
    · exact rest hw
    · exact rest hw
/-- An instance's place, and its group's. -/
def InstOk (s : Stt) (name : ByteArray) (v : Int × Int × Unit) : Prop := v = (-1, -1, ()) ∨ ∃ i : Nat, ∃ hi : i < s.2.2.1.length, v = ((i : Int), fnd s.1 s.2.2.1[i].2.1, ())
theorem permit_inst_tot (N : Nat) (hN : Big N) {s : Stt} (hg : s.1.length ≤ 16) (hl : s.2.2.1.length ≤ 60) (name : ByteArray) : Tot (G_permit_State_inst N (s, name, ())) (InstOk s name) := by
  have hN' := hN
  unfold Big at hN'
  obtain ⟨gs, ts, is, cp, rs, un, sh⟩ := s
  have hg : gs.length ≤ 16 := hg
  have hl : is.length ≤ 60 := hl
  obtain ⟨o, e, ho⟩ := Tot.findI (f := g_permit_State_inst_2 N) (l := is) (q := fun x => decide (x.1 = name)) (Inv := fun i x => x = ((name, is, (is.length : Int), (i : Int), ()), ((gs, ts, is, cp, rs, un, sh), ()), ())) (Y := fun o => ∃ y, o = .inl y) (No := fun i x o => ∃ y, o = .inr (((i : Int), fnd gs x.2.1, ()), y))
    (fun m a ha => by
      subst ha
      rw [g_permit_State_inst_2_succ]
      unfold s_permit_State_inst_2
      exact Tot.brD (fun h => absurd h (by dsimp only; omega)) fun _ => Tot.some ⟨_, rfl⟩)
    (fun m i a Q hi ha rec no => by
      subst ha
      rw [g_permit_State_inst_2_succ]
      unfold s_permit_State_inst_2
      have d0 : decide ((0 : Int) ≤ (i : Int)) = true := decide_eq_true (by omega)
      have d1 : decide ((i : Int) < ((is.length : Nat) : Int)) = true := decide_eq_true (by omega)
      simp only [d0, d1, br_true, Int.toNat_natCast, at_lt hi, Option.bind_some, wi (i := i) (by omega), group_Find_is N hN (l := gs) (by omega)]
      refine Tot.brD (fun c => Tot.some (no (decide_eq_true c) _ ⟨_, rfl⟩)) fun c => rec (decide_eq_false c) _ rfl)
    N ((name, is, (is.length : Int), 0, ()), ((gs, ts, is, cp, rs, un, sh), ()), ()) (by omega) rfl
  unfold G_permit_State_inst S_permit_State_inst
  simp only [e, Option.bind_some]
  rcases ho with ⟨_, y, rfl⟩ | ⟨i, hi, _, _, y, rfl⟩
  · exact Tot.some (.inl rfl)
  · exact Tot.some (.inr ⟨i, hi, rfl⟩)
end Go.Proofs.Ytknbdjkbaimelaa.Pe
