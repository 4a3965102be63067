/- LedgerTells: what the law computes is true. -/
import Derived.Test.YtiiiipdnodgkmaaLdgRLt
import Derived.Test.YtiiiipdnodgkmaaLdgELt
namespace Go.Proofs.Ytiiiipdnodgkmaa.Lt
open Go Go.VI
set_option linter.unusedVariables false
set_option linter.unusedSimpArgs false
set_option maxRecDepth 100000

theorem known35_is (m : Nat) : G_law35_known (m + 300) () = some (true, ()) := by kernel_rfl
section
variable {N : Nat} (hN : Big N) {gs : List Grp} (hlen : gs.length ≤ 16) (hpr : ∀ g ∈ gs, 0 ≤ g.2.2.2.2.1 ∧ g.2.2.2.2.1 ≤ LTop) {ll : List (List LInst)} (hl30 : ll.length ≤ 30) (hl60 : ∀ x ∈ ll, x.length ≤ 60)
include hN hlen hpr hl30 hl60
omit hpr in
/-- What the document says of a group. -/
theorem ref_all {f : Nat → RAlA → Option RAlO} (hf : ∀ m x, f (m + 1) x = stAl N (fun a b => IntKind.i64.wrap (a + b)) (f m) x) {i : Nat} (hi : i ≤ ll.length) {name : ByteArray} (hn : 0 ≤ fnd gs name) :
    f N ((name, 0, 0, ()), (gs, ()), ll.take i, ()) = some (.inl ((allT (ll.take i) name, ()), (gs, ()), ll.take i, ())) := by
  refine al_loop hf hN (by omega) (by rw [List.length_take]; omega) (fun l hl => hl60 l (List.mem_of_mem_take hl)) hn (fun l => allT l name) rfl fun k hk => ?_
  rw [List.length_take] at hk
  have hin := allT_in (fun l hl => hl60 l hl) name k (by omega)
  have hc := cnt_le ll[k] name
  have := hl60 _ (List.getElem_mem (by omega : k < ll.length))
  rw [List.take_take, List.take_take, Nat.min_eq_left (by omega), Nat.min_eq_left (by omega), List.getElem_take, List.take_add_one, at_lt (by omega : k < ll.length)]
  show _ = allT (ll.take k ++ [ll[k]]) name
  rw [allT_snoc, w64 (by omega) (by omega)]
omit hpr in
theorem ref_peak {f : Nat → RAlA → Option RAlO} (hf : ∀ m x, f (m + 1) x = stAl N (fun a b => List.foldl Max.max a [b]) (f m) x) {i : Nat} (hi : i ≤ ll.length) {name : ByteArray} (hn : 0 ≤ fnd gs name) :
    f N ((name, 0, 0, ()), (gs, ()), ll.take i, ()) = some (.inl ((peakT (ll.take i) name, ()), (gs, ()), ll.take i, ())) := by
  refine al_loop hf hN (by omega) (by rw [List.length_take]; omega) (fun l hl => hl60 l (List.mem_of_mem_take hl)) hn (fun l => peakT l name) rfl fun k hk => ?_
  rw [List.length_take] at hk
  rw [List.take_take, List.take_take, Nat.min_eq_left (by omega), Nat.min_eq_left (by omega), List.getElem_take, List.take_add_one, at_lt (by omega : k < ll.length)]
  show _ = peakT (ll.take k ++ [ll[k]]) name
  rw [peakT_snoc]; rfl
theorem cmp_is {i : Nat} (hi : i < ll.length) (cut : Int) :
    g_law35_LedgerTells_19 N N ((gs, ll, cut, (i : Int), 0, ()), (((i + 1 : Nat) : Int), true, ()), (gs, ()), gs.map (rowT (ll.take (i + 1))), ll.take (i + 1), ()) = some (.inl ((gs, ll, cut, (i : Int), ()), (((i + 1 : Nat) : Int), true, ()), (gs, ()), gs.map (rowT (ll.take (i + 1))), ll.take (i + 1), ())) := by
  have hN' := hN
  unfold Big at hN'
  have loop : ∀ m (k : Nat) x, k ≤ gs.length → x = ((gs, ll, cut, (i : Int), (k : Int), ()), (((i + 1 : Nat) : Int), true, ()), (gs, ()), gs.map (rowT (ll.take (i + 1))), ll.take (i + 1), ()) → gs.length - k < m → Tot (g_law35_LedgerTells_19 N m x) fun o => o = .inl ((gs, ll, cut, (i : Int), ()), (((i + 1 : Nat) : Int), true, ()), (gs, ()), gs.map (rowT (ll.take (i + 1))), ll.take (i + 1), ()) := by
    refine Tot.range gs.length fun m k x ha hk rec => ?_
    subst ha
    rw [g_law35_LedgerTells_19_succ]
    unfold s_law35_LedgerTells_19
    by_cases hlt : k < gs.length
    · have d0 : decide ((0 : Int) ≤ (k : Int)) = true := decide_eq_true (by omega)
      have d1 : decide ((k : Int) < ((gs.length : Nat) : Int)) = true := decide_eq_true (by omega)
      obtain ⟨q, g, hg, hgn, hfn, hlook⟩ := look_fnd (name := gs[k].1) gs 0 ⟨gs[k], List.getElem_mem hlt, rfl⟩
      rw [Nat.zero_add] at hfn
      have hfn : fnd gs gs[k].1 = (q : Int) := hfn
      have hl1 := hlook (rowT (ll.take (i + 1))) (rowT_name _)
      have hgl : (gs.map (rowT (M := Mach) (ll.take (i + 1)))).length ≤ 1000 := by rw [List.length_map]; omega
      have of9 := of_loop (f := gx_law35_LedgerTells_9 N) (fun m x => rfl) hN gs[k].1 (((i + 1 : Nat) : Int), true, ()) hgl
      have of10 := of_loop (f := gx_law35_LedgerTells_10 N) (fun m x => rfl) hN gs[k].1 (((i + 1 : Nat) : Int), true, ()) hgl
      unfold row00 at of9 of10
      rw [hl1] at of9 of10
      have hp := hpr g (List.mem_of_getElem? hg)
      rw [rowT_is hp.1 hl60 (i + 1) (by omega), hgn] at of9 of10
      have hin := allT_in hl60 gs[k].1 (i + 1) (by omega)
      have a11 := ref_all (f := gx_law35_LedgerTells_11 N) hN hlen hl30 hl60 (fun m x => rfl) (i := i + 1) (by omega) (name := gs[k].1) (by rw [hfn]; omega)
      have a14 := ref_all (f := gx_law35_LedgerTells_14 N) hN hlen hl30 hl60 (fun m x => rfl) (i := i + 1) (by omega) (name := gs[k].1) (by rw [hfn]; omega)
      have a13 := ref_peak (f := gx_law35_LedgerTells_13 N) hN hlen hl30 hl60 (fun m x => rfl) (i := i + 1) (by omega) (name := gs[k].1) (by rw [hfn]; omega)
      have a12 := su_loop (f := gx_law35_LedgerTells_12 N) (fun m x => rfl) hN hg hp.1 hp.2 (n := allT (ll.take (i + 1)) gs[k].1) hin.1 (by omega) (ll.take (i + 1))
      have fi := ref16_Find_is N hN (by omega : gs.length ≤ 140737488355328) gs[k].1
      rw [hfn] at fi
      have dq : decide ((q : Int) < 0) = false := decide_eq_false (by omega)
      have c0 : decide (((i + 1 : Nat) : Int) = 0) = false := decide_eq_false (by omega)
      obtain ⟨r, m1, m2⟩ := mean_there (allT (ll.take (i + 1)) gs[k].1) (t := i + 1) (by omega) (by omega)
      simp only [d0, d1, br_true, Int.toNat_natCast, at_lt hlt, Option.bind_some, Bool.not_true, br_false, of9, of10, fi, dq, a11, a12, a13, a14, Sum.elim_inl, decide_true, c0, m1, m2, wi (i := k) (by omega), wi (i := i) (by omega)]
      exact rec (k + 1) _ (by omega) (by omega) rfl
    · have d1 : decide ((k : Int) < ((gs.length : Nat) : Int)) = false := decide_eq_false (by omega)
      simp only [d1, br_false]
      exact Tot.some rfl
  obtain ⟨o, e, rfl⟩ := loop N 0 ((gs, ll, cut, (i : Int), 0, ()), (((i + 1 : Nat) : Int), true, ()), (gs, ()), gs.map (rowT (ll.take (i + 1))), ll.take (i + 1), ()) (by omega) rfl (by omega)
  exact e
/-- What all cost, by the document. -/
theorem ref_tot (hd : ∀ (k : Nat) (hk : k < gs.length), fnd gs gs[k].1 = (k : Int)) {i : Nat} (hi : i ≤ ll.length) :
    gx_law35_LedgerTells_8 N N ((0, 0, ()), (gs, ()), ll.take i, ()) = some (.inl ((totS ((gs.map (rowT (ll.take i))).map (·.2.2.2.2)) 0, ()), (gs, ()), ll.take i, ())) := by
  have hN' := hN
  unfold Big at hN'
  have hT : LTop = 1125899906842624 := rfl
  have hrow : ∀ r ∈ gs.map (rowT (ll.take i)), okRow i r := fun r h => by
    obtain ⟨g, hg, rfl⟩ := List.mem_map.1 h
    exact rowT_ok hl60 (hpr g hg).1 (hpr g hg).2 i hi
  have loop : ∀ m (k : Nat) x, k ≤ gs.length → x = ((totS (((gs.take k).map (rowT (ll.take i))).map (·.2.2.2.2)) 0, (k : Int), ()), (gs, ()), ll.take i, ()) → gs.length - k < m → Tot (gx_law35_LedgerTells_8 N m x) fun o => o = .inl ((totS ((gs.map (rowT (ll.take i))).map (·.2.2.2.2)) 0, ()), (gs, ()), ll.take i, ()) := by
    refine Tot.range gs.length fun m k x ha hk rec => ?_
    subst ha
    rw [gx_law35_LedgerTells_8_succ]
    unfold sx_law35_LedgerTells_8
    by_cases hlt : k < gs.length
    · have d0 : decide ((0 : Int) ≤ (k : Int)) = true := decide_eq_true (by omega)
      have d1 : decide ((k : Int) < ((gs.length : Nat) : Int)) = true := decide_eq_true (by omega)
      have hfn := hd k hlt
      have hp := hpr gs[k] (List.getElem_mem hlt)
      have hin := allT_in hl60 gs[k].1 i hi
      have a18 := ref_all (f := gx_law35_LedgerTells_18 N) hN hlen hl30 hl60 (fun m x => rfl) hi (name := gs[k].1) (by rw [hfn]; omega)
      have a19 := su_loop (f := gx_law35_LedgerTells_19 N) (fun m x => rfl) hN (at_lt hlt) hp.1 hp.2 (n := allT (ll.take i) gs[k].1) hin.1 (by omega) (ll.take i)
      have fi := ref16_Find_is N hN (by omega : gs.length ≤ 140737488355328) gs[k].1
      rw [hfn] at fi
      have dq : decide ((k : Int) < 0) = false := decide_eq_false (by omega)
      have hin2 := totS_in (l := ((gs.take k).map (rowT (ll.take i))).map (·.2.2.2.2)) (a := 0) (by omega) (by omega) (fun s hs => by
        obtain ⟨r, hr, rfl⟩ := List.mem_map.1 hs
        obtain ⟨g, hg, rfl⟩ := List.mem_map.1 hr
        have := hrow _ (List.mem_map.2 ⟨g, List.mem_of_mem_take hg, rfl⟩)
        exact ⟨this.2.2.2.2.2.2.1, this.2.2.2.2.2.2.2⟩)
      have hmn : 0 ≤ allT (ll.take i) gs[k].1 * gs[k].2.2.2.2.1 := Int.mul_nonneg hin.1 hp.1
      simp only [d0, d1, br_true, Int.toNat_natCast, at_lt hlt, Option.bind_some, br_false, fi, dq, a18, a19, Sum.elim_inl, List.foldl_cons, List.foldl_nil, wi (i := k) (by omega)]
      rw [w64 (by omega) (by omega)]
      refine rec (k + 1) _ (by omega) (by omega) ?_
      rw [List.take_add_one, at_lt hlt, List.map_append, List.map_append]
      simp only [Option.toList_some, List.map_cons, List.map_nil, totS_app]
      rw [rowT_is hp.1 hl60 i hi]
    · have d1 : decide ((k : Int) < ((gs.length : Nat) : Int)) = false := decide_eq_false (by omega)
      simp only [d1, br_false]
      rw [List.take_of_length_le (by omega : gs.length ≤ k)]
      exact Tot.some rfl
  obtain ⟨o, e, rfl⟩ := loop N 0 ((0, 0, ()), (gs, ()), ll.take i, ()) (by omega) rfl (by omega)
  exact e
theorem all_is (hd : ∀ (k : Nat) (hk : k < gs.length), fnd gs gs[k].1 = (k : Int)) (cut : Int) : ∃ y, g_law35_LedgerTells_8 N N ((gs, ll, cut, 0, ()), (0, true, ()), (gs, ()), gs.map row0, [], ()) = some (.inl y) := by
  have hN' := hN
  unfold Big at hN'
  have hrow : ∀ i, i ≤ ll.length → ∀ r ∈ gs.map (rowT (ll.take i)), okRow i r := fun i hi r h => by
    obtain ⟨g, hg, rfl⟩ := List.mem_map.1 h
    exact rowT_ok hl60 (hpr g hg).1 (hpr g hg).2 i hi
  have loop : ∀ m (i : Nat) x, i ≤ ll.length → x = ((gs, ll, cut, (i : Int), ()), ((i : Int), true, ()), (gs, ()), gs.map (rowT (ll.take i)), ll.take i, ()) → ll.length - i < m → Tot (g_law35_LedgerTells_8 N m x) fun o => ∃ y, o = .inl y := by
    refine Tot.range ll.length fun m i x ha hi rec => ?_
    subst ha
    rw [g_law35_LedgerTells_8_succ]
    unfold s_law35_LedgerTells_8
    by_cases hlt : i < ll.length
    · have d0 : decide ((0 : Int) ≤ (i : Int)) = true := decide_eq_true (by omega)
      have d1 : decide ((i : Int) < ((ll.length : Nat) : Int)) = true := decide_eq_true (by omega)
      have hb1 : Nat.ble (ll.take i).length maxElems = true := Nat.ble_eq_true_of_le (by rw [List.length_take]; unfold maxElems; omega)
      have hb2 : Nat.ble ((ll.take i).length + 1) maxElems = true := Nat.ble_eq_true_of_le (by rw [List.length_take]; unfold maxElems; omega)
      have hb3 : Nat.ble (gs.map (rowT (M := Mach) (ll.take (i + 1)))).length maxElems = true := Nat.ble_eq_true_of_le (by rw [List.length_map]; unfold maxElems; omega)
      have hmore : (gs.map (rowT (ll.take i))).map (more ll[i]) = gs.map (rowT (ll.take (i + 1))) := by
        rw [List.map_map]
        refine List.map_congr_left fun g _ => ?_
        rw [List.take_add_one, at_lt hlt]
        exact (rowT_snoc _ _ _).symm
      have ht : ll.take i ++ [ll[i]] = ll.take (i + 1) := by rw [List.take_add_one, at_lt hlt]; rfl
      have h60 := hl60 _ (List.getElem_mem hlt)
      have hS : ∀ r ∈ gs.map (rowT (ll.take (i + 1))), 0 ≤ r.2.2.2.2 ∧ r.2.2.2.2 ≤ LTop := fun r hr => ⟨(hrow (i + 1) (by omega) r hr).2.2.2.2.2.2.1, (hrow (i + 1) (by omega) r hr).2.2.2.2.2.2.2⟩
      have t4 := tot_loop (f := gx_law35_LedgerTells_4 N) (fun m x => rfl) hN ((i + 1 : Nat) : Int) true (rs := gs.map (rowT (ll.take (i + 1)))) (by rw [List.length_map]; omega) hS
      have t8 := ref_tot hN hlen hpr hl30 hl60 hd (i := i + 1) (by omega)
      have hc := cmp_is hN hlen hpr hl30 hl60 hlt cut
      simp only [d0, d1, br_true, Int.toNat_natCast, at_lt hlt, Option.bind_some, Bool.not_true, br_false, hb1, hb2]
      rw [add_is (g := gx_law35_LedgerTells_15 N) (f := gx_law35_LedgerTells_5 N) (c := gx_law35_LedgerTells_1 N) (fun m x => rfl) (fun m x => rfl) (fun m x => rfl) hN h60 (IntKind.i64.wrap ((i : Int) + 1)) true (by rw [List.length_map]; omega) (by omega : i ≤ 1000) (hrow i hi), hmore]
      generalize decide ((i : Int) = Int.tmod (IntKind.i64.wrap cut) 30) = cb
      cases cb
      · simp only [br_false, Option.bind_some, wi (i := i) (by omega), ht, hc, Sum.elim_inl, br_true, Bool.not_true, t4, t8, decide_true]
        exact rec (i + 1) _ (by omega) (by omega) rfl
      · simp only [br_false, Option.bind_some, wi (i := i) (by omega), ht, hc, Sum.elim_inl, br_true, Bool.not_true, t4, t8, decide_true, hb3]
        rw [add_is (g := gx_law35_LedgerTells_17 N) (f := gx_law35_LedgerTells_7 N) (c := gx_law35_LedgerTells_3 N) (fun m x => rfl) (fun m x => rfl) (fun m x => rfl) hN h60 (IntKind.i64.wrap (((i + 1 : Nat) : Int) + 1)) true (by rw [List.length_map]; omega) (by omega : i + 1 ≤ 1000) (hrow (i + 1) (by omega))]
        simp only [br_false, Option.bind_some, wi (i := i) (by omega), ht, hc, Sum.elim_inl, br_true, Bool.not_true, t4, t8, decide_true]
        exact rec (i + 1) _ (by omega) (by omega) rfl
    · have d1 : decide ((i : Int) < ((ll.length : Nat) : Int)) = false := decide_eq_false (by omega)
      simp only [d1, br_false]
      exact Tot.some ⟨_, rfl⟩
  obtain ⟨o, e, y, rfl⟩ := loop N 0 ((gs, ll, cut, 0, ()), (0, true, ()), (gs, ()), gs.map row0, [], ()) (by omega) rfl (by omega)
  exact ⟨y, e⟩
end
theorem names_own {N : Nat} {l : List Grp} (h : rightGs N l = true) (k : Nat) (hk : k < l.length) : fnd l l[k].1 = (k : Int) := by
  unfold rightGs at h
  rw [Bool.and_eq_true] at h
  have := allN_iff.1 h.2 k (by omega) (by omega)
  unfold okGr at this
  rw [at_lt hk] at this
  simp only [Bool.and_eq_true] at this
  exact of_decide_eq_true this.2.2

theorem pureLedgerTells (x : List Grp × List (List LInst) × Int × Unit) (hw : Ty.wf (.slice tyGrp) x.1 ∧ Ty.wf (.slice (.slice (.agg (.pair .str (.pair .str (.pair (.int .i64) (.pair (.int .i64) (.int .i64)))))))) x.2.1 ∧ Ty.wf (.int .u8) x.2.2.1 ∧ True) : ∃ N, G_law35_LedgerTells N x = some (true, ()) := by
  obtain ⟨gs, ll, cut, ⟨⟩⟩ := x
  have hgs : okGs gs := okGs_of hw.1
  have hl : okLl ll := ⟨Nat.le_trans hw.2.1.1 reach_le, fun y hy => Nat.le_trans (hw.2.1.2 y hy).1 reach_le⟩
  clear hw
  refine ⟨281474976710656 + 300, ?_⟩
  have hk := known35_is 281474976710656
  have hN := big
  generalize 281474976710656 + 300 = N at *
  obtain ⟨⟨b1, ⟨⟩⟩, e1, k1⟩ := ref16_Light_tot N hN hgs
  have e2 := ref16_Right_is N hN hgs
  have e3 := group_Right_is N hN hgs
  obtain ⟨⟨b4, ⟨⟩⟩, e4, k4⟩ := law35_light_tot N hN hl
  unfold G_law35_LedgerTells S_law35_LedgerTells
  simp only [e1, e2, e3, e4, hk, Option.bind_some]
  cases b1
  · rfl
  cases b4
  · rfl
  cases hr : rightGs N gs
  · simp only [Bool.not_true, Bool.not_false, br_false, br_true]
    cases decide ((0 : Int) < ((ll.length : Nat) : Int)) <;> rfl
  simp only [Bool.not_true, br_false]
  obtain ⟨h30, h60⟩ := k4 rfl
  obtain ⟨hlen, hpr⟩ := prices hr
  rw [new_loop (f := gx_law35_LedgerTells_0 N) (fun m x => rfl) hN (by omega : gs.length ≤ 1000) (0, true, ())]
  obtain ⟨y, hy⟩ := all_is hN hlen hpr h30 h60 (names_own hr) cut
  simp only [Option.bind_some, Sum.elim_inl, Bool.not_true, br_false, hy]
end Go.Proofs.Ytiiiipdnodgkmaa.Lt
