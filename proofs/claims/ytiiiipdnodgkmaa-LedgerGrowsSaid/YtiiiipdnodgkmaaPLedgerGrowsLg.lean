/- LedgerGrows: what the law computes is true. -/
import Derived.Test.YtiiiipdnodgkmaaLdgLLg
import Derived.Test.YtiiiipdnodgkmaaLdgMbLg
namespace Go.Proofs.Ytiiiipdnodgkmaa.Lg
open Go Go.VI
set_option linter.unusedVariables false
set_option linter.unusedSimpArgs false
set_option maxRecDepth 100000

theorem known35_is (m : Nat) : G_law35_known (m + 300) () = some (true, ()) := by kernel_rfl
theorem rowT_avg {M : Type} {ll : List (List LInst)} (hl : ∀ l ∈ ll, l.length ≤ 60) {g : LGrp M} (h0 : 0 ≤ g.2.2.2.2.1) (h1 : g.2.2.2.2.1 ≤ LTop) : ∀ i, i ≤ ll.length → (rowT (ll.take i) g).2.2.1 ≤ (rowT (ll.take i) g).2.2.2.1 * (i : Int)
  | 0, _ => by show (0 : Int) ≤ 0 * _; omega
  | i + 1, h => by
    have hlt : i < ll.length := by omega
    have ih := rowT_avg hl h0 h1 i (by omega)
    rw [List.take_add_one, at_lt hlt]
    show (rowT (ll.take i ++ [ll[i]]) g).2.2.1 ≤ (rowT (ll.take i ++ [ll[i]]) g).2.2.2.1 * _
    rw [rowT_snoc]
    generalize rowT (ll.take i) g = r at ih
    simp only [more]
    have hm : r.2.2.2.1 * (i : Int) ≤ max r.2.2.2.1 (cnt ll[i] r.1 : Int) * (i : Int) := Int.mul_le_mul_of_nonneg_right (by omega) (by omega)
    rw [Int.natCast_succ, Int.mul_add, Int.mul_one]
    omega

section
variable {N : Nat} (hN : Big N) {gs : List Grp} (hlen : gs.length ≤ 16) (hpr : ∀ g ∈ gs, 0 ≤ g.2.2.2.2.1 ∧ g.2.2.2.2.1 ≤ LTop) {ll : List (List LInst)} (hl30 : ll.length ≤ 30) (hl60 : ∀ x ∈ ll, x.length ≤ 60)
include hN hlen hpr hl30 hl60
theorem cmp_is {i : Nat} (hi : i < ll.length) :
    g_law35_LedgerGrows_12 N N ((gs, ll, (i : Int), 0, ()), (((i + 1 : Nat) : Int), true, ()), gs.map (rowT (ll.take (i + 1))), ((i : Int), true, ()), gs.map (rowT (ll.take i)), ()) = some (.inl ((gs, ll, (i : Int), ()), (((i + 1 : Nat) : Int), true, ()), gs.map (rowT (ll.take (i + 1))), ((i : Int), true, ()), gs.map (rowT (ll.take i)), ())) := by
  have hN' := hN
  unfold Big at hN'
  have hT : LTop = 1125899906842624 := rfl
  have loop : ∀ m (k : Nat) x, k ≤ gs.length → x = ((gs, ll, (i : Int), (k : Int), ()), (((i + 1 : Nat) : Int), true, ()), gs.map (rowT (ll.take (i + 1))), ((i : Int), true, ()), gs.map (rowT (ll.take i)), ()) → gs.length - k < m → Tot (g_law35_LedgerGrows_12 N m x) fun o => o = .inl ((gs, ll, (i : Int), ()), (((i + 1 : Nat) : Int), true, ()), gs.map (rowT (ll.take (i + 1))), ((i : Int), true, ()), gs.map (rowT (ll.take i)), ()) := by
    refine Tot.range gs.length fun m k x ha hk rec => ?_
    subst ha
    rw [g_law35_LedgerGrows_12_succ]
    unfold s_law35_LedgerGrows_12
    by_cases hlt : k < gs.length
    · have d0 : decide ((0 : Int) ≤ (k : Int)) = true := decide_eq_true (by omega)
      have d1 : decide ((k : Int) < ((gs.length : Nat) : Int)) = true := decide_eq_true (by omega)
      have di : decide ((0 : Int) ≤ (i : Int)) = true := decide_eq_true (by omega)
      obtain ⟨g, hg, hgn, hlook⟩ := look_of (name := gs[k].1) gs ⟨gs[k], List.getElem_mem hlt, rfl⟩
      have hl1 := hlook (rowT (ll.take (i + 1))) (rowT_name _)
      have hl0 := hlook (rowT (ll.take i)) (rowT_name _)
      have hgl : ∀ q, (gs.map (rowT (M := Mach) (ll.take q))).length ≤ 1000 := fun k => by rw [List.length_map]; omega
      have of7 := of_loop (f := gx_law35_LedgerGrows_7 N) (fun m x => rfl) hN gs[k].1 (((i + 1 : Nat) : Int), true, ()) (hgl (i + 1))
      have of8 := of_loop (f := gx_law35_LedgerGrows_8 N) (fun m x => rfl) hN gs[k].1 ((i : Int), true, ()) (hgl i)
      have of9 := of_loop (f := gx_law35_LedgerGrows_9 N) (fun m x => rfl) hN gs[k].1 (((i + 1 : Nat) : Int), true, ()) (hgl (i + 1))
      have of10 := of_loop (f := gx_law35_LedgerGrows_10 N) (fun m x => rfl) hN gs[k].1 ((i : Int), true, ()) (hgl i)
      have of11 := of_loop (f := gx_law35_LedgerGrows_11 N) (fun m x => rfl) hN gs[k].1 (((i + 1 : Nat) : Int), true, ()) (hgl (i + 1))
      have of12 := of_loop (f := gx_law35_LedgerGrows_12 N) (fun m x => rfl) hN gs[k].1 (((i + 1 : Nat) : Int), true, ()) (hgl (i + 1))
      have of13 := of_loop (f := gx_law35_LedgerGrows_13 N) (fun m x => rfl) hN gs[k].1 (((i + 1 : Nat) : Int), true, ()) (hgl (i + 1))
      have of14 := of_loop (f := gx_law35_LedgerGrows_14 N) (fun m x => rfl) hN gs[k].1 ((i : Int), true, ()) (hgl i)
      unfold row00 at of7 of8 of9 of10 of11 of12 of13 of14
      rw [hl1] at of7 of9 of11 of12 of13
      rw [hl0] at of8 of10 of14
      have hp := hpr g hg
      have ok0 := rowT_ok hl60 hp.1 hp.2 i (by omega)
      have ok1 := rowT_ok hl60 hp.1 hp.2 (i + 1) (by omega)
      have av1 := rowT_avg hl60 hp.1 hp.2 (i + 1) (by omega)
      have hmore : rowT (ll.take (i + 1)) g = more ll[i] (rowT (ll.take i) g) := by
        rw [List.take_add_one, at_lt hi]; exact rowT_snoc _ _ _
      obtain ⟨a1, a2, a3, a4, a5, a6, a7, a8⟩ := ok0
      obtain ⟨b1, b2, b3, b4, b5, b6, b7, b8⟩ := ok1
      have hcl := cnt_le ll[i] (rowT (ll.take i) g).1
      have hq : 0 ≤ (cnt ll[i] (rowT (ll.take i) g).1 : Int) * (rowT (ll.take i) g).2.1 := Int.mul_nonneg (by omega) a1
      have f1 : (rowT (ll.take (i + 1)) g).2.2.2.2 = min ((rowT (ll.take i) g).2.2.2.2 + (cnt ll[i] (rowT (ll.take i) g).1 : Int) * (rowT (ll.take i) g).2.1) LTop := by rw [hmore]; rfl
      have f2 : (rowT (ll.take (i + 1)) g).2.2.2.1 = max (rowT (ll.take i) g).2.2.2.1 (cnt ll[i] (rowT (ll.take i) g).1 : Int) := by rw [hmore]; rfl
      have c1 : decide ((rowT (ll.take (i + 1)) g).2.2.2.2 < (rowT (ll.take i) g).2.2.2.2) = false := decide_eq_false (by omega)
      have c2 : decide ((rowT (ll.take (i + 1)) g).2.2.2.1 < (rowT (ll.take i) g).2.2.2.1) = false := decide_eq_false (by omega)
      have c4 : ¬ max (rowT (ll.take i) g).2.2.2.1 ((ll[i].length : Nat) : Int) < (rowT (ll.take (i + 1)) g).2.2.2.1 := by omega
      have c0 : decide (((i + 1 : Nat) : Int) = 0) = false := decide_eq_false (by omega)
      obtain ⟨A, hA⟩ : ∃ A : Nat, (rowT (ll.take (i + 1)) g).2.2.1 = (A : Int) := ⟨_, (Int.toNat_of_nonneg b3).symm⟩
      obtain ⟨Q, hQ⟩ : ∃ Q : Nat, (rowT (ll.take (i + 1)) g).2.2.2.1 = (Q : Int) := ⟨_, (Int.toNat_of_nonneg b5).symm⟩
      have hAQ : A ≤ Q * (i + 1) := by
        rw [hA, hQ] at av1
        have : ((A : Nat) : Int) ≤ ((Q * (i + 1) : Nat) : Int) := by rw [Int.natCast_mul]; exact av1
        omega
      obtain ⟨r, m1, m2⟩ := mean_le (t := i + 1) (a := A) (p := Q) (le_all (by omega) (by omega)) (by omega) (by omega) hAQ
      rw [← hA] at m1
      rw [← hQ] at m2
      simp only [d0, d1, di, br_true, Int.toNat_natCast, at_lt hlt, at_lt hi, Option.bind_some, Bool.not_true, br_false, of7, of8, of9, of10, of11, of12, of13, of14, c0, c1, c2, m1, m2, List.foldl_cons, List.foldl_nil, wi (i := k) (by omega)]
      exact Tot.brD (fun h => absurd h c4) fun _ => rec (k + 1) _ (by omega) (by omega) rfl
    · have d1 : decide ((k : Int) < ((gs.length : Nat) : Int)) = false := decide_eq_false (by omega)
      simp only [d1, br_false]
      exact Tot.some rfl
  obtain ⟨o, e, rfl⟩ := loop N 0 ((gs, ll, (i : Int), 0, ()), (((i + 1 : Nat) : Int), true, ()), gs.map (rowT (ll.take (i + 1))), ((i : Int), true, ()), gs.map (rowT (ll.take i)), ()) (by omega) rfl (by omega)
  exact e
theorem all_is : ∃ y, g_law35_LedgerGrows_7 N N ((gs, ll, 0, ()), (0, true, ()), gs.map row0, ()) = some (.inl y) := by
  have hN' := hN
  unfold Big at hN'
  have hrow : ∀ i, i ≤ ll.length → ∀ r ∈ gs.map (rowT (ll.take i)), okRow i r := fun i hi r h => by
    obtain ⟨g, hg, rfl⟩ := List.mem_map.1 h
    exact rowT_ok hl60 (hpr g hg).1 (hpr g hg).2 i hi
  have loop : ∀ m (i : Nat) x, i ≤ ll.length → x = ((gs, ll, (i : Int), ()), ((i : Int), true, ()), gs.map (rowT (ll.take i)), ()) → ll.length - i < m → Tot (g_law35_LedgerGrows_7 N m x) fun o => ∃ y, o = .inl y := by
    refine Tot.range ll.length fun m i x ha hi rec => ?_
    subst ha
    rw [g_law35_LedgerGrows_7_succ]
    unfold s_law35_LedgerGrows_7
    by_cases hlt : i < ll.length
    · have d0 : decide ((0 : Int) ≤ (i : Int)) = true := decide_eq_true (by omega)
      have d1 : decide ((i : Int) < ((ll.length : Nat) : Int)) = true := decide_eq_true (by omega)
      have hb : Nat.ble (gs.map (rowT (M := Mach) (ll.take i))).length maxElems = true := Nat.ble_eq_true_of_le (by rw [List.length_map]; unfold maxElems; omega)
      have hmore : (gs.map (rowT (ll.take i))).map (more ll[i]) = gs.map (rowT (ll.take (i + 1))) := by
        rw [List.map_map]
        refine List.map_congr_left fun g _ => ?_
        rw [List.take_add_one, at_lt hlt]
        exact (rowT_snoc _ _ _).symm
      simp only [d0, d1, br_true, Int.toNat_natCast, at_lt hlt, Option.bind_some, Bool.not_true, br_false, hb]
      rw [add_is (g := gx_law35_LedgerGrows_16 N) (f := gx_law35_LedgerGrows_6 N) (c := gx_law35_LedgerGrows_2 N) (fun m x => rfl) (fun m x => rfl) (fun m x => rfl) hN (hl60 _ (List.getElem_mem hlt)) (IntKind.i64.wrap ((i : Int) + 1)) true (by rw [List.length_map]; omega) (by omega : i ≤ 1000) (hrow i hi), hmore]
      have hS : ∀ q, q ≤ ll.length → ∀ r ∈ gs.map (rowT (ll.take q)), 0 ≤ r.2.2.2.2 ∧ r.2.2.2.2 ≤ LTop := fun q hq r hr => ⟨(hrow q hq r hr).2.2.2.2.2.2.1, (hrow q hq r hr).2.2.2.2.2.2.2⟩
      have t3 := tot_loop (f := gx_law35_LedgerGrows_3 N) (fun m x => rfl) hN ((i + 1 : Nat) : Int) true (rs := gs.map (rowT (ll.take (i + 1)))) (by rw [List.length_map]; omega) (hS (i + 1) (by omega))
      have t4 := tot_loop (f := gx_law35_LedgerGrows_4 N) (fun m x => rfl) hN (i : Int) true (rs := gs.map (rowT (ll.take i))) (by rw [List.length_map]; omega) (hS i hi)
      have hmono : totS ((gs.map (rowT (ll.take i))).map (·.2.2.2.2)) 0 ≤ totS ((gs.map (rowT (ll.take (i + 1)))).map (·.2.2.2.2)) 0 := by
        refine totS_mono (Int.le_refl _) (by simp) fun k s s' h1 h2 => ?_
        rw [← hmore] at h2
        simp only [List.getElem?_map] at h1 h2
        cases hk : gs[k]? with
        | none => rw [hk] at h1; cases h1
        | some g =>
          rw [hk] at h1 h2
          cases h1; cases h2
          have ok0 := hrow i hi _ (List.mem_map.2 ⟨g, List.mem_of_getElem? hk, rfl⟩)
          obtain ⟨a1, a2, a3, a4, a5, a6, a7, a8⟩ := ok0
          have hq : 0 ≤ (cnt ll[i] (rowT (ll.take i) g).1 : Int) * (rowT (ll.take i) g).2.1 := Int.mul_nonneg (by omega) a1
          show (rowT (ll.take i) g).2.2.2.2 ≤ min ((rowT (ll.take i) g).2.2.2.2 + (cnt ll[i] (rowT (ll.take i) g).1 : Int) * (rowT (ll.take i) g).2.1) LTop
          omega
      have hin := totS_in (l := (gs.map (rowT (ll.take (i + 1)))).map (·.2.2.2.2)) (a := 0) (by omega) (by show (0 : Int) ≤ 1125899906842624; omega) (fun s hs => by
        obtain ⟨r, hr, rfl⟩ := List.mem_map.1 hs
        exact hS (i + 1) (by omega) r hr)
      have e1 : decide (totS ((gs.map (rowT (ll.take (i + 1)))).map (·.2.2.2.2)) 0 < totS ((gs.map (rowT (ll.take i))).map (·.2.2.2.2)) 0) = false := decide_eq_false (by omega)
      have e2 : decide ((1125899906842624 : Int) < totS ((gs.map (rowT (ll.take (i + 1)))).map (·.2.2.2.2)) 0) = false := decide_eq_false (by have hT : LTop = 1125899906842624 := rfl; omega)
      simp only [Option.bind_some, wi (i := i) (by omega), cmp_is hN hlen hpr hl30 hl60 hlt, Sum.elim_inl, Bool.not_true, br_false, t3, t4, e1, e2]
      exact rec (i + 1) _ (by omega) (by omega) rfl
    · have d1 : decide ((i : Int) < ((ll.length : Nat) : Int)) = false := decide_eq_false (by omega)
      simp only [d1, br_false]
      exact Tot.some ⟨_, rfl⟩
  obtain ⟨o, e, y, rfl⟩ := loop N 0 ((gs, ll, 0, ()), (0, true, ()), gs.map row0, ()) (by omega) rfl (by omega)
  exact ⟨y, e⟩
end

theorem pureLedgerGrows (x : List Grp × List (List LInst) × Unit) (hw : Ty.wf (.slice tyGrp) x.1 ∧ Ty.wf (.slice (.slice (.agg (.pair .str (.pair .str (.pair (.int .i64) (.pair (.int .i64) (.int .i64)))))))) x.2.1 ∧ True) : ∃ N, G_law35_LedgerGrows N x = some (true, ()) := by
  obtain ⟨gs, ll, ⟨⟩⟩ := x
  have hgs : okGs gs := okGs_of hw.1
  have hl : okLl ll := ⟨Nat.le_trans hw.2.1.1 reach_le, fun y hy => Nat.le_trans (hw.2.1.2 y hy).1 reach_le⟩
  clear hw
  refine ⟨281474976710656 + 300, ?_⟩
  have hk := known35_is 281474976710656
  have hN := big
  generalize 281474976710656 + 300 = N at *
  obtain ⟨⟨b1, ⟨⟩⟩, e1, k1⟩ := ref16_Light_tot N hN hgs
  have e2 := ref16_Right_is N hN hgs
  have e3 := group_Right_is N hN hgs
  obtain ⟨⟨b4, ⟨⟩⟩, e4, k4⟩ := law35_light_tot N hN hl
  unfold G_law35_LedgerGrows S_law35_LedgerGrows
  simp only [e1, e2, e3, e4, hk, Option.bind_some]
  cases b1
  · rfl
  cases hr : rightGs N gs
  · rfl
  cases b4
  · rfl
  simp only [Bool.not_true, br_false]
  obtain ⟨h30, h60⟩ := k4 rfl
  obtain ⟨hlen, hpr⟩ := prices hr
  rw [new_loop (f := gx_law35_LedgerGrows_0 N) (fun m x => rfl) hN (by omega : gs.length ≤ 1000) (0, true, ())]
  obtain ⟨y, hy⟩ := all_is hN hlen hpr h30 h60
  simp only [Option.bind_some, Sum.elim_inl, hy]
end Go.Proofs.Ytiiiipdnodgkmaa.Lg
