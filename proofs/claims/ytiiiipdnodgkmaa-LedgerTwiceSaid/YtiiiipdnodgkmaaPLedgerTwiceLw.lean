/- LedgerTwice: what the law computes is true. -/
import Derived.Test.YtiiiipdnodgkmaaLdgLLw
import Derived.Test.YtiiiipdnodgkmaaLdgFLw
namespace Go.Proofs.Ytiiiipdnodgkmaa.Lw
open Go Go.VI
set_option linter.unusedVariables false
set_option linter.unusedSimpArgs false
set_option maxRecDepth 100000

theorem known35_is (m : Nat) : G_law35_known (m + 300) () = some (true, ()) := by kernel_rfl
/-- What n ticks of l make of a group. -/
def rowN {M : Type} (l : List LInst) (n : Nat) (g : LGrp M) : LRow := match n with
  | 0 => row0 g
  | n + 1 => more l (rowN l n g)
theorem rowN_name {M : Type} (l : List LInst) : ∀ (n : Nat) (g : LGrp M), (rowN l n g).1 = g.1
  | 0, _ => rfl
  | n + 1, g => rowN_name l n g
theorem rowN_ok {M : Type} {l : List LInst} (hl : l.length ≤ 60) {g : LGrp M} (h0 : 0 ≤ g.2.2.2.2.1) (h1 : g.2.2.2.2.1 ≤ LTop) : ∀ n, okRow n (rowN l n g)
  | 0 => ⟨h0, h1, by simp only [rowN, row0]; omega, by simp only [rowN, row0]; omega, by simp only [rowN, row0]; omega, by simp only [rowN, row0]; omega, by simp only [rowN, row0]; omega, by simp only [rowN, row0]; omega⟩
  | n + 1 => okRow_more hl (rowN_ok hl h0 h1 n)
theorem rowN_is {M : Type} {l : List LInst} {g : LGrp M} (h0 : 0 ≤ g.2.2.2.2.1) : ∀ n, rowN l (n + 1) g = (g.1, g.2.2.2.2.1, ((n + 1 : Nat) : Int) * (cnt l g.1 : Int), (cnt l g.1 : Int), min (((n + 1 : Nat) : Int) * ((cnt l g.1 : Int) * g.2.2.2.2.1)) LTop)
  | 0 => by
    simp only [rowN, more, row0]
    have : max (0 : Int) (cnt l g.1 : Int) = (cnt l g.1 : Int) := by omega
    rw [this]
    simp
  | n + 1 => by
    have ih := rowN_is (l := l) (g := g) h0 n
    show more l (rowN l (n + 1) g) = _
    rw [ih]
    have hc : 0 ≤ (cnt l g.1 : Int) * g.2.2.2.2.1 := Int.mul_nonneg (by omega) h0
    have e1 : ((n + 1 + 1 : Nat) : Int) * (cnt l g.1 : Int) = ((n + 1 : Nat) : Int) * (cnt l g.1 : Int) + (cnt l g.1 : Int) := by rw [Int.natCast_succ (n + 1), Int.add_mul, Int.one_mul]
    have e2 : ((n + 1 + 1 : Nat) : Int) * ((cnt l g.1 : Int) * g.2.2.2.2.1) = ((n + 1 : Nat) : Int) * ((cnt l g.1 : Int) * g.2.2.2.2.1) + (cnt l g.1 : Int) * g.2.2.2.2.1 := by rw [Int.natCast_succ (n + 1), Int.add_mul, Int.one_mul]
    have e3 : max (cnt l g.1 : Int) (cnt l g.1 : Int) = (cnt l g.1 : Int) := by omega
    simp only [more]
    rw [e1, e2, e3]
    generalize (cnt l g.1 : Int) * g.2.2.2.2.1 = q at hc
    have e4 : min (min (((n + 1 : Nat) : Int) * q) LTop + q) LTop = min (((n + 1 : Nat) : Int) * q + q) LTop := by omega
    rw [e4]

theorem min_mul {n q T : Int} (hn : 1 ≤ n) (hq : 0 ≤ q) (hT : 0 ≤ T) : min (n * q) T = min (n * min q T) T := by
  have h1 : q ≤ n * q := by have := Int.mul_le_mul_of_nonneg_right hn hq; rwa [Int.one_mul] at this
  have h2 : T ≤ n * T := by have := Int.mul_le_mul_of_nonneg_right hn hT; rwa [Int.one_mul] at this
  by_cases h : q ≤ T
  · rw [show min q T = q by omega]
  · rw [show min q T = T by omega]; omega
theorem pureLedgerTwice (x : List Grp × List LInst × Int × Unit) (hw : Ty.wf (.slice tyGrp) x.1 ∧ Ty.wf (.slice (.agg (.pair .str (.pair .str (.pair (.int .i64) (.pair (.int .i64) (.int .i64))))))) x.2.1 ∧ Ty.wf (.int .u8) x.2.2.1 ∧ True) : ∃ N, G_law35_LedgerTwice N x = some (true, ()) := by
  obtain ⟨gs, l, times, ⟨⟩⟩ := x
  have hgs : okGs gs := okGs_of hw.1
  have hl : okLl [l] := ⟨by simp, fun y hy => by rw [List.mem_singleton.1 hy]; exact Nat.le_trans hw.2.1.1 reach_le⟩
  have hw3 := hw.2.2.1
  clear hw
  refine ⟨281474976710656 + 300, ?_⟩
  have hk := known35_is 281474976710656
  have hN := big
  generalize 281474976710656 + 300 = N at *
  have hN' := hN
  unfold Big at hN'
  obtain ⟨⟨b1, ⟨⟩⟩, e1, k1⟩ := ref16_Light_tot N hN hgs
  have e2 := ref16_Right_is N hN hgs
  have e3 := group_Right_is N hN hgs
  obtain ⟨⟨b4, ⟨⟩⟩, e4, k4⟩ := law35_light_tot N hN hl
  unfold G_law35_LedgerTwice S_law35_LedgerTwice
  simp only [e1, e2, e3, e4, hk, Option.bind_some]
  cases b1
  · rfl
  cases hr : rightGs N gs
  · rfl
  cases b4
  · rfl
  simp only [Bool.not_true, br_false]
  have hll := (k4 rfl).2 l (List.mem_singleton.2 rfl)
  obtain ⟨hlen, hpr⟩ := prices hr
  have hrow : ∀ k, ∀ r ∈ gs.map (rowN l k), okRow k r := fun k r h => by
    obtain ⟨g, hg, rfl⟩ := List.mem_map.1 h
    exact rowN_ok hll (hpr g hg).1 (hpr g hg).2 k
  have ht : 0 ≤ times ∧ times ≤ 255 := by
    have hn : (Lit.int .u8 times).wf = true := hw3
    simp [Lit.wf, IntKind.min, IntKind.max, IntKind.signed, IntKind.bits] at hn
    omega
  obtain ⟨n, hn1, hn2, hn⟩ : ∃ n : Nat, 1 ≤ n ∧ n ≤ 20 ∧ IntKind.i64.wrap (1 + Int.tmod (IntKind.i64.wrap times) 20) = (n : Int) := by
    rw [w64 (x := times) (by omega) (by omega)]
    have h1 : 0 ≤ Int.tmod times 20 := Int.tmod_nonneg _ ht.1
    have h2 : Int.tmod times 20 < 20 := Int.tmod_lt_of_pos _ (by omega)
    rw [w64 (by omega) (by omega)]
    exact ⟨(1 + Int.tmod times 20).toNat, by omega, by omega, by omega⟩
  rw [new_loop (f := gx_law35_LedgerTwice_0 N) (fun m x => rfl) hN (by omega : gs.length ≤ 1000) (0, true, ())]
  simp only [Option.bind_some, Sum.elim_inl, Bool.not_true, br_false]
  have h0 : gs.map (row0 (M := Mach)) = gs.map (rowN l 0) := rfl
  have hmore : ∀ k, (gs.map (rowN l k)).map (more l) = gs.map (rowN l (k + 1)) := fun k => by rw [List.map_map]; rfl
  rw [h0, add_is (g := gx_law35_LedgerTwice_9 N) (f := gx_law35_LedgerTwice_2 N) (c := gx_law35_LedgerTwice_1 N) (fun m x => rfl) (fun m x => rfl) (fun m x => rfl) hN hll (IntKind.i64.wrap (0 + 1)) true (by rw [List.length_map]; omega) (by omega : 0 ≤ 1000) (hrow 0), hmore]
  have hb : Nat.ble (gs.map (rowN l 1)).length maxElems = true := Nat.ble_eq_true_of_le (by rw [List.length_map]; unfold maxElems; omega)
  simp only [Option.bind_some, Bool.not_true, br_false, hb, br_true, hn]
  have w1 : IntKind.i64.wrap (0 + 1) = (1 : Int) := rfl
  rw [w1]
  have loop10 : ∀ m (i : Nat) x, i ≤ n → (1 ≤ i ∧ x = ((gs, l, (n : Int), (i : Int), ()), ((i : Int), true, ()), gs.map (rowN l i), ((1 : Int), true, ()), gs.map (rowN l 1), ())) → n - i < m → Tot (g_law35_LedgerTwice_10 N m x) fun o => o = .inl ((gs, (n : Int), ()), ((n : Int), true, ()), gs.map (rowN l n), ((1 : Int), true, ()), gs.map (rowN l 1), ()) := by
    refine Tot.range n fun m i x ha hi rec => ?_
    obtain ⟨hi1, rfl⟩ := ha
    rw [g_law35_LedgerTwice_10_succ]
    unfold s_law35_LedgerTwice_10
    by_cases hlt : i < n
    · have d1 : decide ((i : Int) < (n : Int)) = true := decide_eq_true (by omega)
      simp only [d1, br_true, Bool.not_true, br_false]
      rw [add_is (g := gx_law35_LedgerTwice_10 N) (f := gx_law35_LedgerTwice_4 N) (c := gx_law35_LedgerTwice_3 N) (fun m x => rfl) (fun m x => rfl) (fun m x => rfl) hN hll (IntKind.i64.wrap ((i : Int) + 1)) true (by rw [List.length_map]; omega) (by omega : i ≤ 1000) (hrow i), hmore]
      simp only [Option.bind_some, wi (i := i) (by omega)]
      exact rec (i + 1) _ (by omega) (by omega) ⟨by omega, rfl⟩
    · have d1 : decide ((i : Int) < (n : Int)) = false := decide_eq_false (by omega)
      have : i = n := by omega
      subst this
      simp only [d1, br_false]
      exact Tot.some rfl
  obtain ⟨o, e10, rfl⟩ := loop10 N 1 _ hn1 ⟨Nat.le_refl _, rfl⟩ (by omega)
  have e10 : g_law35_LedgerTwice_10 N N ((gs, l, (n : Int), (1 : Int), ()), ((1 : Int), true, ()), gs.map (rowN l 1), ((1 : Int), true, ()), gs.map (rowN l 1), ()) = _ := e10
  rw [e10]
  simp only [Option.bind_some, Sum.elim_inl]
  have loop14 : ∀ m (i : Nat) x, i ≤ gs.length → x = ((gs, (n : Int), (i : Int), ()), ((n : Int), true, ()), gs.map (rowN l n), ((1 : Int), true, ()), gs.map (rowN l 1), ()) → gs.length - i < m → Tot (g_law35_LedgerTwice_14 N m x) fun o => o = .inl (((n : Int), ()), ((n : Int), true, ()), gs.map (rowN l n), ((1 : Int), true, ()), gs.map (rowN l 1), ()) := by
    refine Tot.range gs.length fun m i x ha hi rec => ?_
    subst ha
    rw [g_law35_LedgerTwice_14_succ]
    unfold s_law35_LedgerTwice_14
    by_cases hlt : i < gs.length
    · have d0 : decide ((0 : Int) ≤ (i : Int)) = true := decide_eq_true (by omega)
      have d1 : decide ((i : Int) < ((gs.length : Nat) : Int)) = true := decide_eq_true (by omega)
      simp only [d0, d1, br_true, Int.toNat_natCast, at_lt hlt, Option.bind_some, Bool.not_true, br_false]
      obtain ⟨g, hg, hgn, hlook⟩ := look_of (name := gs[i].1) gs ⟨gs[i], List.getElem_mem hlt, rfl⟩
      have hln := hlook (rowN l n) (rowN_name l n)
      have hl1 := hlook (rowN l 1) (rowN_name l 1)
      have hgl : ∀ k, (gs.map (rowN l k)).length ≤ 1000 := fun k => by rw [List.length_map]; omega
      have of5 := of_loop (f := gx_law35_LedgerTwice_5 N) (fun m x => rfl) hN gs[i].1 ((n : Int), true, ()) (hgl n)
      have of6 := of_loop (f := gx_law35_LedgerTwice_6 N) (fun m x => rfl) hN gs[i].1 ((1 : Int), true, ()) (hgl 1)
      have of7 := of_loop (f := gx_law35_LedgerTwice_7 N) (fun m x => rfl) hN gs[i].1 ((n : Int), true, ()) (hgl n)
      have of8 := of_loop (f := gx_law35_LedgerTwice_8 N) (fun m x => rfl) hN gs[i].1 ((1 : Int), true, ()) (hgl 1)
      unfold row00 at of5 of6 of7 of8
      rw [hln] at of5 of7
      rw [hl1] at of6 of8
      have hp := hpr g hg
      obtain ⟨k, hk⟩ : ∃ k, n = k + 1 := ⟨n - 1, by omega⟩
      have r1 : rowN l 1 g = (g.1, g.2.2.2.2.1, (cnt l g.1 : Int), (cnt l g.1 : Int), min ((cnt l g.1 : Int) * g.2.2.2.2.1) LTop) := by
        rw [rowN_is (l := l) (g := g) hp.1 0]
        have : ((0 + 1 : Nat) : Int) = 1 := rfl
        rw [this, Int.one_mul, Int.one_mul]
      have rn := rowN_is (l := l) (g := g) hp.1 k
      rw [← hk] at rn
      have hc := cnt_le l g.1
      obtain ⟨a, b, m1, m2, m3⟩ := mean_is hn1 hn2 (by omega : cnt l g.1 ≤ 60)
      have dn : decide ((n : Int) = 0) = false := decide_eq_false (by omega)
      have dd : decide ((1 : Int) = 0) = false := rfl
      have hq : 0 ≤ (cnt l g.1 : Int) * g.2.2.2.2.1 := Int.mul_nonneg (by omega) hp.1
      have hT : LTop = 1125899906842624 := rfl
      have hmul : ((n : Int) * min ((cnt l g.1 : Int) * g.2.2.2.2.1) LTop) ≤ (n : Int) * LTop := Int.mul_le_mul_of_nonneg_left (by omega) (by omega)
      have hmul0 : 0 ≤ ((n : Int) * min ((cnt l g.1 : Int) * g.2.2.2.2.1) LTop) := Int.mul_nonneg (by omega) (by omega)
      have hmm := min_mul (n := (n : Int)) (q := (cnt l g.1 : Int) * g.2.2.2.2.1) (T := LTop) (by omega) hq (by omega)
      have hwr : IntKind.i64.wrap ((n : Int) * min ((cnt l g.1 : Int) * g.2.2.2.2.1) LTop) = (n : Int) * min ((cnt l g.1 : Int) * g.2.2.2.2.1) LTop := w64 (by omega) (by rw [hT] at hmul ⊢; omega)
      simp only [of5, of6, of7, of8, Option.bind_some, r1, rn, decide_true, Bool.not_true, br_false, br_true, dn, dd, m1, m2, m3, List.foldl_cons, List.foldl_nil, wi (i := i) (by omega)]
      rw [hwr, hmm]
      exact Tot.br (fun h => by exfalso; rw [Bool.not_eq_true'] at h; exact decF h rfl) fun _ => rec (i + 1) _ (by omega) (by omega) rfl
    · have d1 : decide ((i : Int) < ((gs.length : Nat) : Int)) = false := decide_eq_false (by omega)
      simp only [d1, br_false]
      exact Tot.some rfl
  obtain ⟨o, e14, rfl⟩ := loop14 N 0 _ (by omega) rfl (by omega)
  have e14 : g_law35_LedgerTwice_14 N N ((gs, (n : Int), (0 : Int), ()), ((n : Int), true, ()), gs.map (rowN l n), ((1 : Int), true, ()), gs.map (rowN l 1), ()) = _ := e14
  rw [e14]
  simp only [Option.bind_some, Sum.elim_inl, Bool.not_true, br_false, decide_true, br_true]
end Go.Proofs.Ytiiiipdnodgkmaa.Lw
