/- GroupOnce: what the law computes is true. -/
import Derived.Test.YtiiiipdnodgkmaaGrpAGo
import Derived.Test.YtiiiipdnodgkmaaGrpPGo
import Derived.Test.YtiiiipdnodgkmaaMacFGo
import Derived.Test.YtiiiipdnodgkmaaNumGGo
import Derived.Test.YtiiiipdnodgkmaaWordAGo
namespace Go.Proofs.Ytiiiipdnodgkmaa.Go
open Go Go.VI
set_option linter.unusedVariables false
set_option linter.unusedSimpArgs false
set_option maxRecDepth 100000

theorem known_is (m : Nat) : G_law16_known (m + 300) () = some (true, ()) := by kernel_rfl
theorem cut_at : ∀ (d e x y : List UInt8), (∀ b ∈ d, isDig b) → (∀ b ∈ e, isDig b) → d ++ 45 :: x = e ++ 45 :: y → d = e ∧ x = y
  | [], [], x, y, _, _, h => ⟨rfl, by simpa using h⟩
  | [], b :: e, x, y, _, he, h => by
    exfalso
    have hb := he b (by simp)
    simp only [List.nil_append, List.cons_append, List.cons.injEq] at h
    rw [← h.1] at hb
    exact absurd hb (by unfold isDig; decide)
  | b :: d, [], x, y, hd, _, h => by
    exfalso
    have hb := hd b (by simp)
    simp only [List.nil_append, List.cons_append, List.cons.injEq] at h
    rw [h.1] at hb
    exact absurd hb (by unfold isDig; decide)
  | b :: d, c :: e, x, y, hd, he, h => by
    simp only [List.cons_append, List.cons.injEq] at h
    obtain ⟨h1, h2⟩ := cut_at d e x y (fun z hz => hd z (by simp [hz])) (fun z hz => he z (by simp [hz])) h.2
    exact ⟨by rw [h.1, h1], h2⟩
theorem names_apart {g k : Grp} {a b : Nat} (h : hdG g ++ dec a = hdG k ++ dec b) : g.1 = k.1 ∧ a = b := by
  have h' : (dec a).reverse ++ 45 :: g.1.data.toList.reverse = (dec b).reverse ++ 45 :: k.1.data.toList.reverse := by
    have := congrArg List.reverse h
    unfold hdG at this
    simpa using this
  obtain ⟨h1, h2⟩ := cut_at _ _ _ _ (fun z hz => dec_dig a z (List.mem_reverse.1 hz)) (fun z hz => dec_dig b z (List.mem_reverse.1 hz)) h'
  exact ⟨ba_ext (List.reverse_inj.1 h2), dec_inj (List.reverse_inj.1 h1)⟩
theorem tail_plain (a : Nat) : ∀ j, j < (dash ++ numS a).size → ((dash ++ numS a).get! j).toNat < 128 ∧ plainB (((((dash ++ numS a).get! j).toNat : Nat)) : Int) = true := by
  intro j hj
  have hg := at_get (dash ++ numS a) j hj
  have hm : (dash ++ numS a).get! j ∈ (dash ++ numS a).data.toList := List.mem_of_getElem? hg
  generalize (dash ++ numS a).get! j = b at hm ⊢
  rw [ba_append, numS_list] at hm
  have key : b.toNat = 45 ∨ (48 ≤ b.toNat ∧ b.toNat ≤ 57) := by
    rcases List.mem_append.1 hm with h | h
    · left
      have : b = 45 := by simpa [dash] using h
      rw [this]; rfl
    · exact .inr (dec_dig a b h)
  refine ⟨by omega, ?_⟩
  unfold plainB
  exact decide_eq_true (by omega)
theorem pureGroupOnce (x : List Grp × Int × Int × Unit) (hw : Ty.wf (.slice tyGrp) x.1 ∧ Ty.wf (.int .u32) x.2.1 ∧ Ty.wf (.int .u32) x.2.2.1 ∧ True) : ∃ N, G_law16_GroupOnce N x = some (true, ()) := by
  obtain ⟨l, n, k, ⟨⟩⟩ := x
  have hl : okGs l := okGs_of hw.1
  have u32 : ∀ z : Int, Ty.wf (.int .u32) z → 0 ≤ z ∧ z < 4294967296 := fun z hz => by
    have hn : (Lit.int .u32 z).wf = true := hz
    simp [Lit.wf, IntKind.min, IntKind.max, IntKind.signed, IntKind.bits] at hn
    omega
  have hn : 0 ≤ n ∧ n < 4294967296 := u32 n hw.2.1
  have hk0 : 0 ≤ k ∧ k < 4294967296 := u32 k hw.2.2.1
  clear hw
  refine ⟨281474976710656 + 300, ?_⟩
  have hk := known_is 281474976710656
  have hN := big
  generalize 281474976710656 + 300 = N at *
  have hN' := hN
  unfold Big at hN'
  obtain ⟨⟨b1, ⟨⟩⟩, e1, k1⟩ := ref16_Light_tot N hN hl
  unfold G_law16_GroupOnce S_law16_GroupOnce
  simp only [e1, hk, group_Right_is N hN hl, Option.bind_some]
  cases b1
  · rfl
  cases hr : rightGs N l
  · rfl
  simp only [Bool.not_true, br_false]
  -- the two numbers
  have num : ∀ z : Int, 0 ≤ z → z < 4294967296 → ∃ a : Nat, 0 < a ∧ a ≤ 999999999 ∧ IntKind.i64.wrap (1 + Int.tmod (IntKind.i64.wrap z) 999999999) = (a : Int) := by
    intro z h1 h2
    obtain ⟨m, rfl⟩ : ∃ m : Nat, z = (m : Int) := ⟨z.toNat, by omega⟩
    have t : Int.tmod (m : Int) 999999999 = ((m % 999999999 : Nat) : Int) := by
      rw [show (999999999 : Int) = ((999999999 : Nat) : Int) from rfl, Int.ofNat_tmod]
    refine ⟨1 + m % 999999999, by omega, by omega, ?_⟩
    rw [w64 (x := (m : Int)) (by omega) (by omega), t, w64 (by omega) (by omega)]; omega
  obtain ⟨a, ha1, ha2, ea⟩ := num n hn.1 hn.2
  obtain ⟨b, hb1, hb2, eb⟩ := num k hk0.1 hk0.2
  rw [ea, eb]
  clear ea eb num hn hk0
  unfold rightGs at hr
  rw [Bool.and_eq_true, allN_iff] at hr
  have hlen : l.length ≤ 16 := of_decide_eq_true hr.1
  have right : ∀ i (hi : i < l.length), rightG N l[i] = true ∧ l[i].1.size ≤ 48 ∧ fnd l l[i].1 = (i : Int) := fun i hi => by
    have := hr.2 i (by omega) (by omega)
    unfold okGr at this
    rw [at_lt hi] at this
    simp only [Bool.and_eq_true, decide_eq_true_eq] at this
    exact ⟨this.1, this.2.1, this.2.2⟩
  clear hr
  have lit : ∀ i (hi : i < l.length), litG l[i] := fun i hi => by
    obtain ⟨r1, r2, _⟩ := right i hi
    unfold rightG at r1
    simp only [Bool.and_eq_true] at r1
    have r3 := r1.2.2.2.2.2.1
    unfold rightM at r3
    simp only [Bool.and_eq_true] at r3
    have r4 := r3.2.2.2.1
    have r5 := r3.2.2.2.2
    unfold rightL at r4
    unfold rightT at r5
    simp only [Bool.and_eq_true, decide_eq_true_eq] at r4 r5
    exact ⟨by omega, by omega, by omega⟩
  have mach : ∀ i (hi : i < l.length) (c : Nat), 0 < c → c ≤ 999999999 → (machB l[i] (c : Int)).1.data.toList = hdG l[i] ++ dec c := fun i hi c h1 h2 => nameM _ h1 h2
  -- the machine is right
  have okm : ∀ i (hi : i < l.length), okM (machB l[i] (a : Int)) ∧ rightM N (machB l[i] (a : Int)) = true ∧ (machB l[i] (a : Int)).2.1 = l[i].1 := fun i hi => by
    obtain ⟨r1, r2, _⟩ := right i hi
    have hg : okG l[i] := hl.2 _ (List.getElem_mem hi)
    have hsz := dec_len 9 a (by omega) (by omega)
    have hm : machB l[i] (a : Int) = ((l[i].1 ++ dash) ++ numS a, l[i].2.2.2.1.2) := by
      unfold machB
      rw [if_neg (by omega), Int.toNat_natCast]
    have hass : (l[i].1 ++ dash) ++ numS a = l[i].1 ++ (dash ++ numS a) := ba_ext (by rw [ba_append, ba_append, ba_append, ba_append, List.append_assoc])
    have htl : (dash ++ numS a).size ≤ 12 := by
      rw [ByteArray.size_append, numS_size]
      show 1 + _ ≤ 12
      omega
    unfold rightG at r1
    simp only [Bool.and_eq_true, decide_eq_true_eq] at r1
    obtain ⟨w0, _, _, _, _, r3, _, r4, _⟩ := r1
    have hword : wordB N (l[i].1 ++ (dash ++ numS a)) = true := word_app N hN w0 (by omega) htl (tail_plain a)
    rw [hm]
    refine ⟨⟨?_, hg.2.2.1, hg.2.2.2.1, hg.2.2.2.2⟩, ?_, r4⟩
    · show okS ((l[i].1 ++ dash) ++ numS a)
      rw [hass]
      unfold okS
      rw [ByteArray.size_append]; omega
    · unfold rightM at r3 ⊢
      simp only [Bool.and_eq_true] at r3 ⊢
      refine ⟨?_, r3.2⟩
      unfold maybeB
      rw [Bool.or_eq_true]
      right
      show wordB N ((l[i].1 ++ dash) ++ numS a) = true
      rw [hass]; exact hword
  have inner : ∀ i (hi : i < l.length), ∀ m (j : Nat) y, j ≤ i → y = ((l, (a : Int), (b : Int), (i : Int), (j : Int), ()), (machB l[i] (a : Int), ()), ()) → i - j < m →
      Tot (g_law16_GroupOnce_13 N m y) fun o => o = .inl ((l, (a : Int), (b : Int), (i : Int), ()), (machB l[i] (a : Int), ()), ()) := by
    intro i hi
    refine Tot.range i fun m j y hy hj rec => ?_
    subst hy
    rw [g_law16_GroupOnce_13_succ]
    unfold s_law16_GroupOnce_13
    by_cases hlt : j < i
    · have d0 : decide ((0 : Int) ≤ (j : Int)) = true := decide_eq_true (by omega)
      have d1 : decide ((j : Int) < (i : Int)) = true := decide_eq_true (by omega)
      have hj' : j < l.length := by omega
      have hM := group_Machine_is N hN (lit j hj') (b : Int)
      have hne : ¬ (machB l[j] (b : Int)).1 = (machB l[i] (a : Int)).1 := fun e => by
        have h1 := mach j hj' b hb1 hb2
        rw [e, mach i hi a ha1 ha2] at h1
        have h2 := (names_apart h1).1
        have f1 := (right i hi).2.2
        rw [h2, (right j hj').2.2] at f1
        omega
      simp only [d0, d1, br_true, Int.toNat_natCast, at_lt hj', Option.bind_some, hM, decide_eq_false hne, br_false, wi (i := j) (by omega)]
      exact rec (j + 1) _ (by omega) (by omega) rfl
    · have d1 : decide ((j : Int) < (i : Int)) = false := decide_eq_false (by omega)
      simp only [d1, br_false]
      exact Tot.some rfl
  have outer : ∀ m (i : Nat) y, i ≤ l.length → y = ((l, (a : Int), (b : Int), (i : Int), ()), ()) → l.length - i < m → Tot (g_law16_GroupOnce_6 N m y) fun o => ∃ y, o = .inl y := by
    refine Tot.range l.length fun m i y hy hi rec => ?_
    subst hy
    rw [g_law16_GroupOnce_6_succ]
    unfold s_law16_GroupOnce_6
    by_cases hlt : i < l.length
    · have d0 : decide ((0 : Int) ≤ (i : Int)) = true := decide_eq_true (by omega)
      have d1 : decide ((i : Int) < ((l.length : Nat) : Int)) = true := decide_eq_true (by omega)
      have hM := group_Machine_is N hN (lit i hlt) (a : Int)
      have hM' := group_Machine_is N hN (lit i hlt) (b : Int)
      have hna := mach i hlt a ha1 ha2
      have hnb := mach i hlt b hb1 hb2
      obtain ⟨o1, o2, o3⟩ := okm i hlt
      have hsz : (machB l[i] (a : Int)).1.size ≤ 1000 := by
        have hd := dec_len 9 a (by omega) (by omega)
        have h48 := (right i hlt).2.1
        rw [← ba_size, hna]
        unfold hdG
        rw [List.length_append, List.length_append, ba_size]
        simp only [List.length_singleton]
        omega
      have hNum := group_Number_is N hN (lit i hlt) hsz
      rw [hna, numL_name _ ha1 ha2] at hNum
      have hR := ref07_RightMachine_is N hN o1
      rw [o2] at hR
      generalize hMa : machB l[i] (a : Int) = Ma at *
      have hR : G_ref07_RightMachine N ((Ma.1, Ma.2.1, Ma.2.2.1, Ma.2.2.2.1, Ma.2.2.2.2.1, Ma.2.2.2.2.2), ()) = some (true, ()) := hR
      rw [o3] at hR
      have heq : decide (Ma.1 = (machB l[i] (b : Int)).1) = decide ((a : Int) = (b : Int)) := by
        rw [decide_eq_decide]
        constructor
        · intro e
          rw [e, hnb] at hna
          have := (names_apart hna).2
          omega
        · intro e
          rw [← hMa, e]
      simp only [d0, d1, br_true, Int.toNat_natCast, at_lt hlt, Option.bind_some, hM, hM', hNum, decide_true, Bool.not_true, br_false, heq, bEq_beq, beq_self_eq_true, o3, hR]
      have hin := inner i hlt N 0 _ (by omega) rfl (by omega)
      rw [hMa] at hin
      refine Tot.bind hin fun v hv => ?_
      subst hv
      simp only [Sum.elim_inl, wi (i := i) (by omega)]
      exact rec (i + 1) _ (by omega) (by omega) rfl
    · have d1 : decide ((i : Int) < ((l.length : Nat) : Int)) = false := decide_eq_false (by omega)
      simp only [d1, br_false]
      exact Tot.some ⟨_, rfl⟩
  obtain ⟨o, e, y, rfl⟩ := outer N 0 _ (by omega) rfl (by omega)
  have e : g_law16_GroupOnce_6 N N ((l, (a : Int), (b : Int), 0, ()), ()) = _ := e
  simp only [e, Option.bind_some, Sum.elim_inl]
end Go.Proofs.Ytiiiipdnodgkmaa.Go
