/- SimilarEven: what the law computes is true. -/
import Derived.Test.YtfifgcaielmbiaaSimSPSlC
import Derived.Test.YtfifgcaielmbiaaSimESlC
namespace Go.Proofs.Ytfifgcaielmbiaa.SlC
open Go Go.VI
set_option linter.unusedVariables false
set_option linter.unusedSimpArgs false
set_option maxRecDepth 100000

theorem known_is (m : Nat) : G_law22_known (m + 300) () = some (true, ()) := by kernel_rfl
def tm (v : Int) : Int := Int.tmod v 201
theorem tm_in {v : Int} (h : 0 ≤ v) : 0 ≤ tm v ∧ tm v ≤ 200 := by
  unfold tm
  rw [Int.tmod_eq_emod_of_nonneg h]
  omega
theorem mapD {l : List Int} {i : Nat} (h : i < l.length) : (l.map tm).getD i 0 = tm l[i] := by
  rw [List.getD_eq_getElem?_getD, List.getElem?_map, at_lt h]; rfl
theorem take_mapD {l : List Int} {i : Nat} (h : i < l.length) : (l.map tm).take i ++ [tm l[i]] = (l.map tm).take (i + 1) := by
  rw [List.take_add_one, at_lt (l := l.map tm) (i := i) (by rw [List.length_map]; exact h), List.getElem_map]; rfl
theorem last_is {l : List Int} {i : Nat} {v : Int} (h : l.length = i) : (l ++ [v])[i]? = some v := by
  subst h
  rw [List.getElem?_append_right (Nat.le_refl _), Nat.sub_self]; rfl
theorem foldmin (a b : Int) : List.foldl Min.min a [b] = if a ≤ b then a else b := by
  show min a b = _
  split <;> omega
theorem all_mapD {l : List Int} (h : ∀ v ∈ l, 0 ≤ v) : (l.map tm).all inD = true := by
  rw [List.all_eq_true]
  intro x hx
  obtain ⟨v, hv, rfl⟩ := List.mem_map.1 hx
  unfold inD
  exact decide_eq_true (tm_in (h v hv))
theorem room_in {S M : List Int} (h : ∀ i, 0 ≤ S.getD i 0 ∧ S.getD i 0 ≤ 200) (h' : ∀ i, 0 ≤ M.getD i 0 ∧ M.getD i 0 ≤ 200) (n : Nat) : 0 ≤ roomD S M n ∧ roomD S M n ≤ 200 * n :=
  sm_const (fun i => by have := h i; have := h' i; split <;> omega) (fun i => by have := h i; have := h' i; split <;> omega)
theorem map_in {l : List Int} (h : ∀ v ∈ l, 0 ≤ v) (i : Nat) : 0 ≤ (l.map tm).getD i 0 ∧ (l.map tm).getD i 0 ≤ 200 := by
  by_cases hi : i < l.length
  · rw [mapD hi]; exact tm_in (h _ (List.getElem_mem hi))
  · rw [List.getD_eq_getElem?_getD, List.getElem?_eq_none (by rw [List.length_map]; omega)]
    exact ⟨Int.le_refl _, by decide⟩
theorem even_7 (N : Nat) (hN : Big N) (n : Int) {s m : List Int} (hl : s.length = m.length) (hs : s.length ≤ 16) (h1 : ∀ v ∈ s, 0 ≤ v ∧ v ≤ 255) (h2 : ∀ v ∈ m, 0 ≤ v ∧ v ≤ 255) : Tot (g_law22_SimilarEven_7 N N ((n, s, m, 0, 0, ()), [], [], ())) fun o => o = .inl ((n, roomD (s.map tm) (m.map tm) s.length, ()), s.map tm, m.map tm, ()) := by
  unfold Big at hN
  have loop : ∀ k (i : Nat) x, i ≤ s.length → x = ((n, s, m, roomD (s.map tm) (m.map tm) i, (i : Int), ()), (s.map tm).take i, (m.map tm).take i, ()) → s.length - i < k → Tot (g_law22_SimilarEven_7 N k x) fun o => o = .inl ((n, roomD (s.map tm) (m.map tm) s.length, ()), s.map tm, m.map tm, ()) := by
    refine Tot.range s.length fun k i x ha hi rec => ?_
    subst ha
    rw [g_law22_SimilarEven_7_succ]
    unfold s_law22_SimilarEven_7
    by_cases hlt : i < s.length
    · have hlt2 : i < m.length := by omega
      have d0 : decide ((0 : Int) ≤ (i : Int)) = true := decide_eq_true (by omega)
      have d1 : decide ((i : Int) < ((s.length : Nat) : Int)) = true := decide_eq_true (by omega)
      have ls : ((s.map tm).take i).length = i := by rw [List.length_take, List.length_map]; omega
      have lm : ((m.map tm).take i).length = i := by rw [List.length_take, List.length_map]; omega
      have b1 : Nat.ble (((s.map tm).take i).length + 1) maxElems = true := Nat.ble_eq_true_of_le (by rw [ls]; unfold maxElems; omega)
      have b2 : Nat.ble (((m.map tm).take i).length + 1) maxElems = true := Nat.ble_eq_true_of_le (by rw [lm]; unfold maxElems; omega)
      have r1 := h1 _ (List.getElem_mem hlt)
      have r2 := h2 _ (List.getElem_mem hlt2)
      have w1 : IntKind.i64.wrap s[i] = s[i] := w64 (by omega) (by omega)
      have w2 : IntKind.i64.wrap m[i] = m[i] := w64 (by omega) (by omega)
      have ls1 : ((s.map tm).take (i + 1)).length = i + 1 := by rw [List.length_take, List.length_map]; omega
      have lm1 : ((m.map tm).take (i + 1)).length = i + 1 := by rw [List.length_take, List.length_map]; omega
      have d2 : decide ((i : Int) < ((((s.map tm).take (i + 1)).length : Nat) : Int)) = true := decide_eq_true (by rw [ls1]; omega)
      have d3 : decide ((i : Int) < ((((m.map tm).take (i + 1)).length : Nat) : Int)) = true := decide_eq_true (by rw [lm1]; omega)
      have t1 := tm_in r1.1
      have t2 := tm_in r2.1
      have w3 : IntKind.i64.wrap (tm m[i] - tm s[i]) = tm m[i] - tm s[i] := w64 (by omega) (by omega)
      have hr := room_in (S := s.map tm) (M := m.map tm) (map_in fun v hv => (h1 v hv).1) (map_in fun v hv => (h2 v hv).1) i
      have ht : ∀ v : Int, Int.tmod v 201 = tm v := fun _ => rfl
      simp only [d0, d1, br_true, Int.toNat_natCast, at_lt hlt, at_lt hlt2, Option.bind_some, b1, b2, w1, w2, ht, d2, d3, Bool.and_true, last_is ls, last_is lm, w3, max0, wi (i := i) (by omega), take_mapD hlt, take_mapD hlt2]
      refine rec (i + 1) _ (by omega) (by omega) ?_
      have hw : IntKind.i64.wrap (roomD (s.map tm) (m.map tm) i + if tm m[i] - tm s[i] < 0 then 0 else tm m[i] - tm s[i]) = roomD (s.map tm) (m.map tm) (i + 1) := by
        have e : roomD (s.map tm) (m.map tm) (i + 1) = roomD (s.map tm) (m.map tm) i + if tm m[i] - tm s[i] < 0 then 0 else tm m[i] - tm s[i] := by
          unfold roomD
          simp only [sm]
          rw [mapD hlt, mapD hlt2]
        rw [e]
        refine w64 ?_ ?_ <;> split <;> omega
      rw [hw]
    · have d1 : decide ((i : Int) < ((s.length : Nat) : Int)) = false := decide_eq_false (by omega)
      have : i = s.length := by omega
      subst this
      simp only [d1, br_false]
      refine Tot.some ?_
      rw [List.take_of_length_le (by rw [List.length_map]; omega), List.take_of_length_le (by rw [List.length_map]; omega)]
  exact loop N 0 _ (by omega) rfl (by omega)
theorem wA {a b : Int} (h0 : -1000000 ≤ a + b) (h1 : a + b ≤ 1000000) : IntKind.i64.wrap (a + b) = a + b := w64 (by omega) (by omega)
theorem even_23 (N : Nat) (hN : Big N) (n room sum : Int) {S M cur out : List Int} (h : Ev S M cur out) (hs : S.length ≤ 16) {a : Nat} (ha : a < S.length) : Tot (g_law22_SimilarEven_23 N N ((n, S, M, room, out, sum, (a : Int), 0, ()), ())) fun o => o = .inl ((n, S, M, room, out, sum, (a : Int), ()), ()) := by
  unfold Big at hN
  have l2 := h.r.l2
  have l3 := h.r.l3
  have loop : ∀ k (i : Nat) x, i ≤ S.length → x = ((n, S, M, room, out, sum, (a : Int), (i : Int), ()), ()) → S.length - i < k → Tot (g_law22_SimilarEven_23 N k x) fun o => o = .inl ((n, S, M, room, out, sum, (a : Int), ()), ()) := by
    refine Tot.range S.length fun k i x hx hi rec => ?_
    subst hx
    rw [g_law22_SimilarEven_23_succ]
    unfold s_law22_SimilarEven_23
    by_cases hlt : i < S.length
    · have d0 : decide ((0 : Int) ≤ (i : Int)) = true := decide_eq_true (by omega)
      have da : decide ((0 : Int) ≤ (a : Int)) = true := decide_eq_true (by omega)
      have d1 : decide ((i : Int) < ((out.length : Nat) : Int)) = true := decide_eq_true (by omega)
      have s1 := h.r.s a ha
      have s2 := h.r.s i hlt
      have w1 : IntKind.i64.wrap (S.getD i 0 + out.getD i 0) = cur.getD i 0 := by rw [s2.1]; exact wA (by omega) (by omega)
      have w2 : IntKind.i64.wrap (S.getD a 0 + out.getD a 0) = cur.getD a 0 := by rw [s1.1]; exact wA (by omega) (by omega)
      have w3 : IntKind.i64.wrap (cur.getD i 0 + 1) = cur.getD i 0 + 1 := wA (by omega) (by omega)
      simp only [d0, d1, da, br_true, Int.toNat_natCast, at_d (l := out) (i := a) (by omega), at_d (l := out) (i := i) (by omega), at_d (l := S) (i := a) ha, at_d (l := S) (i := i) hlt, at_d (l := M) (i := i) (by omega), Option.bind_some, w1, w2, w3, wi (i := i) (by omega)]
      by_cases c1 : 0 < out.getD a 0
      · rw [decide_eq_true c1, br_true]
        by_cases c2 : cur.getD i 0 < M.getD i 0
        · have := h.c a i ha hlt c1 c2
          rw [decide_eq_true c2, br_true, decide_eq_false (show ¬ cur.getD i 0 + 1 < cur.getD a 0 by omega), br_false]
          exact rec (i + 1) _ (by omega) (by omega) rfl
        · rw [decide_eq_false c2, br_false]
          exact rec (i + 1) _ (by omega) (by omega) rfl
      · rw [decide_eq_false c1, br_false]
        exact rec (i + 1) _ (by omega) (by omega) rfl
    · have d1 : decide ((i : Int) < ((out.length : Nat) : Int)) = false := decide_eq_false (by omega)
      simp only [d1, br_false]
      exact Tot.some rfl
  exact loop N 0 _ (by omega) rfl (by omega)
theorem even_17 (N : Nat) (hN : Big N) (n room : Int) {S M cur out : List Int} (h : Ev S M cur out) (hs : S.length ≤ 16) : Tot (g_law22_SimilarEven_17 N N ((n, S, M, room, out, 0, 0, ()), ())) fun o => o = .inl ((n, room, sm (fun i => out.getD i 0) S.length, ()), ()) := by
  have hN' := hN
  unfold Big at hN
  have l2 := h.r.l2
  have l3 := h.r.l3
  have bd : ∀ i, 0 ≤ out.getD i 0 ∧ out.getD i 0 ≤ 200 := fun i => by
    by_cases hi : i < S.length
    · have := h.r.s i hi; omega
    · rw [List.getD_eq_getElem?_getD, List.getElem?_eq_none (by omega)]
      exact ⟨Int.le_refl _, by decide⟩
  have loop : ∀ k (i : Nat) x, i ≤ S.length → x = ((n, S, M, room, out, sm (fun i => out.getD i 0) i, (i : Int), ()), ()) → S.length - i < k → Tot (g_law22_SimilarEven_17 N k x) fun o => o = .inl ((n, room, sm (fun i => out.getD i 0) S.length, ()), ()) := by
    refine Tot.range S.length fun k i x hx hi rec => ?_
    subst hx
    rw [g_law22_SimilarEven_17_succ]
    unfold s_law22_SimilarEven_17
    by_cases hlt : i < S.length
    · have d0 : decide ((0 : Int) ≤ (i : Int)) = true := decide_eq_true (by omega)
      have d1 : decide ((i : Int) < ((out.length : Nat) : Int)) = true := decide_eq_true (by omega)
      have s2 := h.r.s i hlt
      have hb := h.b i hlt
      have w1 : IntKind.i64.wrap (S.getD i 0 + out.getD i 0) = cur.getD i 0 := by rw [s2.1]; exact wA (by omega) (by omega)
      have hsm := sm_const (f := fun i => out.getD i 0) (k := 200) (fun i => (bd i).1) (fun i => (bd i).2) (n := i)
      have w2 : IntKind.i64.wrap (sm (fun i => out.getD i 0) i + out.getD i 0) = sm (fun i => out.getD i 0) (i + 1) := wA (by have := bd i; omega) (by have := bd i; omega)
      obtain ⟨o, e23, rfl⟩ := even_23 N hN' n room (sm (fun i => out.getD i 0) (i + 1)) h hs hlt
      simp only [d0, d1, br_true, Int.toNat_natCast, at_d (l := out) (i := i) (by omega), at_d (l := S) (i := i) hlt, at_d (l := M) (i := i) (by omega), Option.bind_some, w1, w2, wi (i := i) (by omega), e23, Sum.elim_inl]
      rw [decide_eq_false (show ¬ out.getD i 0 < 0 by omega), br_false]
      by_cases c1 : 0 < out.getD i 0
      · have := hb c1
        rw [decide_eq_true c1, br_true, decide_eq_false (show ¬ M.getD i 0 < cur.getD i 0 by omega), br_false]
        exact rec (i + 1) _ (by omega) (by omega) rfl
      · rw [decide_eq_false c1, br_false]
        exact rec (i + 1) _ (by omega) (by omega) rfl
    · have d1 : decide ((i : Int) < ((out.length : Nat) : Int)) = false := decide_eq_false (by omega)
      have : i = S.length := by omega
      subst this
      simp only [d1, br_false]
      exact Tot.some rfl
  exact loop N 0 _ (by omega) rfl (by omega)
theorem shareF_len {mx : List Int} : ∀ {n : Nat} {cur out : List Int}, (shareF mx n cur out).length = out.length
  | 0, cur, out => rfl
  | n + 1, cur, out => by
    simp only [shareF]
    split
    · rfl
    · rw [shareF_len, List.length_set]
theorem u8_in {v : Int} (h : Ty.wf (.int .u8) v) : 0 ≤ v ∧ v ≤ 255 := by
  have hn : (Lit.int .u8 v).wf = true := h
  simp [Lit.wf, IntKind.min, IntKind.max, IntKind.signed, IntKind.bits] at hn
  omega
theorem pureSimilarEven (x : Int × List Int × List Int × Unit) (hw : Ty.wf (.int .u16) x.1 ∧ Ty.wf (.slice (.int .u8)) x.2.1 ∧ Ty.wf (.slice (.int .u8)) x.2.2.1 ∧ True) : ∃ N, G_law22_SimilarEven N x = some (true, ()) := by
  obtain ⟨n, s, m, ⟨⟩⟩ := x
  have hn : 0 ≤ n ∧ n ≤ 65535 := by
    have hn : (Lit.int .u16 n).wf = true := hw.1
    simp [Lit.wf, IntKind.min, IntKind.max, IntKind.signed, IntKind.bits] at hn
    omega
  have hs : ∀ v ∈ s, 0 ≤ v ∧ v ≤ 255 := fun v hv => u8_in (hw.2.1.2 v hv)
  have hm : ∀ v ∈ m, 0 ≤ v ∧ v ≤ 255 := fun v hv => u8_in (hw.2.2.1.2 v hv)
  clear hw
  refine ⟨281474976710656 + 300, ?_⟩
  have hk := known_is 281474976710656
  have hN := big
  generalize 281474976710656 + 300 = N at *
  unfold G_law22_SimilarEven S_law22_SimilarEven
  simp only [hk, Option.bind_some]
  by_cases c1 : s.length = m.length
  · rw [decide_eq_true (show ((s.length : Nat) : Int) = ((m.length : Nat) : Int) by omega), Bool.not_true, br_false]
    by_cases c2 : (16 : Int) < ((s.length : Nat) : Int)
    · rw [decide_eq_true c2]; rfl
    rw [decide_eq_false c2, br_false]
    obtain ⟨o, e7, rfl⟩ := even_7 N hN n c1 (by omega) hs hm
    have wn : IntKind.i64.wrap n = n := w64 (by omega) (by omega)
    have a1 := all_mapD fun v hv => (hs v hv).1
    have a2 := all_mapD fun v hv => (hm v hv).1
    have lS : (s.map tm).length = s.length := List.length_map ..
    have lM : (m.map tm).length = m.length := List.length_map ..
    have hsd : shareD n (s.map tm) (m.map tm) = shareF (m.map tm) n.toNat (s.map tm) (List.replicate (s.map tm).length 0) := by
      unfold shareD
      rw [if_neg (by omega), if_neg (by omega), if_neg (by omega), if_neg (by rw [a1, a2]; decide)]
    have hsh := similar_Share_is N hN (n := n) (by omega) (sz := s.map tm) (mx := m.map tm) (by omega) (by omega)
    rw [hsd] at hsh
    obtain ⟨cur, hev, hsum⟩ := share_sum (sz := s.map tm) (mx := m.map tm) n.toNat (Rel.init (by omega) a1 a2)
    have hl : (shareF (m.map tm) n.toNat (s.map tm) (List.replicate (s.map tm).length 0)).length = (s.map tm).length := by rw [shareF_len, List.length_replicate]
    generalize shareF (m.map tm) n.toNat (s.map tm) (List.replicate (s.map tm).length 0) = out at *
    obtain ⟨o, e17, rfl⟩ := even_17 N hN n (roomD (s.map tm) (m.map tm) s.length) hev (by omega)
    rw [lS] at hsum
    rw [show ((n.toNat : Nat) : Int) = n by omega] at hsum
    simp only [e7, Option.bind_some, Sum.elim_inl, wn, hsh, hl, decide_true, Bool.not_true, br_false, e17, foldmin, lS]
    rw [hsum, decide_eq_true rfl, br_true]
  · rw [decide_eq_false (show ¬ ((s.length : Nat) : Int) = ((m.length : Nat) : Int) by omega)]; rfl
end Go.Proofs.Ytfifgcaielmbiaa.SlC
