/- Health: what the functions and the document's words come to. -/
import Derived.Test.YtfifgcaielmbiaaLgtHt
namespace Go.Proofs.Ytfifgcaielmbiaa.Ht
open Go Go.VI
set_option linter.unusedVariables false
set_option linter.unusedSimpArgs false
set_option maxRecDepth 100000

abbrev Inst := ByteArray × ByteArray × Int × Int × Int
def nameless : ByteArray := ByteArray.mk (List.toArray [])
def pLate (d : Int) (x : Inst) : Bool := decide (x.2.2.1 = 4) || ((decide (x.2.2.1 = 1) || decide (x.2.2.1 = 2)) && decide (x.2.2.2.2 < d))
def pComing (d : Int) (x : Inst) : Bool := (decide (x.2.2.1 = 1) || decide (x.2.2.1 = 2)) && decide (d ≤ x.2.2.2.2)
def pSize (name : ByteArray) (x : Inst) : Bool := decide (x.2.1 = name) && !decide (x.2.2.1 = 3)
def pAll (m : Mach) : Bool := !decide (m.2.1 = nameless)
def pBad (m : Mach) : Bool := !decide (m.2.1 = nameless) && !m.2.2.2.2.2

theorem filter_succ {α : Type} {p : α → Bool} {l : List α} {i : Nat} {v : α} (h : l[i]? = some v) : (l.take (i + 1)).filter p = (l.take i).filter p ++ (if p v then [v] else []) := by
  rw [List.take_add_one, h, List.filter_append]
  simp only [Option.toList_some, List.filter_cons, List.filter_nil]
theorem count_succ {α : Type} {p : α → Bool} {l : List α} {i : Nat} {v : α} (h : l[i]? = some v) : (l.take (i + 1)).countP p = (l.take i).countP p + (if p v then 1 else 0) := by
  rw [List.take_add_one, h, List.countP_append]
  simp only [Option.toList_some, List.countP_cons, List.countP_nil, Nat.zero_add]
theorem filter_le {α : Type} {p : α → Bool} {l : List α} {i : Nat} : ((l.take i).filter p).length ≤ l.length := Nat.le_trans (List.length_filter_le _ _) (by rw [List.length_take]; omega)
theorem count_le {α : Type} {p : α → Bool} {l : List α} {i : Nat} : (l.take i).countP p ≤ l.length := Nat.le_trans (List.countP_le_length) (by rw [List.length_take]; omega)

theorem health_Late_is (N : Nat) (hN : Big N) (l : List Inst) (hl : l.length ≤ 60) (now lim : Int) : G_health_Late N (l, now, lim, ()) = some (l.filter (pLate (IntKind.i64.wrap (now - lim))), ()) := by
  unfold Big at hN
  have loop : ∀ m (i : Nat) (x : (List Inst × Int × Int × Unit) × (Int × Unit) × (Int × Unit) × List Inst × Unit), i ≤ l.length → x = ((l, (l.length : Int), (i : Int), ()), (now, ()), (lim, ()), (l.take i).filter (pLate (IntKind.i64.wrap (now - lim))), ()) → l.length - i < m →
      Tot (gx_health_Late_0 N m x) fun o => o = .inl ((), (now, ()), (lim, ()), l.filter (pLate (IntKind.i64.wrap (now - lim))), ()) := by
    refine Tot.range l.length fun m i x hx hi rec => ?_
    subst hx
    rw [gx_health_Late_0_succ]
    unfold sx_health_Late_0
    have e : IntKind.i64.wrap ((i : Int) + 1) = ((i + 1 : Nat) : Int) := by rw [w64 (by omega) (by omega)]; omega
    dsimp only
    rw [e]
    refine Tot.brD (fun hc => ?_) fun hc => ?_
    · refine Tot.brD (fun _ => ?_) fun h => absurd (by omega) h
      refine Tot.idx (by omega) fun v hv => ?_
      have hv' : l[i]? = some v := by simpa using hv
      have hf := filter_succ (p := pLate (IntKind.i64.wrap (now - lim))) hv'
      refine Tot.bind (P := fun u => u.1 = pLate (IntKind.i64.wrap (now - lim)) v) ?_ fun u hu => ?_
      · unfold pLate
        refine Tot.brD (fun h => Tot.some (by simp [h])) fun h => ?_
        unfold G_health_awaited S_health_awaited
        by_cases h1 : v.2.2.1 = 1
        · simp only [h1, decide_true, br_true, Option.bind_some]; exact Tot.some (by simp)
        · by_cases h2 : v.2.2.1 = 2
          · simp only [h1, h2, decide_true, decide_false, br_true, br_false, Option.bind_some, Int.reduceEq]; exact Tot.some (by simp)
          · simp only [h1, h2, decide_false, br_false, Option.bind_some]; exact Tot.some (by simp [h])
      · refine Tot.br (fun hc => ?_) fun hc => ?_
        · refine Tot.brD (fun _ => ?_) fun h => absurd (by omega) h
          rw [hv]
          have := filter_le (p := pLate (IntKind.i64.wrap (now - lim))) (l := l) (i := i)
          refine Tot.brN (fun _ => rec (i + 1) _ (by omega) (by omega) ?_) fun h => absurd (by unfold maxElems; omega) h
          rw [hf, if_pos (hu ▸ hc)]
        · refine rec (i + 1) _ (by omega) (by omega) ?_
          rw [hf, if_neg (by rw [← hu, hc]; decide), List.append_nil]
    · have : i = l.length := by omega
      subst this
      exact Tot.some (by rw [List.take_length])
  unfold G_health_Late S_health_Late
  obtain ⟨o, eo, rfl⟩ := loop N 0 _ (by omega) rfl (by omega)
  have eo : gx_health_Late_0 N N ((l, (l.length : Int), 0, ()), (now, ()), (lim, ()), [], ()) = _ := eo
  dsimp only
  rw [eo]
  rfl

theorem health_Coming_is (N : Nat) (hN : Big N) (l : List Inst) (hl : l.length ≤ 60) (now lim : Int) : G_health_Coming N (l, now, lim, ()) = some (l.filter (pComing (IntKind.i64.wrap (now - lim))), ()) := by
  unfold Big at hN
  have loop : ∀ m (i : Nat) (x : (List Inst × Int × Int × Unit) × (Int × Unit) × (Int × Unit) × List Inst × Unit), i ≤ l.length → x = ((l, (l.length : Int), (i : Int), ()), (now, ()), (lim, ()), (l.take i).filter (pComing (IntKind.i64.wrap (now - lim))), ()) → l.length - i < m →
      Tot (gx_health_Coming_0 N m x) fun o => o = .inl ((), (now, ()), (lim, ()), l.filter (pComing (IntKind.i64.wrap (now - lim))), ()) := by
    refine Tot.range l.length fun m i x hx hi rec => ?_
    subst hx
    rw [gx_health_Coming_0_succ]
    unfold sx_health_Coming_0
    have e : IntKind.i64.wrap ((i : Int) + 1) = ((i + 1 : Nat) : Int) := by rw [w64 (by omega) (by omega)]; omega
    dsimp only
    rw [e]
    refine Tot.brD (fun hc => ?_) fun hc => ?_
    · refine Tot.brD (fun _ => ?_) fun h => absurd (by omega) h
      refine Tot.idx (by omega) fun v hv => ?_
      have hv' : l[i]? = some v := by simpa using hv
      have hf := filter_succ (p := pComing (IntKind.i64.wrap (now - lim))) hv'
      refine Tot.bind (P := fun u => u.1 = pComing (IntKind.i64.wrap (now - lim)) v) ?_ fun u hu => ?_
      · unfold pComing G_health_awaited S_health_awaited
        by_cases h1 : v.2.2.1 = 1
        · simp only [h1, decide_true, br_true, Option.bind_some]; exact Tot.some (by simp)
        · by_cases h2 : v.2.2.1 = 2
          · simp only [h1, h2, decide_true, decide_false, br_true, br_false, Option.bind_some, Int.reduceEq]; exact Tot.some (by simp)
          · simp only [h1, h2, decide_false, br_false, Option.bind_some]; exact Tot.some (by simp)
      · refine Tot.br (fun hc => ?_) fun hc => ?_
        · refine Tot.brD (fun _ => ?_) fun h => absurd (by omega) h
          rw [hv]
          have := filter_le (p := pComing (IntKind.i64.wrap (now - lim))) (l := l) (i := i)
          refine Tot.brN (fun _ => rec (i + 1) _ (by omega) (by omega) ?_) fun h => absurd (by unfold maxElems; omega) h
          rw [hf, if_pos (hu ▸ hc)]
        · refine rec (i + 1) _ (by omega) (by omega) ?_
          rw [hf, if_neg (by rw [← hu, hc]; decide), List.append_nil]
    · have : i = l.length := by omega
      subst this
      exact Tot.some (by rw [List.take_length])
  unfold G_health_Coming S_health_Coming
  obtain ⟨o, eo, rfl⟩ := loop N 0 _ (by omega) rfl (by omega)
  have eo : gx_health_Coming_0 N N ((l, (l.length : Int), 0, ()), (now, ()), (lim, ()), [], ()) = _ := eo
  dsimp only
  rw [eo]
  rfl
theorem health_Size_is (N : Nat) (hN : Big N) (l : List Inst) (hl : l.length ≤ 60) (name : ByteArray) : G_health_Size N (l, name, ()) = some (((l.filter (pSize name)).length : Int), ()) := by
  unfold Big at hN
  have loop : ∀ m (i : Nat) (x : (List Inst × Int × Int × Unit) × (ByteArray × Unit) × List Inst × Unit), i ≤ l.length → x = ((l, (l.length : Int), (i : Int), ()), (name, ()), (l.take i).filter (pSize name), ()) → l.length - i < m →
      Tot (gx_health_Size_0 N m x) fun o => o = .inl ((), (name, ()), l.filter (pSize name), ()) := by
    refine Tot.range l.length fun m i x hx hi rec => ?_
    subst hx
    rw [gx_health_Size_0_succ]
    unfold sx_health_Size_0
    have e : IntKind.i64.wrap ((i : Int) + 1) = ((i + 1 : Nat) : Int) := by rw [w64 (by omega) (by omega)]; omega
    dsimp only
    rw [e]
    refine Tot.brD (fun hc => ?_) fun hc => ?_
    · refine Tot.brD (fun _ => ?_) fun h => absurd (by omega) h
      refine Tot.idx (by omega) fun v hv => ?_
      have hv' : l[i]? = some v := by simpa using hv
      have hf := filter_succ (p := pSize name) hv'
      refine Tot.bind (P := fun u => u.1 = pSize name v) ?_ fun u hu => ?_
      · unfold pSize
        exact Tot.brD (fun h => Tot.some (by simp [h])) fun h => Tot.some (by simp [h])
      · refine Tot.br (fun hc => ?_) fun hc => ?_
        · refine Tot.brD (fun _ => ?_) fun h => absurd (by omega) h
          rw [hv]
          have := filter_le (p := pSize name) (l := l) (i := i)
          refine Tot.brN (fun _ => rec (i + 1) _ (by omega) (by omega) ?_) fun h => absurd (by unfold maxElems; omega) h
          rw [hf, if_pos (hu ▸ hc)]
        · refine rec (i + 1) _ (by omega) (by omega) ?_
          rw [hf, if_neg (by rw [← hu, hc]; decide), List.append_nil]
    · have : i = l.length := by omega
      subst this
      exact Tot.some (by rw [List.take_length])
  unfold G_health_Size S_health_Size
  obtain ⟨o, eo, rfl⟩ := loop N 0 _ (by omega) rfl (by omega)
  have eo : gx_health_Size_0 N N ((l, (l.length : Int), 0, ()), (name, ()), [], ()) = _ := eo
  dsimp only
  rw [eo]
  rfl

theorem ref29_late_is (N : Nat) (x : Inst) (now lim : Int) : G_ref29_late N (x, now, lim, ()) = some (pLate (IntKind.i64.wrap (now - lim)) x, ()) := by
  unfold G_ref29_late S_ref29_late pLate
  by_cases h4 : x.2.2.1 = 4
  · simp [h4, br]
  · by_cases h1 : x.2.2.1 = 1
    · simp [h1, br]
    · by_cases h2 : x.2.2.1 = 2
      · simp [h2, br]
      · simp [h1, h2, h4, br]

theorem ref29_Late_is (N : Nat) (hN : Big N) (l : List Inst) (hl : l.length ≤ 60) (now lim : Int) : G_ref29_Late N (l, now, lim, ()) = some (l.filter (pLate (IntKind.i64.wrap (now - lim))), ()) := by
  unfold Big at hN
  have loop : ∀ m (i : Nat) (x : (List Inst × Int × Int × Int × Unit) × List Inst × Unit), i ≤ l.length → x = ((l, now, lim, (i : Int), ()), (l.take i).filter (pLate (IntKind.i64.wrap (now - lim))), ()) → l.length - i < m →
      Tot (g_ref29_Late_3 N m x) fun o => o = .inl ((), l.filter (pLate (IntKind.i64.wrap (now - lim))), ()) := by
    refine Tot.range l.length fun m i x hx hi rec => ?_
    subst hx
    rw [g_ref29_Late_3_succ]
    unfold s_ref29_Late_3
    have e : IntKind.i64.wrap ((i : Int) + 1) = ((i + 1 : Nat) : Int) := by rw [w64 (by omega) (by omega)]; omega
    dsimp only
    rw [e]
    refine Tot.brD (fun hc => ?_) fun hc => ?_
    · refine Tot.brD (fun _ => ?_) fun h => absurd (by omega) h
      refine Tot.idx (by omega) fun v hv => ?_
      have hv' : l[i]? = some v := by simpa using hv
      have hf := filter_succ (p := pLate (IntKind.i64.wrap (now - lim))) hv'
      rw [ref29_late_is, Option.bind_some]
      refine Tot.br (fun hc => ?_) fun hc => ?_
      · refine Tot.brD (fun _ => ?_) fun h => absurd (by omega) h
        rw [hv]
        have := filter_le (p := pLate (IntKind.i64.wrap (now - lim))) (l := l) (i := i)
        refine Tot.brN (fun _ => rec (i + 1) _ (by omega) (by omega) ?_) fun h => absurd (by unfold maxElems; omega) h
        rw [hf, if_pos hc]
      · refine rec (i + 1) _ (by omega) (by omega) ?_
        have hc : pLate (IntKind.i64.wrap (now - lim)) v = false := hc
        rw [hf, if_neg (by rw [hc]; decide), List.append_nil]
    · have : i = l.length := by omega
      subst this
      exact Tot.some (by rw [List.take_length])
  unfold G_ref29_Late S_ref29_Late
  obtain ⟨o, eo, rfl⟩ := loop N 0 _ (by omega) rfl (by omega)
  have eo : g_ref29_Late_3 N N ((l, now, lim, 0, ()), [], ()) = _ := eo
  dsimp only
  rw [eo]
  rfl

theorem coming_not (d : Int) (x : Inst) : pComing d x = ((decide (x.2.2.1 = 1) || decide (x.2.2.1 = 2)) && !pLate d x) := by
  unfold pComing pLate
  by_cases h1 : x.2.2.1 = 1
  · by_cases h : d ≤ x.2.2.2.2
    · have : ¬ x.2.2.2.2 < d := by omega
      simp [h1, h, this]
    · have : x.2.2.2.2 < d := by omega
      simp [h1, h, this]
  · by_cases h2 : x.2.2.1 = 2
    · by_cases h : d ≤ x.2.2.2.2
      · have : ¬ x.2.2.2.2 < d := by omega
        simp [h2, h, this]
      · have : x.2.2.2.2 < d := by omega
        simp [h2, h, this]
    · simp [h1, h2]

set_option maxHeartbeats 1000000 in
theorem ref29_Coming_is (N : Nat) (hN : Big N) (l : List Inst) (hl : l.length ≤ 60) (now lim : Int) : G_ref29_Coming N (l, now, lim, ()) = some (l.filter (pComing (IntKind.i64.wrap (now - lim))), ()) := by
  unfold Big at hN
  have loop : ∀ m (i : Nat) (x : (List Inst × Int × Int × Int × Unit) × List Inst × Unit), i ≤ l.length → x = ((l, now, lim, (i : Int), ()), (l.take i).filter (pComing (IntKind.i64.wrap (now - lim))), ()) → l.length - i < m →
      Tot (g_ref29_Coming_3 N m x) fun o => o = .inl ((), l.filter (pComing (IntKind.i64.wrap (now - lim))), ()) := by
    refine Tot.range l.length fun m i x hx hi rec => ?_
    subst hx
    rw [g_ref29_Coming_3_succ]
    unfold s_ref29_Coming_3
    have e : IntKind.i64.wrap ((i : Int) + 1) = ((i + 1 : Nat) : Int) := by rw [w64 (by omega) (by omega)]; omega
    dsimp only
    rw [e]
    refine Tot.brD (fun hc => ?_) fun hc => ?_
    · have hlt : i < l.length := by omega
      have hv : l[i]? = some l[i] := List.getElem?_eq_getElem hlt
      have hf := filter_succ (p := pComing (IntKind.i64.wrap (now - lim))) hv
      have hp := coming_not (IntKind.i64.wrap (now - lim)) l[i]
      have hb : Nat.ble (((l.take i).filter (pComing (IntKind.i64.wrap (now - lim)))).length + 1) maxElems = true := Nat.ble_eq_true_of_le (by
        have := filter_le (p := pComing (IntKind.i64.wrap (now - lim))) (l := l) (i := i)
        unfold maxElems; omega)
      have h0 : decide ((0 : Int) ≤ (i : Int)) = true := decide_eq_true (by omega)
      simp only [h0, br_true, Int.toNat_natCast, hv, Option.bind_some, ref29_late_is, hb]
      have yes : pComing (IntKind.i64.wrap (now - lim)) l[i] = true → Tot (g_ref29_Coming_3 N m ((l, now, lim, ((i + 1 : Nat) : Int), ()), (l.take i).filter (pComing (IntKind.i64.wrap (now - lim))) ++ [l[i]], ())) fun o => o = .inl ((), l.filter (pComing (IntKind.i64.wrap (now - lim))), ()) := fun h => by
        refine rec (i + 1) _ (by omega) (by omega) ?_
        rw [hf, if_pos h]
      have no : pComing (IntKind.i64.wrap (now - lim)) l[i] = false → Tot (g_ref29_Coming_3 N m ((l, now, lim, ((i + 1 : Nat) : Int), ()), (l.take i).filter (pComing (IntKind.i64.wrap (now - lim))), ())) fun o => o = .inl ((), l.filter (pComing (IntKind.i64.wrap (now - lim))), ()) := fun h => by
        refine rec (i + 1) _ (by omega) (by omega) ?_
        rw [hf, if_neg (by rw [h]; decide), List.append_nil]
      by_cases h1 : l[i].2.2.1 = 1
      · by_cases h2 : pLate (IntKind.i64.wrap (now - lim)) l[i] = true
        · simp only [h1, h2, decide_true, br_true, br_false, Bool.not_true]
          exact no (by rw [hp, h2]; simp)
        · have h2 : pLate (IntKind.i64.wrap (now - lim)) l[i] = false := by simpa using h2
          simp only [h1, h2, decide_true, br_true, Bool.not_false]
          exact yes (by rw [hp, h2, h1]; rfl)
      · by_cases h3 : l[i].2.2.1 = 2
        · by_cases h2 : pLate (IntKind.i64.wrap (now - lim)) l[i] = true
          · simp only [decide_eq_false h1, decide_eq_true h3, h2, br_true, br_false, Bool.not_true]
            exact no (by rw [hp, h2]; simp)
          · have h2 : pLate (IntKind.i64.wrap (now - lim)) l[i] = false := by simpa using h2
            simp only [decide_eq_false h1, decide_eq_true h3, h2, br_true, br_false, Bool.not_false]
            exact yes (by rw [hp, h2, h3]; rfl)
        · simp only [decide_eq_false h1, decide_eq_false h3, br_false]
          exact no (by rw [hp]; simp [h1, h3])
    · have : i = l.length := by omega
      subst this
      exact Tot.some (by rw [List.take_length])
  unfold G_ref29_Coming S_ref29_Coming
  obtain ⟨o, eo, rfl⟩ := loop N 0 _ (by omega) rfl (by omega)
  have eo : g_ref29_Coming_3 N N ((l, now, lim, 0, ()), [], ()) = _ := eo
  dsimp only
  rw [eo]
  rfl

theorem ref29_Size_is (N : Nat) (hN : Big N) (l : List Inst) (hl : l.length ≤ 60) (name : ByteArray) : G_ref29_Size N (l, name, ()) = some (((l.countP (pSize name)) : Int), ()) := by
  unfold Big at hN
  have loop : ∀ m (i : Nat) (x : (List Inst × ByteArray × Int × Int × Unit) × Unit), i ≤ l.length → x = ((l, name, (((l.take i).countP (pSize name) : Nat) : Int), (i : Int), ()), ()) → l.length - i < m →
      Tot (g_ref29_Size_3 N m x) fun o => o = .inl ((((l.countP (pSize name) : Nat) : Int), ()), ()) := by
    refine Tot.range l.length fun m i x hx hi rec => ?_
    subst hx
    rw [g_ref29_Size_3_succ]
    unfold s_ref29_Size_3
    have hcl := count_le (p := pSize name) (l := l) (i := i)
    have e : IntKind.i64.wrap ((i : Int) + 1) = ((i + 1 : Nat) : Int) := by rw [w64 (by omega) (by omega)]; omega
    have e2 : IntKind.i64.wrap ((((l.take i).countP (pSize name) : Nat) : Int) + 1) = (((l.take i).countP (pSize name) + 1 : Nat) : Int) := by rw [w64 (by omega) (by omega)]; omega
    dsimp only
    rw [e, e2]
    refine Tot.brD (fun hc => ?_) fun hc => ?_
    · have hlt : i < l.length := by omega
      have hv : l[i]? = some l[i] := List.getElem?_eq_getElem hlt
      have hf := count_succ (p := pSize name) hv
      have h0 : decide ((0 : Int) ≤ (i : Int)) = true := decide_eq_true (by omega)
      simp only [h0, br_true, Int.toNat_natCast, hv, Option.bind_some]
      refine Tot.brD (fun h1 => Tot.br (fun h2 => ?_) fun h2 => ?_) fun h1 => ?_
      · refine rec (i + 1) _ (by omega) (by omega) ?_
        rw [hf, if_pos (show pSize name l[i] = true by unfold pSize; simp only [h1, decide_true, Bool.true_and, h2])]
      · refine rec (i + 1) _ (by omega) (by omega) ?_
        rw [hf, if_neg (show ¬ pSize name l[i] = true by unfold pSize; simp only [h1, decide_true, Bool.true_and, h2]; decide)]
        rfl
      · refine rec (i + 1) _ (by omega) (by omega) ?_
        rw [hf, if_neg (show ¬ pSize name l[i] = true by unfold pSize; simp only [h1, decide_false, Bool.false_and]; decide)]
        rfl
    · have : i = l.length := by omega
      subst this
      exact Tot.some (by rw [List.take_length])
  unfold G_ref29_Size S_ref29_Size
  obtain ⟨o, eo, rfl⟩ := loop N 0 _ (by omega) rfl (by omega)
  have eo : g_ref29_Size_3 N N ((l, name, 0, 0, ()), ()) = _ := eo
  dsimp only
  rw [eo]
  rfl

theorem Insts_same (N : Nat) (hN : Big N) (l : List Inst) (hl : l.length ≤ 60) : G_ref17_Insts N (l, l, ()) = some (true, ()) := by
  unfold Big at hN
  have loop : ∀ m (i : Nat) (x : (List Inst × List Inst × Int × Unit) × Unit), i ≤ l.length → x = ((l, l, (i : Int), ()), ()) → l.length - i < m →
      Tot (g_ref17_Insts_4 N m x) fun o => o = .inl ((), ()) := by
    refine Tot.range l.length fun m i x hx hi rec => ?_
    subst hx
    rw [g_ref17_Insts_4_succ]
    unfold s_ref17_Insts_4
    have e : IntKind.i64.wrap ((i : Int) + 1) = ((i + 1 : Nat) : Int) := by rw [w64 (by omega) (by omega)]; omega
    dsimp only
    rw [e]
    refine Tot.brD (fun hc => ?_) fun hc => Tot.some rfl
    have hlt : i < l.length := by omega
    have hv : l[i]? = some l[i] := List.getElem?_eq_getElem hlt
    have h0 : decide ((0 : Int) ≤ (i : Int)) = true := decide_eq_true (by omega)
    simp only [h0, br_true, Int.toNat_natCast, hv, Option.bind_some, decide_true, Bool.and_true, Bool.not_true, br_false]
    exact rec (i + 1) _ (by omega) (by omega) rfl
  unfold G_ref17_Insts S_ref17_Insts
  obtain ⟨o, eo, rfl⟩ := loop N 0 _ (by omega) rfl (by omega)
  have eo : g_ref17_Insts_4 N N ((l, l, 0, ()), ()) = _ := eo
  dsimp only
  rw [eo]
  simp only [decide_true, Bool.not_true, br_false]
  rfl

end Go.Proofs.Ytfifgcaielmbiaa.Ht
