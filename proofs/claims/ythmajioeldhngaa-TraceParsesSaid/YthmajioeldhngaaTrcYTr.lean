/- Texts of lines: trace.Parse. -/
import Derived.Test.YthmajioeldhngaaTrcXTr
namespace Go.Proofs.Ythmajioeldhngaa.Tr
open Go Go.VI
set_option linter.unusedVariables false
set_option linter.unusedSimpArgs false
set_option maxRecDepth 100000

theorem join_len (b : UInt8) : ∀ (l : List (List UInt8)), ∀ p ∈ l, p.length ≤ (joinL b l).length := by
  intro l
  induction l with
  | nil => intro p h; cases h
  | cons q l ih =>
    intro p h
    cases l with
    | nil => rw [List.mem_singleton.1 h]; exact Nat.le_refl _
    | cons r l =>
      show _ ≤ (q ++ b :: joinL b (r :: l)).length
      rw [List.length_append, List.length_cons]
      rcases List.mem_cons.1 h with rfl | h
      · omega
      · have := ih p h; omega
/-- Without an empty last part. -/
def dropE (ps : List (List UInt8)) : List (List UInt8) := if ps.getLast? = some [] then ps.dropLast else ps
def linesL (l : List UInt8) : List (List UInt8) := dropE (splitL 10 l)
theorem dropE_cons {p : List UInt8} {ps : List (List UInt8)} (h : ps ≠ []) : dropE (p :: ps) = p :: dropE ps := by
  unfold dropE
  cases ps with
  | nil => exact absurd rfl h
  | cons q ps =>
    rw [List.getLast?_cons_cons]
    split
    · rw [List.dropLast_cons_cons]
    · rfl
theorem lines_nil : linesL [] = [] := rfl
theorem lines_at {l r : List UInt8} (h : (10 : UInt8) ∉ l) : linesL (l ++ 10 :: r) = l :: linesL r := by
  unfold linesL
  rw [split_at h, dropE_cons (splitL_ne _ _)]
theorem lines_end {l : List UInt8} (h : (10 : UInt8) ∉ l) (hne : l ≠ []) : linesL l = [l] := by
  unfold linesL
  rw [split_end h]
  unfold dropE
  rw [if_neg]
  intro h'
  exact hne (by simpa using h')
open Classical in
/-- The event of a line. -/
noncomputable def rdO (N : Nat) (L : List UInt8) : Option Ev := if h : ∃ e, rightW (wordB N) e = true ∧ lineL e = L then some (Classical.choose h) else none
theorem rdO_some {N : Nat} {L : List UInt8} {e : Ev} (h : rdO N L = some e) : rightW (wordB N) e = true ∧ lineL e = L := by
  unfold rdO at h
  split at h
  · rename_i hx
    have e1 : Classical.choose hx = e := by injection h
    rw [← e1]
    exact Classical.choose_spec hx
  · cases h
theorem rdO_none {N : Nat} {L : List UInt8} (h : rdO N L = none) (e : Ev) (h1 : rightW (wordB N) e = true) : lineL e ≠ L := by
  unfold rdO at h
  split at h
  · cases h
  · rename_i hx
    exact fun h2 => hx ⟨e, h1, h2⟩
theorem rdO_of {N : Nat} {v : Ev × Bool × Unit} {L : List UInt8} (h1 : v.2.1 = true → rightW (wordB N) v.1 = true ∧ lineL v.1 = L) (h2 : ∀ e, rightW (wordB N) e = true → lineL e = L → v = (e, true, ())) :
    (∃ e, rdO N L = some e ∧ v = (e, true, ())) ∨ (rdO N L = none ∧ v.2.1 = false) := by
  cases h : rdO N L with
  | none =>
    right
    refine ⟨rfl, ?_⟩
    cases hv : v.2.1 with
    | false => rfl
    | true => exact absurd (h1 hv).2 (rdO_none h _ (h1 hv).1)
  | some e =>
    left
    obtain ⟨q1, q2⟩ := rdO_some h
    exact ⟨e, rfl, h2 e q1 q2⟩
theorem line_inj {N : Nat} (hN : Big N) {e e' : Ev} (hs : (lineL e).length ≤ 300000) (h : rightW (wordB N) e = true) (h' : rightW (wordB N) e' = true) (heq : lineL e = lineL e') : e = e' := by
  have hsz : (ByteArray.mk (lineL e).toArray).size = (lineL e).length := by rw [← size_list]
  obtain ⟨v, _, _, q⟩ := trace_read_is N hN (s := ByteArray.mk (lineL e).toArray) (by omega)
  have hl : tl (ByteArray.mk (lineL e).toArray) = lineL e := by simp [tl]
  have e1 := q e h hl.symm
  have e2 := q e' h' (heq.symm.trans hl.symm)
  rw [e1] at e2
  injection e2
theorem rdO_line {N : Nat} (hN : Big N) {e : Ev} (hs : (lineL e).length ≤ 300000) (h : rightW (wordB N) e = true) : rdO N (lineL e) = some e := by
  cases hr : rdO N (lineL e) with
  | none => exact absurd rfl (rdO_none hr e h)
  | some e' =>
    obtain ⟨q1, q2⟩ := rdO_some hr
    rw [line_inj hN hs h q1 q2.symm]
noncomputable def parseF (N : Nat) : List (List UInt8) → Nat → List Ev → List Ev × Int × Int × Unit
  | [], _, acc => (acc, 0, 0, ())
  | L :: ls, i, acc => match rdO N L with
    | none => ([], 12, ((i + 1 : Nat) : Int), ())
    | some e => parseF N ls (i + 1) (acc ++ [e])
theorem parseF_none {N : Nat} {L : List UInt8} {ls : List (List UInt8)} {i : Nat} {acc : List Ev} (h : rdO N L = none) : parseF N (L :: ls) i acc = ([], 12, ((i + 1 : Nat) : Int), ()) := by
  unfold parseF; rw [h]
theorem parseF_some {N : Nat} {L : List UInt8} {ls : List (List UInt8)} {i : Nat} {acc : List Ev} {e : Ev} (h : rdO N L = some e) : parseF N (L :: ls) i acc = parseF N ls (i + 1) (acc ++ [e]) := by
  conv => lhs; unfold parseF
  rw [h]
theorem trace_Parse_is (N : Nat) (hN : Big N) {s : ByteArray} (hs : s.size ≤ 300000) : G_trace_Parse N (s, ()) = some (parseF N (linesL (tl s)) 0 []) := by
  have hN' := hN
  unfold Big at hN'
  have hsz := size_list s
  obtain ⟨⟨ps, ⟨⟩⟩, e0, hps⟩ := trace_parts_is N hN (s := s) (by omega) 10
  have e0 : G_trace_parts N (s, 10, ()) = _ := e0
  have hps : ps.map tl = splitL 10 (tl s) := hps
  have hjoin : joinL 10 (ps.map tl) = tl s := by rw [hps, join_split]
  have hlen : ∀ p ∈ ps, p.size ≤ 300000 := by
    intro p hp
    have := join_len 10 (ps.map tl) (tl p) (List.mem_map_of_mem hp)
    rw [hjoin] at this
    have h2 := size_list p
    have h3 : (tl p).length = p.size := h2
    have h4 : (tl s).length = s.size := hsz
    omega
  have hne : ps ≠ [] := fun h => by rw [h] at hps; exact splitL_ne 10 (tl s) hps.symm
  -- rounds
  have hcnt : ps.length ≤ 300001 := by
    have key : ∀ l : List (List UInt8), l.length ≤ (joinL 10 l).length + 1 := by
      intro l
      induction l with
      | nil => exact Nat.zero_le _
      | cons q l ih =>
        cases l with
        | nil => show 1 ≤ _; omega
        | cons r l =>
          show _ ≤ (q ++ 10 :: joinL 10 (r :: l)).length + 1
          rw [List.length_append, List.length_cons]
          simp only [List.length_cons] at ih ⊢
          omega
    have := key (ps.map tl)
    rw [hjoin, List.length_map] at this
    have h4 : (tl s).length = s.size := hsz
    omega
  have main : ∀ qs : List ByteArray, (∀ p ∈ qs, p.size ≤ 300000) → qs.length ≤ 300001 → Option.bind (g_trace_Parse_6 N N ((qs, ((qs.length : Nat) : Int), 0, ()), [], ())) (fun v2 => (Sum.elim (fun v3 => (some (v3.2.1, (0 : Int), (0 : Int), ()))) (fun v3 => (some (v3.1.1, v3.1.2.1, v3.1.2.2.1, ()))) v2)) = some (parseF N (qs.map tl) 0 []) := by
    intro qs hq hqc
    have loop : ∀ m (i : Nat) x, i ≤ qs.length → (∃ acc : List Ev, x = ((qs, ((qs.length : Nat) : Int), (i : Int), ()), acc, ()) ∧ acc.length ≤ i ∧ parseF N ((qs.map tl).drop i) i acc = parseF N (qs.map tl) 0 []) → qs.length - i < m →
        Tot (g_trace_Parse_6 N m x) fun o => (∃ acc y, o = .inl (y, acc, ()) ∧ parseF N (qs.map tl) 0 [] = (acc, 0, 0, ())) ∨ ∃ y, o = .inr (parseF N (qs.map tl) 0 [], y) := by
      refine Tot.range qs.length fun m i x hx hi rec => ?_
      obtain ⟨acc, rfl, hal, hp⟩ := hx
      rw [g_trace_Parse_6_succ]
      unfold s_trace_Parse_6
      by_cases hlt : i < qs.length
      · have d0 : decide ((0 : Int) ≤ (i : Int)) = true := decide_eq_true (by omega)
        have d1 : decide ((i : Int) < ((qs.length : Nat) : Int)) = true := decide_eq_true (by omega)
        have b3 : Nat.ble (acc.length + 1) maxElems = true := Nat.ble_eq_true_of_le (by unfold maxElems; omega)
        obtain ⟨v, e1, h1, h2⟩ := trace_read_is N hN (s := qs[i]) (hq _ (List.getElem_mem hlt))
        have hdrop : (qs.map tl).drop i = tl qs[i] :: (qs.map tl).drop (i + 1) := by
          rw [List.drop_eq_getElem_cons (by rw [List.length_map]; exact hlt), List.getElem_map]
        rw [hdrop] at hp
        simp only [d0, d1, br_true, Int.toNat_natCast, at_lt hlt, Option.bind_some, e1, b3, wi (i := i) (by omega)]
        rcases rdO_of h1 h2 with ⟨e, q1, rfl⟩ | ⟨q1, q2⟩
        · rw [parseF_some q1] at hp
          simp only [Bool.not_true, br_false]
          exact rec (i + 1) _ (by omega) (by omega) ⟨_, rfl, by rw [List.length_append]; simp only [List.length_cons, List.length_nil]; omega, hp⟩
        · rw [parseF_none q1] at hp
          rw [q2]
          simp only [Bool.not_false, br_true]
          exact Tot.some (.inr ⟨_, by rw [← hp]⟩)
      · have d1 : decide ((i : Int) < ((qs.length : Nat) : Int)) = false := decide_eq_false (by omega)
        simp only [d1, br_false]
        rw [List.drop_eq_nil_of_le (by rw [List.length_map]; omega)] at hp
        exact Tot.some (.inl ⟨acc, _, rfl, hp.symm⟩)
    obtain ⟨o, e, ho⟩ := loop N 0 _ (by omega) ⟨[], rfl, Nat.le_refl _, rfl⟩ (by omega)
    have e : g_trace_Parse_6 N N ((qs, ((qs.length : Nat) : Int), 0, ()), [], ()) = _ := e
    rw [e, Option.bind_some]
    rcases ho with ⟨acc, y, rfl, h⟩ | ⟨y, rfl⟩
    · rw [h]; rfl
    · rfl
  obtain ⟨k, hk⟩ : ∃ k, ps.length = k + 1 := ⟨ps.length - 1, by have := List.length_pos_iff.2 hne; omega⟩
  have w1 : IntKind.i64.wrap (((ps.length : Nat) : Int) - 1) = (k : Int) := by rw [w64 (by omega) (by omega)]; omega
  have hkl : k < ps.length := by omega
  have d0 : decide ((0 : Int) ≤ (k : Int)) = true := decide_eq_true (by omega)
  have d1 : decide ((k : Int) ≤ ((ps.length : Nat) : Int)) = true := decide_eq_true (by omega)
  have hlast : (ps.map tl).getLast? = some (tl ps[k]) := by
    rw [List.getLast?_eq_getElem?, List.length_map, hk, Nat.add_sub_cancel, List.getElem?_map, at_lt hkl]; rfl
  have hL : linesL (tl s) = if ps[k] = bs [] then (ps.take k).map tl else ps.map tl := by
    unfold linesL dropE
    rw [← hps, hlast]
    have hiff : (some (tl ps[k]) = some ([] : List UInt8)) ↔ ps[k] = bs [] := by
      constructor
      · intro h; exact tl_inj (by injection h)
      · intro h; rw [h]
    by_cases c : ps[k] = bs []
    · rw [if_pos c, if_pos (hiff.2 c), List.dropLast_eq_take, List.length_map, hk, Nat.add_sub_cancel, List.map_take]
    · rw [if_neg c, if_neg (fun h => c (hiff.1 h))]
  unfold G_trace_Parse S_trace_Parse
  simp only [e0, Option.bind_some, w1, d0, d1, br_true, Int.toNat_natCast, at_lt hkl, Bool.and_self]
  rw [hL]
  by_cases c : ps[k] = bs []
  · rw [decide_eq_true c, if_pos c, br_true]
    exact main (ps.take k) (fun p hp => hlen p (List.mem_of_mem_take hp)) (by rw [List.length_take]; omega)
  · rw [decide_eq_false c, if_neg c, br_false]
    exact main ps hlen hcnt
theorem law32_taken_is (N : Nat) (hN : Big N) {l : List Ev} (hl : l.length ≤ 1000000) : G_law32_taken N (l, ()) = some (l, ()) := by
  have hN' := hN
  unfold Big at hN'
  have loop : ∀ m (i : Nat) x, i ≤ l.length → x = ((l, (i : Int), ()), l.take i, ()) → l.length - i < m → Tot (g_law32_taken_3 N m x) fun o => ∃ y, o = .inl (y, l, ()) := by
    refine Tot.range l.length fun m i x hx hi rec => ?_
    subst hx
    rw [g_law32_taken_3_succ]
    unfold s_law32_taken_3
    by_cases hlt : i < l.length
    · have d0 : decide ((0 : Int) ≤ (i : Int)) = true := decide_eq_true (by omega)
      have d1 : decide ((i : Int) < ((l.length : Nat) : Int)) = true := decide_eq_true (by omega)
      have hb : Nat.ble ((l.take i).length + 1) maxElems = true := Nat.ble_eq_true_of_le (by unfold maxElems; rw [List.length_take]; omega)
      simp only [d0, d1, br_true, Int.toNat_natCast, at_lt hlt, Option.bind_some, wi (i := i) (by omega), hb]
      refine rec (i + 1) _ (by omega) (by omega) ?_
      rw [List.take_add_one, at_lt hlt]; rfl
    · have d1 : decide ((i : Int) < ((l.length : Nat) : Int)) = false := decide_eq_false (by omega)
      simp only [d1, br_false]
      exact Tot.some ⟨_, by rw [List.take_of_length_le (by omega)]⟩
  obtain ⟨o, e, y, rfl⟩ := loop N 0 _ (by omega) rfl (by omega)
  have e : g_law32_taken_3 N N ((l, 0, ()), [], ()) = _ := e
  unfold G_law32_taken S_law32_taken
  simp only [e, Option.bind_some]; rfl
theorem ref32_Same_self (N : Nat) (hN : Big N) {l : List Ev} (hl : l.length ≤ 1000000) : G_ref32_Same N (l, l, ()) = some (true, ()) := by
  have hN' := hN
  unfold Big at hN'
  have loop : ∀ m (i : Nat) x, i ≤ l.length → x = ((l, l, (i : Int), ()), ()) → l.length - i < m → Tot (g_ref32_Same_4 N m x) fun o => ∃ y, o = .inl y := by
    refine Tot.range l.length fun m i x hx hi rec => ?_
    subst hx
    rw [g_ref32_Same_4_succ]
    unfold s_ref32_Same_4
    by_cases hlt : i < l.length
    · have d0 : decide ((0 : Int) ≤ (i : Int)) = true := decide_eq_true (by omega)
      have d1 : decide ((i : Int) < ((l.length : Nat) : Int)) = true := decide_eq_true (by omega)
      simp only [d0, d1, br_true, Int.toNat_natCast, at_lt hlt, Option.bind_some, wi (i := i) (by omega), decide_true, Bool.and_self, Bool.not_true, br_false]
      exact rec (i + 1) _ (by omega) (by omega) rfl
    · have d1 : decide ((i : Int) < ((l.length : Nat) : Int)) = false := decide_eq_false (by omega)
      simp only [d1, br_false]
      exact Tot.some ⟨_, rfl⟩
  obtain ⟨o, e, y, rfl⟩ := loop N 0 _ (by omega) rfl (by omega)
  have e : g_ref32_Same_4 N N ((l, l, 0, ()), ()) = _ := e
  unfold G_ref32_Same S_ref32_Same
  simp only [decide_true, Bool.not_true, br_false, e, Option.bind_some]; rfl
end Go.Proofs.Ythmajioeldhngaa.Tr
