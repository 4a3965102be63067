/- TraceBack: what the law computes is true. -/
import Derived.Test.YthmajioeldhngaaTrcYTr
import Derived.Test.YthmajioeldhngaaPTraceAheadTr
namespace Go.Proofs.Ythmajioeldhngaa.Tr
open Go Go.VI
set_option linter.unusedVariables false
set_option linter.unusedSimpArgs false
set_option maxRecDepth 100000

theorem lines_show {N : Nat} (hN : Big N) : ∀ {l : List Ev}, (∀ e ∈ l, okS e.2.2.1) → linesL (showL (wordB N) l) = (l.filter (rightW (wordB N))).map lineL
  | [], _ => rfl
  | e :: l, h => by
    have ih := lines_show hN (l := l) fun x hx => h x (List.mem_cons_of_mem _ hx)
    simp only [showL]
    cases c : rightW (wordB N) e
    · rw [List.filter_cons, c]
      simpa using ih
    · rw [List.filter_cons, c]
      simp only [if_true, List.append_assoc, List.map_cons]
      show linesL (lineL e ++ 10 :: showL (wordB N) l) = _
      rw [lines_at (line_nl hN (h e List.mem_cons_self) c), ih]
theorem parse_show {N : Nat} (hN : Big N) : ∀ (l : List Ev) (i : Nat) (acc : List Ev), (∀ e ∈ l, rightW (wordB N) e = true ∧ (lineL e).length ≤ 300000) → parseF N (l.map lineL) i acc = (acc ++ l, 0, 0, ())
  | [], i, acc, _ => by rw [List.append_nil]; rfl
  | e :: l, i, acc, h => by
    rw [List.map_cons, parseF_some (rdO_line hN (h e List.mem_cons_self).2 (h e List.mem_cons_self).1), parse_show hN l (i + 1) _ fun x hx => h x (List.mem_cons_of_mem _ hx), List.append_assoc]; rfl
theorem pureTraceBack (x : List Ev × Unit) (hw : Ty.wf (.slice tyEv) x.1 ∧ True) : ∃ N, G_law32_TraceBack N x = some (true, ()) := by
  obtain ⟨l, ⟨⟩⟩ := x
  obtain ⟨l1, l2⟩ := okEv_of hw.1
  clear hw
  refine ⟨281474976710656 + 300, ?_⟩
  have hk := known_is 281474976710656
  have hN := big
  generalize 281474976710656 + 300 = N at *
  have hN' := hN
  unfold Big at hN'
  have hw : ∀ s, okS s → G_lex_Word N (s, ()) = some (wordB N s, ()) := fun s hs => lex_Word_is hN hs
  obtain ⟨⟨b1, ⟨⟩⟩, e1, k1⟩ := law32_light_tot N hN l1
  unfold G_law32_TraceBack S_law32_TraceBack
  simp only [e1, hk, Option.bind_some]
  cases b1
  · rfl
  have hl : l.length ≤ 60 := (k1 rfl).1
  have hs : ∀ e ∈ l, smallE e := fun e he => ⟨Nat.le_trans ((k1 rfl).2 e he).1 (by omega), Nat.le_trans ((k1 rfl).2 e he).2 (by omega)⟩
  simp only [Bool.not_true, br_false]
  have loop : ∀ m (i : Nat) x, i ≤ l.length → x = ((l, (i : Int), ()), (l.take i).filter (rightW (wordB N)), ()) → l.length - i < m → Tot (g_law32_TraceBack_5 N m x) fun o => o = .inl ((l, ()), l.filter (rightW (wordB N)), ()) := by
    refine Tot.range l.length fun m i x hx hi rec => ?_
    subst hx
    rw [g_law32_TraceBack_5_succ]
    unfold s_law32_TraceBack_5
    by_cases hlt : i < l.length
    · have d0 : decide ((0 : Int) ≤ (i : Int)) = true := decide_eq_true (by omega)
      have d1 : decide ((i : Int) < ((l.length : Nat) : Int)) = true := decide_eq_true (by omega)
      have d2 : decide ((i : Int) ≤ ((i + 1 : Nat) : Int)) = true := decide_eq_true (by omega)
      have d3 : decide (((i + 1 : Nat) : Int) ≤ ((l.length : Nat) : Int)) = true := decide_eq_true (by omega)
      have hb : Nat.ble (((l.take i).filter (rightW (wordB N))).length + 1) maxElems = true := ble_filt (by omega)
      have one : List.take (i + 1 - i) (List.drop i l) = [l[i]] := by
        rw [show i + 1 - i = 1 by omega, List.drop_eq_getElem_cons hlt]; rfl
      have g0 : [l[i]][(Int.toNat 0)]? = some l[i] := rfl
      simp only [d0, d1, d2, d3, br_true, Int.toNat_natCast, wi (i := i) (by omega), Bool.and_self, one, law32_given_is N hN (l := [l[i]]) (by simp), Option.bind_some, g0, trace_Right_is N hN (wordB N) hw (l2 _ (List.getElem_mem hlt)), at_lt hlt, hb]
      have hn := rec (i + 1) _ (by omega) (by omega) rfl
      rw [List.take_add_one, at_lt hlt, List.filter_append] at hn
      simp only [Option.toList_some, List.filter_cons, List.filter_nil] at hn
      cases c : rightW (wordB N) l[i]
      · rw [c, if_neg (by decide), List.append_nil] at hn
        exact hn
      · rw [c] at hn
        exact hn
    · have d1 : decide ((i : Int) < ((l.length : Nat) : Int)) = false := decide_eq_false (by omega)
      simp only [d1, br_false]
      exact Tot.some (by rw [List.take_of_length_le (by omega)])
  obtain ⟨o, e, rfl⟩ := loop N 0 _ (by omega) rfl (by omega)
  have e : g_law32_TraceBack_5 N N ((l, 0, ()), [], ()) = _ := e
  have hsz := showS_size (w := wordB N) hs hl
  have hf : (l.filter (rightW (wordB N))).length ≤ 60 := Nat.le_trans (List.length_filter_le _ _) hl
  have hp := trace_Parse_is N hN (s := showS (wordB N) l) (by omega)
  have ht : tl (showS (wordB N) l) = showL (wordB N) l := showS_list _ _
  rw [ht, lines_show hN fun e he => (l2 e he).2, parse_show hN _ 0 [] fun e he => by
    have he2 := List.mem_filter.1 he
    have h0 := right_num he2.2
    exact ⟨he2.2, Nat.le_trans (lineL_len h0.1 h0.2 (hs e he2.1)) (by omega)⟩] at hp
  simp only [e, Option.bind_some, Sum.elim_inl, law32_given_is N hN (l := l) (by omega), trace_Show_is N hN (wordB N) hw hl hs, hp, List.nil_append, law32_taken_is N hN (l := l.filter (rightW (wordB N))) (by omega), ref32_Same_self N hN (l := l.filter (rightW (wordB N))) (by omega), decide_true, br_true, hk]
end Go.Proofs.Ythmajioeldhngaa.Tr
