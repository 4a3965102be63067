/- TraceAhead: what the law computes is true. -/
import Derived.Test.YthmajioeldhngaaTrcPTr
import Derived.Test.YthmajioeldhngaaWrdTr
namespace Go.Proofs.Ythmajioeldhngaa.Tr
open Go Go.VI
set_option linter.unusedVariables false
set_option linter.unusedSimpArgs false
set_option maxRecDepth 100000

@[reducible] def tyEv : Ty := .agg (.pair (.int .i64) (.pair .str (.pair .str (.int .i64))))
theorem reach_le : reachBytes ≤ 140737488355328 := by decide
theorem known_is (m : Nat) : G_law32_known (m + 300) () = some (true, ()) := by kernel_rfl
theorem okEv_of {l : List Ev} (h : Ty.wf (.slice tyEv) l) : l.length ≤ 140737488355328 ∧ ∀ e ∈ l, okEv e := ⟨Nat.le_trans h.1 reach_le, fun e he => ⟨Nat.le_trans (h.2 e he).2.1 reach_le, Nat.le_trans (h.2 e he).2.2.1 reach_le⟩⟩
theorem pureTraceAhead (x : List Ev × List Ev × Unit) (hw : Ty.wf (.slice tyEv) x.1 ∧ Ty.wf (.slice tyEv) x.2.1 ∧ True) : ∃ N, G_law32_TraceAhead N x = some (true, ()) := by
  obtain ⟨l, more, ⟨⟩⟩ := x
  obtain ⟨l1, l2⟩ := okEv_of hw.1
  obtain ⟨m1, m2⟩ := okEv_of hw.2.1
  clear hw
  refine ⟨281474976710656 + 300, ?_⟩
  have hk := known_is 281474976710656
  have hN := big
  generalize 281474976710656 + 300 = N at *
  have hN' := hN
  unfold Big at hN'
  have hw : ∀ s, okS s → G_lex_Word N (s, ()) = some (wordB N s, ()) := fun s hs => lex_Word_is hN hs
  generalize wordB N = w at hw
  obtain ⟨⟨b1, ⟨⟩⟩, e1, k1⟩ := law32_light_tot N hN l1
  obtain ⟨⟨b2, ⟨⟩⟩, e2, k2⟩ := law32_light_tot N hN m1
  unfold G_law32_TraceAhead S_law32_TraceAhead
  simp only [e1, e2, hk, Option.bind_some]
  cases b1
  · rfl
  cases b2
  · rfl
  have hl : l.length ≤ 60 := (k1 rfl).1
  have hm : more.length ≤ 60 := (k2 rfl).1
  have hb1 : Nat.ble (0 + l.length) maxElems = true := Nat.ble_eq_true_of_le (by unfold maxElems; omega)
  have hb2 : Nat.ble (l.length + more.length) maxElems = true := Nat.ble_eq_true_of_le (by unfold maxElems; omega)
  have hall : ∀ e ∈ l ++ more, okEv e := fun e he => by
    rcases List.mem_append.1 he with h | h
    · exact l2 e h
    · exact m2 e h
  have cA := trace_Check_is N hN w hw (l := l ++ more) (by rw [List.length_append]; omega) hall
  have cL := trace_Check_is N hN w hw (l := l) (by omega) l2
  simp only [Bool.not_true, br_false, law32_given_is N hN (l := l) (by omega), law32_given_is N hN (l := more) (by omega), Option.bind_some, hb1, br_true, List.nil_append, hb2, cA, cL]
  have hap := chk_app w more l (0, []) 0
  have hbd := chk_bnd w l (0, []) 0
  have hbd2 := chk_bnd w (l ++ more) (0, []) 0
  generalize hc : chk w (0, []) l 0 = c at *
  generalize hc2 : chk w (0, []) (l ++ more) 0 = c2 at *
  by_cases h : c < 0
  · rw [decide_eq_true h, br_true]
    by_cases h2 : c2 = -1
    · rw [decide_eq_true h2]; rfl
    · rw [decide_eq_false h2, decide_eq_true (show ((l.length : Nat) : Int) ≤ c2 by omega)]; rfl
  · obtain ⟨n, rfl⟩ : ∃ n : Nat, c = (n : Int) := ⟨c.toNat, by omega⟩
    have hn : n < l.length := by omega
    obtain ⟨t1, t2⟩ := chk_take w l (0, []) 0 n hn (by rw [hc]; congr 1; omega)
    have cT := trace_Check_is N hN w hw (l := l.take n) (by rw [List.length_take]; omega) fun e he => l2 e (List.mem_of_mem_take he)
    have cU := trace_Check_is N hN w hw (l := l.take (n + 1)) (by rw [List.length_take]; omega) fun e he => l2 e (List.mem_of_mem_take he)
    have d1 : (decide ((0 : Int) ≤ (n : Int))).and (decide ((n : Int) ≤ ((l.length : Nat) : Int))) = true := by
      rw [decide_eq_true (show (0 : Int) ≤ (n : Int) by omega), decide_eq_true (show (n : Int) ≤ ((l.length : Nat) : Int) by omega)]; rfl
    have d2 : (decide ((0 : Int) ≤ ((n + 1 : Nat) : Int))).and (decide (((n + 1 : Nat) : Int) ≤ ((l.length : Nat) : Int))) = true := by
      rw [decide_eq_true (show (0 : Int) ≤ ((n + 1 : Nat) : Int) by omega), decide_eq_true (show ((n + 1 : Nat) : Int) ≤ ((l.length : Nat) : Int) by omega)]; rfl
    rw [t1] at cT
    rw [t2, Nat.zero_add] at cU
    have h3 : c2 = (n : Int) := by omega
    simp only [decide_eq_false h, br_false, decide_eq_false (show ¬ ((l.length : Nat) : Int) ≤ (n : Int) by omega), d1, br_true, Int.toNat_natCast, cT, Option.bind_some, decide_true, wi (i := n) (by omega), d2, cU, h3]
end Go.Proofs.Ythmajioeldhngaa.Tr
