/- TraceParses: what the law computes is true. -/
import Derived.Test.YthmajioeldhngaaTrcZTr
import Derived.Test.YthmajioeldhngaaPTraceAheadTr
namespace Go.Proofs.Ythmajioeldhngaa.Tr
open Go Go.VI
set_option linter.unusedVariables false
set_option linter.unusedSimpArgs false
set_option maxRecDepth 100000

theorem parseF_len {N : Nat} : ∀ (ls : List (List UInt8)) (i : Nat) (acc : List Ev), (parseF N ls i acc).1.length ≤ ls.length + acc.length
  | [], i, acc => by show acc.length ≤ _; omega
  | L :: ls, i, acc => by
    cases h : rdO N L with
    | none => rw [parseF_none h]; exact Nat.zero_le _
    | some e =>
      rw [parseF_some h]
      have := parseF_len (N := N) ls (i + 1) (acc ++ [e])
      rw [List.length_append] at this
      simp only [List.length_cons, List.length_nil] at this ⊢
      omega
theorem split_len (b : UInt8) : ∀ l : List UInt8, (splitL b l).length ≤ l.length + 1
  | [] => Nat.le_refl _
  | c :: l => by
    have ih := split_len b l
    unfold splitL
    split
    · simp only [List.length_cons]; omega
    · split
      · simp
      · rename_i p ps h
        rw [h] at ih
        simp only [List.length_cons] at ih ⊢
        omega
theorem pureTraceParses (x : ByteArray × Unit) (hw : Ty.wf .str x.1 ∧ True) : ∃ N, G_law32_TraceParses N x = some (true, ()) := by
  obtain ⟨s, ⟨⟩⟩ := x
  clear hw
  refine ⟨281474976710656 + 300, ?_⟩
  have hk := known_is 281474976710656
  have hN := big
  generalize 281474976710656 + 300 = N at *
  unfold G_law32_TraceParses S_law32_TraceParses
  by_cases hz : (2000 : Int) < ((s.size : Nat) : Int)
  · simp only [decide_eq_true hz, br_true, hk, Option.bind_some]
  have hs : s.size ≤ 2000 := by omega
  have hl : (parseF N (linesL (tl s)) 0 []).1.length ≤ 1000000 := by
    have h1 := parseF_len (N := N) (linesL (tl s)) 0 []
    have h2 : (linesL (tl s)).length ≤ (splitL 10 (tl s)).length := by
      unfold linesL dropE
      split
      · rw [List.length_dropLast]; omega
      · exact Nat.le_refl _
    have h3 := split_len 10 (tl s)
    have h4 : (tl s).length = s.size := size_list s
    rw [List.length_nil] at h1
    omega
  simp only [decide_eq_false hz, br_false, trace_Parse_is N hN (s := s) (by omega), ref32_Parse_is N hN hs, Option.bind_some, law32_taken_is N hN hl, ref32_Same_self N hN hl, br_true, decide_true, hk]
end Go.Proofs.Ythmajioeldhngaa.Tr
