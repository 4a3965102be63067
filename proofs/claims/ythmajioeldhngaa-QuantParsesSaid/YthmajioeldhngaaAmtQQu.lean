/- quant: amounts, with their units. -/
import Derived.Test.YthmajioeldhngaaAmtPQu
namespace Go.VI
set_option linter.unusedVariables false
set_option linter.unusedSimpArgs false

def amtU (each : Nat) (w : List UInt8) (p u : Nat) : Int × Int :=
  if (digs w * 1000 + p) * u % each = 0 then (if (digs w * 1000 + p) * u / each ≤ 1125899906842624 then (((digs w * 1000 + p) * u / each : Nat), 0) else (0, 10)) else (0, 8)
theorem amtC_some {each : Nat} {w : List UInt8} {p : Nat} {r : List UInt8} {u : Nat} (h : unitL r = u) (h0 : u ≠ 0) : amtC each (some (w, p, r)) = amtU each w p u := by
  unfold amtC amtU
  dsimp only
  rw [h, if_neg h0]
theorem cutL_ok {l w r : List UInt8} {p : Nat} (h : cutL l = some (w, p, r)) : digAll w = true ∧ p < 1000 ∧ w.length ≤ l.length := by
  unfold cutL at h
  split at h
  · cases h
  split at h
  · split at h
    · cases h
    · rename_i h1 h2 h3
      simp only [Option.some.injEq, Prod.mk.injEq] at h
      obtain ⟨rfl, rfl, rfl⟩ := h
      refine ⟨digAll_take l, ?_, by rw [List.length_take]; omega⟩
      generalize l.drop (hdN l + 1) = t
      have hdt := digAll_take t
      have hv : ∀ b ∈ (t.take (hdN t) ++ [48, 48]).take 3, isDig b := by
        intro b hb
        have hb := List.mem_of_mem_take hb
        rw [List.mem_append] at hb
        rcases hb with hb | hb
        · exact digAll_iff.1 hdt b hb
        · simp only [List.mem_cons, List.not_mem_nil, or_false, or_self] at hb
          subst hb
          exact ⟨by decide, by decide⟩
      have hlt := digs_lt _ _ rfl hv
      have : 10 ^ ((t.take (hdN t) ++ [48, 48]).take 3).length ≤ 10 ^ 3 := Nat.pow_le_pow_right (by omega) (by rw [List.length_take]; omega)
      omega
  · simp only [Option.some.injEq, Prod.mk.injEq] at h
    obtain ⟨rfl, rfl, rfl⟩ := h
    exact ⟨digAll_take l, by omega, by rw [List.length_take]; omega⟩
end Go.VI
namespace Go.Proofs.Ythmajioeldhngaa.Qu
open Go Go.VI
set_option linter.unusedVariables false
set_option linter.unusedSimpArgs false
set_option maxRecDepth 100000

theorem tail_is (N : Nat) (hN : Big N) (w : List UInt8) (hs : w.length ≤ 140737488355328) (hd : digAll w = true) {p u each : Nat} (hp : p < 1000) (hu : u = 1 ∨ 1000 ≤ u) (hu' : u ≤ 1099511627776000) (he : each = 1000 ∨ each = 1000000) :
    Option.bind (G_quant_exact N (ByteArray.mk (List.toArray w), (p : Int), (u : Int), (each : Int), ())) (fun v1 => br (Bool.not v1.1) (some ((0 : Int), (8 : Int), ())) (Option.bind (G_quant_whole N (ByteArray.mk (List.toArray w), (p : Int), (u : Int), (each : Int), ()))
      (fun v2 => br (Bool.not v2.2.1) (some ((0 : Int), (10 : Int), ())) (br (decide ((1125899906842624 : Int) < v2.1)) (some ((0 : Int), (10 : Int), ())) (some (v2.1, (0 : Int), ())))))) = some ((amtU each w p u).1, (amtU each w p u).2, ()) := by
  have h1 := quant_exact_is N hN w hs hd (p := p) (u := u) (each := each) hp (by omega) (by omega)
  rw [h1, Option.bind_some]
  dsimp only
  unfold amtU
  by_cases hx : (digs w * 1000 + p) * u % each = 0
  · obtain ⟨q, b, h2, h3⟩ := quant_whole_is N hN w hs hd hp hu hu' he hx
    rw [decide_eq_true hx, Bool.not_true, br_false, if_pos hx, h2, Option.bind_some]
    dsimp only
    by_cases c : (digs w * 1000 + p) * u / each ≤ 1125899906842624
    · rw [if_pos c] at h3 ⊢
      obtain ⟨rfl, rfl⟩ := h3
      generalize (digs w * 1000 + p) * u / each = q at *
      rw [Bool.not_true, br_false, decide_eq_false (by omega), br_false]
    · rw [if_neg c] at h3 ⊢
      rcases h3 with rfl | h3
      · rfl
      · cases b
        · rfl
        · rw [Bool.not_true, br_false, decide_eq_true (by omega), br_true]
  · rw [decide_eq_false hx, Bool.not_false, br_true, if_neg hx]
theorem place_k (m : Nat) : G_quant_place (m + 300) ((ByteArray.mk (List.toArray [107, 77, 71, 84])), (((107 : UInt8).toNat : Nat) : Int), ()) = some ((0 : Int), ()) := by kernel_rfl
theorem pow_k (m : Nat) : gx_quant_amount_0 (m + 300) (m + 300) (((1000 : Int), (1000 : Int), (IntKind.i64.wrap (1 + (0 : Int))), 0, ()), ()) = some (.inl (((1000000 : Int), ()), ())) := by kernel_rfl
theorem place_M (m : Nat) : G_quant_place (m + 300) ((ByteArray.mk (List.toArray [107, 77, 71, 84])), (((77 : UInt8).toNat : Nat) : Int), ()) = some ((1 : Int), ()) := by kernel_rfl
theorem pow_M (m : Nat) : gx_quant_amount_1 (m + 300) (m + 300) (((1000 : Int), (1000 : Int), (IntKind.i64.wrap (1 + (1 : Int))), 0, ()), ()) = some (.inl (((1000000000 : Int), ()), ())) := by kernel_rfl
theorem place_G (m : Nat) : G_quant_place (m + 300) ((ByteArray.mk (List.toArray [107, 77, 71, 84])), (((71 : UInt8).toNat : Nat) : Int), ()) = some ((2 : Int), ()) := by kernel_rfl
theorem pow_G (m : Nat) : gx_quant_amount_2 (m + 300) (m + 300) (((1000 : Int), (1000 : Int), (IntKind.i64.wrap (1 + (2 : Int))), 0, ()), ()) = some (.inl (((1000000000000 : Int), ()), ())) := by kernel_rfl
theorem place_T (m : Nat) : G_quant_place (m + 300) ((ByteArray.mk (List.toArray [107, 77, 71, 84])), (((84 : UInt8).toNat : Nat) : Int), ()) = some ((3 : Int), ()) := by kernel_rfl
theorem pow_T (m : Nat) : gx_quant_amount_3 (m + 300) (m + 300) (((1000 : Int), (1000 : Int), (IntKind.i64.wrap (1 + (3 : Int))), 0, ()), ()) = some (.inl (((1000000000000000 : Int), ()), ())) := by kernel_rfl
theorem place_Ki (m : Nat) : G_quant_place (m + 300) ((ByteArray.mk (List.toArray [75, 77, 71, 84])), (((75 : UInt8).toNat : Nat) : Int), ()) = some ((0 : Int), ()) := by kernel_rfl
theorem pow_Ki (m : Nat) : gx_quant_amount_4 (m + 300) (m + 300) (((1024 : Int), (1000 : Int), (IntKind.i64.wrap (1 + (0 : Int))), 0, ()), ()) = some (.inl (((1024000 : Int), ()), ())) := by kernel_rfl
theorem place_Mi (m : Nat) : G_quant_place (m + 300) ((ByteArray.mk (List.toArray [75, 77, 71, 84])), (((77 : UInt8).toNat : Nat) : Int), ()) = some ((1 : Int), ()) := by kernel_rfl
theorem pow_Mi (m : Nat) : gx_quant_amount_5 (m + 300) (m + 300) (((1024 : Int), (1000 : Int), (IntKind.i64.wrap (1 + (1 : Int))), 0, ()), ()) = some (.inl (((1048576000 : Int), ()), ())) := by kernel_rfl
theorem place_Gi (m : Nat) : G_quant_place (m + 300) ((ByteArray.mk (List.toArray [75, 77, 71, 84])), (((71 : UInt8).toNat : Nat) : Int), ()) = some ((2 : Int), ()) := by kernel_rfl
theorem pow_Gi (m : Nat) : gx_quant_amount_6 (m + 300) (m + 300) (((1024 : Int), (1000 : Int), (IntKind.i64.wrap (1 + (2 : Int))), 0, ()), ()) = some (.inl (((1073741824000 : Int), ()), ())) := by kernel_rfl
theorem place_Ti (m : Nat) : G_quant_place (m + 300) ((ByteArray.mk (List.toArray [75, 77, 71, 84])), (((84 : UInt8).toNat : Nat) : Int), ()) = some ((3 : Int), ()) := by kernel_rfl
theorem pow_Ti (m : Nat) : gx_quant_amount_7 (m + 300) (m + 300) (((1024 : Int), (1000 : Int), (IntKind.i64.wrap (1 + (3 : Int))), 0, ()), ()) = some (.inl (((1099511627776000 : Int), ()), ())) := by kernel_rfl
theorem quant_amount_is (m : Nat) (hN : Big (m + 300)) (l : List UInt8) (hs : l.length ≤ 140737488355328) {each : Nat} (he : each = 1000 ∨ each = 1000000) :
    G_quant_amount (m + 300) (ByteArray.mk (List.toArray l), (each : Int), ()) = some ((amtL each l).1, (amtL each l).2, ()) := by
  unfold G_quant_amount S_quant_amount amtL
  rw [quant_cut_is (m + 300) hN l hs]
  cases hc : cutL l with
  | none => rfl
  | some x =>
    obtain ⟨w, p, r⟩ := x
    obtain ⟨hd, hp, hl⟩ := cutL_ok hc
    have hw : w.length ≤ 140737488355328 := by omega
    rw [Option.bind_some]
    dsimp only
    rw [decide_eq_true (show (0 : Int) = 0 from rfl), Bool.not_true, br_false]
    by_cases r0 : r = []
    · subst r0
      rw [decide_eq_true (rfl : ByteArray.mk (List.toArray []) = ByteArray.mk (List.toArray [])), br_true, amtC_some (u := 1000) rfl (by omega)]
      exact tail_is (m + 300) hN w hw hd hp (u := 1000) (by omega) (by omega) he
    rw [decide_eq_false (fun h => r0 (bs_inj.1 h)), br_false]
    by_cases rm : r = [109]
    · subst rm
      rw [decide_eq_true (rfl : ByteArray.mk (List.toArray [109]) = ByteArray.mk (List.toArray [109])), br_true, amtC_some (u := 1) rfl (by omega)]
      exact tail_is (m + 300) hN w hw hd hp (u := 1) (by omega) (by omega) he
    rw [decide_eq_false (fun h => rm (bs_inj.1 h)), br_false]
    by_cases rk : r = [107]
    · subst rk
      rw [decide_eq_true (rfl : ByteArray.mk (List.toArray [107]) = ByteArray.mk (List.toArray [107])), br_true, amtC_some (u := 1000000) rfl (by omega)]
      have e1 : (ByteArray.mk (List.toArray [107])).data.toList[Int.toNat 0]? = some 107 := rfl
      rw [e1, Option.bind_some]
      try dsimp only
      rw [place_k m, Option.bind_some]
      try dsimp only
      rw [pow_k m, Option.bind_some, Sum.elim_inl]
      exact tail_is (m + 300) hN w hw hd hp (u := 1000000) (by omega) (by omega) he
    rw [decide_eq_false (fun h => rk (bs_inj.1 h)), br_false]
    by_cases rM : r = [77]
    · subst rM
      rw [decide_eq_true (rfl : ByteArray.mk (List.toArray [77]) = ByteArray.mk (List.toArray [77])), br_true, amtC_some (u := 1000000000) rfl (by omega)]
      have e1 : (ByteArray.mk (List.toArray [77])).data.toList[Int.toNat 0]? = some 77 := rfl
      rw [e1, Option.bind_some]
      try dsimp only
      rw [place_M m, Option.bind_some]
      try dsimp only
      rw [pow_M m, Option.bind_some, Sum.elim_inl]
      exact tail_is (m + 300) hN w hw hd hp (u := 1000000000) (by omega) (by omega) he
    rw [decide_eq_false (fun h => rM (bs_inj.1 h)), br_false]
    by_cases rG : r = [71]
    · subst rG
      rw [decide_eq_true (rfl : ByteArray.mk (List.toArray [71]) = ByteArray.mk (List.toArray [71])), br_true, amtC_some (u := 1000000000000) rfl (by omega)]
      have e1 : (ByteArray.mk (List.toArray [71])).data.toList[Int.toNat 0]? = some 71 := rfl
      rw [e1, Option.bind_some]
      try dsimp only
      rw [place_G m, Option.bind_some]
      try dsimp only
      rw [pow_G m, Option.bind_some, Sum.elim_inl]
      exact tail_is (m + 300) hN w hw hd hp (u := 1000000000000) (by omega) (by omega) he
    rw [decide_eq_false (fun h => rG (bs_inj.1 h)), br_false]
    by_cases rT : r = [84]
    · subst rT
      rw [decide_eq_true (rfl : ByteArray.mk (List.toArray [84]) = ByteArray.mk (List.toArray [84])), br_true, amtC_some (u := 1000000000000000) rfl (by omega)]
      have e1 : (ByteArray.mk (List.toArray [84])).data.toList[Int.toNat 0]? = some 84 := rfl
      rw [e1, Option.bind_some]
      try dsimp only
      rw [place_T m, Option.bind_some]
      try dsimp only
      rw [pow_T m, Option.bind_some, Sum.elim_inl]
      exact tail_is (m + 300) hN w hw hd hp (u := 1000000000000000) (by omega) (by omega) he
    rw [decide_eq_false (fun h => rT (bs_inj.1 h)), br_false]
    by_cases rKi : r = [75, 105]
    · subst rKi
      rw [decide_eq_true (rfl : ByteArray.mk (List.toArray [75, 105]) = ByteArray.mk (List.toArray [75, 105])), br_true, amtC_some (u := 1024000) rfl (by omega)]
      have e1 : (ByteArray.mk (List.toArray [75, 105])).data.toList[Int.toNat 0]? = some 75 := rfl
      rw [e1, Option.bind_some]
      try dsimp only
      rw [place_Ki m, Option.bind_some]
      try dsimp only
      rw [pow_Ki m, Option.bind_some, Sum.elim_inl]
      exact tail_is (m + 300) hN w hw hd hp (u := 1024000) (by omega) (by omega) he
    rw [decide_eq_false (fun h => rKi (bs_inj.1 h)), br_false]
    by_cases rMi : r = [77, 105]
    · subst rMi
      rw [decide_eq_true (rfl : ByteArray.mk (List.toArray [77, 105]) = ByteArray.mk (List.toArray [77, 105])), br_true, amtC_some (u := 1048576000) rfl (by omega)]
      have e1 : (ByteArray.mk (List.toArray [77, 105])).data.toList[Int.toNat 0]? = some 77 := rfl
      rw [e1, Option.bind_some]
      try dsimp only
      rw [place_Mi m, Option.bind_some]
      try dsimp only
      rw [pow_Mi m, Option.bind_some, Sum.elim_inl]
      exact tail_is (m + 300) hN w hw hd hp (u := 1048576000) (by omega) (by omega) he
    rw [decide_eq_false (fun h => rMi (bs_inj.1 h)), br_false]
    by_cases rGi : r = [71, 105]
    · subst rGi
      rw [decide_eq_true (rfl : ByteArray.mk (List.toArray [71, 105]) = ByteArray.mk (List.toArray [71, 105])), br_true, amtC_some (u := 1073741824000) rfl (by omega)]
      have e1 : (ByteArray.mk (List.toArray [71, 105])).data.toList[Int.toNat 0]? = some 71 := rfl
      rw [e1, Option.bind_some]
      try dsimp only
      rw [place_Gi m, Option.bind_some]
      try dsimp only
      rw [pow_Gi m, Option.bind_some, Sum.elim_inl]
      exact tail_is (m + 300) hN w hw hd hp (u := 1073741824000) (by omega) (by omega) he
    rw [decide_eq_false (fun h => rGi (bs_inj.1 h)), br_false]
    by_cases rTi : r = [84, 105]
    · subst rTi
      rw [decide_eq_true (rfl : ByteArray.mk (List.toArray [84, 105]) = ByteArray.mk (List.toArray [84, 105])), br_true, amtC_some (u := 1099511627776000) rfl (by omega)]
      have e1 : (ByteArray.mk (List.toArray [84, 105])).data.toList[Int.toNat 0]? = some 84 := rfl
      rw [e1, Option.bind_some]
      try dsimp only
      rw [place_Ti m, Option.bind_some]
      try dsimp only
      rw [pow_Ti m, Option.bind_some, Sum.elim_inl]
      exact tail_is (m + 300) hN w hw hd hp (u := 1099511627776000) (by omega) (by omega) he
    rw [decide_eq_false (fun h => rTi (bs_inj.1 h)), br_false]
    unfold amtC
    dsimp only
    rw [if_pos (by unfold unitL; rw [if_neg r0, if_neg rm, if_neg rKi, if_neg rMi, if_neg rGi, if_neg rTi, if_neg rk, if_neg rM, if_neg rG, if_neg rT])]
theorem quant_Parse_is (m : Nat) (hN : Big (m + 300)) (l : List UInt8) (hs : l.length ≤ 140737488355328) : G_quant_Parse (m + 300) (ByteArray.mk (List.toArray l), ()) = some ((amtL 1000000 l).1, (amtL 1000000 l).2, ()) := by
  unfold G_quant_Parse S_quant_Parse
  have := quant_amount_is m hN l hs (each := 1000000) (.inr rfl)
  have this : G_quant_amount (m + 300) (ByteArray.mk (List.toArray l), (1000000 : Int), ()) = _ := this
  rw [this, Option.bind_some]
theorem quant_Milli_is (m : Nat) (hN : Big (m + 300)) (l : List UInt8) (hs : l.length ≤ 140737488355328) : G_quant_Milli (m + 300) (ByteArray.mk (List.toArray l), ()) = some ((amtL 1000 l).1, (amtL 1000 l).2, ()) := by
  unfold G_quant_Milli S_quant_Milli
  have := quant_amount_is m hN l hs (each := 1000) (.inl rfl)
  have this : G_quant_amount (m + 300) (ByteArray.mk (List.toArray l), (1000 : Int), ()) = _ := this
  rw [this, Option.bind_some]
end Go.Proofs.Ythmajioeldhngaa.Qu
