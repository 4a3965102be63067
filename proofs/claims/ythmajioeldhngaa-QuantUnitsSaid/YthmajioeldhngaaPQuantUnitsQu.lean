/- QuantUnits: what the law computes is true. -/
import Derived.Test.YthmajioeldhngaaAmtQQu
namespace Go.VI
set_option linter.unusedVariables false
set_option linter.unusedSimpArgs false

theorem dec_thousand (p : Nat) (hp : p < 1000) : ∃ a b c : UInt8, dec (1000 + p) = [49, a, b, c] ∧ isDig a ∧ isDig b ∧ isDig c ∧ digs [a, b, c] = p := by
  refine ⟨UInt8.ofNat (48 + (1000 + p) / 10 / 10 % 10), UInt8.ofNat (48 + (1000 + p) / 10 % 10), UInt8.ofNat (48 + (1000 + p) % 10), ?_, ?_, ?_, ?_, ?_⟩
  · rw [dec_ge (by omega), dec_ge (n := (1000 + p) / 10) (by omega), dec_ge (n := (1000 + p) / 10 / 10) (by omega), show (1000 + p) / 10 / 10 / 10 = 1 by omega, dec_lt (by omega)]; rfl
  · unfold isDig; rw [u8_ofNat (by omega)]; omega
  · unfold isDig; rw [u8_ofNat (by omega)]; omega
  · unfold isDig; rw [u8_ofNat (by omega)]; omega
  · show 10 * (10 * (10 * 0 + ((UInt8.ofNat (48 + (1000 + p) / 10 / 10 % 10)).toNat - 48)) + ((UInt8.ofNat (48 + (1000 + p) / 10 % 10)).toNat - 48)) + ((UInt8.ofNat (48 + (1000 + p) % 10)).toNat - 48) = p
    rw [u8_ofNat (by omega), u8_ofNat (by omega), u8_ofNat (by omega)]; omega
end Go.VI
namespace Go.Proofs.Ythmajioeldhngaa.Qu
open Go Go.VI
set_option linter.unusedVariables false
set_option linter.unusedSimpArgs false
set_option maxRecDepth 100000

theorem known_is (m : Nat) : G_law03_known (m + 300) () = some (true, ()) := by kernel_rfl
def unitR : Nat → List UInt8
  | 0 => []
  | 1 => [107]
  | 2 => [77]
  | 3 => [75, 105]
  | _ => [77, 105]
def worthR : Nat → Nat
  | 0 => 1
  | 1 => 1000
  | 2 => 1000000
  | 3 => 1024
  | _ => 1048576
theorem unitR_ok {k : Nat} (hk : k < 5) : (∀ b, (unitR k).head? = some b → isD b = false) ∧ (unitR k).head? ≠ some 46 ∧ unitL (unitR k) = 1000 * worthR k ∧ 1 ≤ worthR k ∧ worthR k ≤ 1048576 ∧ (unitR k).length ≤ 2 := by
  have : k = 0 ∨ k = 1 ∨ k = 2 ∨ k = 3 ∨ k = 4 := by omega
  have hd1 : ∀ {b : UInt8} {l : List UInt8}, isD b = false → ∀ c, (b :: l).head? = some c → isD c = false := by
    intro b l h c hc
    simp only [List.head?_cons, Option.some.injEq] at hc
    rw [← hc]; exact h
  rcases this with rfl | rfl | rfl | rfl | rfl
  · exact ⟨(fun c hc => by cases hc), by decide, rfl, by decide, by decide, by decide⟩
  all_goals exact ⟨hd1 rfl, by decide, rfl, by decide, by decide, by decide⟩
theorem pureQuantUnits (x : Int × Int × Int × Unit) (hw : Ty.wf (.int .u16) x.1 ∧ Ty.wf (.int .u16) x.2.1 ∧ Ty.wf (.int .u8) x.2.2.1 ∧ True) : ∃ N, G_law03_QuantUnits N x = some (true, ()) := by
  obtain ⟨n, part, kind, ⟨⟩⟩ := x
  obtain ⟨h1, h2, h3, -⟩ := hw
  have h1 : 0 ≤ n ∧ n ≤ 65535 := by
    have hn : (Lit.int .u16 n).wf = true := h1
    simp [Lit.wf, IntKind.min, IntKind.max, IntKind.signed, IntKind.bits] at hn
    omega
  have h2 : 0 ≤ part ∧ part ≤ 65535 := by
    have hn : (Lit.int .u16 part).wf = true := h2
    simp [Lit.wf, IntKind.min, IntKind.max, IntKind.signed, IntKind.bits] at hn
    omega
  have h3 : 0 ≤ kind ∧ kind ≤ 255 := by
    have hn : (Lit.int .u8 kind).wf = true := h3
    simp [Lit.wf, IntKind.min, IntKind.max, IntKind.signed, IntKind.bits] at hn
    omega
  obtain ⟨n, rfl⟩ : ∃ m : Nat, n = (m : Int) := ⟨n.toNat, by omega⟩
  obtain ⟨part, rfl⟩ : ∃ m : Nat, part = (m : Int) := ⟨part.toNat, by omega⟩
  obtain ⟨kind, rfl⟩ : ∃ m : Nat, kind = (m : Int) := ⟨kind.toNat, by omega⟩
  refine ⟨281474976710656 + 300, ?_⟩
  have hk := known_is 281474976710656
  have hN := big
  have hP := quant_Parse_is 281474976710656 hN
  have hM := quant_Milli_is 281474976710656 hN
  generalize 281474976710656 + 300 = N at *
  unfold G_law03_QuantUnits S_law03_QuantUnits
  have t1 : Int.tmod (part : Int) 1000 = ((part % 1000 : Nat) : Int) := tmodN part 1000
  have t2 : Int.tmod (kind : Int) 5 = ((kind % 5 : Nat) : Int) := tmodN kind 5
  have hp : part % 1000 < 1000 := by omega
  have hkk : kind % 5 < 5 := by omega
  rw [wni (n := n) (by omega), wni (n := part) (by omega), wni (n := kind) (by omega), t1, t2]
  generalize part % 1000 = p at *
  generalize kind % 5 = k at *
  clear t1 t2
  obtain ⟨a, b, c, ed, da, db, dc, ep⟩ := dec_thousand p hp
  obtain ⟨r1, r2, r3, r4, r5, r6⟩ := unitR_ok hkk
  have w1 : IntKind.i64.wrap ((1000 : Int) + (p : Int)) = ((1000 + p : Nat) : Int) := by rw [w64 (by omega) (by omega)]; omega
  have D1 := ref01_Digits_is N hN (n := 1000 + p) (by omega)
  have D2 := ref01_Digits_is N hN (n := n) (by omega)
  have d0 : decide ((0 : Int) ≤ (k : Int)) = true := decide_eq_true (by omega)
  have at1 : [ByteArray.mk (List.toArray []), ByteArray.mk (List.toArray [107]), ByteArray.mk (List.toArray [77]), ByteArray.mk (List.toArray [75, 105]), ByteArray.mk (List.toArray [77, 105])][k]? = some (ByteArray.mk (List.toArray (unitR k))) := by
    have : k = 0 ∨ k = 1 ∨ k = 2 ∨ k = 3 ∨ k = 4 := by omega
    rcases this with rfl | rfl | rfl | rfl | rfl <;> rfl
  have at2 : [(1 : Int), (1000 : Int), (1000000 : Int), (1024 : Int), (1048576 : Int)][k]? = some (worthR k : Int) := by
    have : k = 0 ∨ k = 1 ∨ k = 2 ∨ k = 3 ∨ k = 4 := by omega
    rcases this with rfl | rfl | rfl | rfl | rfl <;> rfl
  have eS : numS n = ByteArray.mk (List.toArray (dec n)) := rfl
  have eS2 : numS (1000 + p) = ByteArray.mk (List.toArray [49, a, b, c]) := by unfold numS; rw [ed]
  have ln := dec_len 18 n (by omega) (by omega)
  rw [eS] at D2
  rw [eS2] at D1
  generalize hu : unitR k = u at *
  generalize worthR k = w at *
  have hq1 : n * w ≤ 65535 * 1048576 := Nat.mul_le_mul (by omega) r5
  have hq2 : (1000 * n + p) * w ≤ 65536000 * 1048576 := Nat.mul_le_mul (by omega) r5
  have P1 := hP (dec n ++ u) (by rw [List.length_append]; omega)
  have ux : unitL u ≠ 0 := by omega
  have P2 : amtL 1000000 (dec n ++ u) = (((n * w : Nat) : Int), 0) := by
    unfold amtL
    rw [cutL_plain (digAll_dec n) (dec_ne n) r1 r2, amtC_some r3 (by omega)]
    unfold amtU
    rw [digs_dec, show (n * 1000 + 0) * (1000 * w) = (n * w) * 1000000 by rw [Nat.add_zero, Nat.mul_comm 1000 w, Nat.mul_mul_mul_comm]]
    rw [Nat.mul_mod_left, if_pos rfl, Nat.mul_div_cancel _ (by decide), if_pos (by omega)]
  have M1 := hM (dec n ++ 46 :: ([a, b, c] ++ u)) (by rw [List.length_append, List.length_cons, List.length_append]; show _ + (3 + _ + 1) ≤ _; omega)
  have M2 : amtL 1000 (dec n ++ 46 :: ([a, b, c] ++ u)) = ((((1000 * n + p) * w : Nat) : Int), 0) := by
    unfold amtL
    rw [cutL_point (digAll_dec n) (dec_ne n) (digAll_iff.2 (by intro x hx; simp only [List.mem_cons, List.not_mem_nil, or_false] at hx; rcases hx with rfl | rfl | rfl <;> assumption)) (by show 1 ≤ 3; omega) (by show 3 ≤ 3; omega) r1, amtC_some r3 (by omega)]
    unfold amtU
    rw [show List.take 3 ([a, b, c] ++ [(48 : UInt8), 48]) = [a, b, c] from rfl, ep, digs_dec, show (n * 1000 + p) * (1000 * w) = ((1000 * n + p) * w) * 1000 by rw [Nat.mul_comm n 1000, Nat.mul_left_comm, Nat.mul_comm 1000]]
    rw [Nat.mul_mod_left, if_pos rfl, Nat.mul_div_cancel _ (by decide), if_pos (by omega)]
  rw [P2] at P1
  rw [M2] at M1
  have b1 : Nat.ble ((dec n).length + u.length) 140737488355328 = true := Nat.ble_eq_true_of_le (by omega)
  have b2 : Nat.ble ((dec n).length + [(46 : UInt8)].length) 140737488355328 = true := Nat.ble_eq_true_of_le (by show _ + 1 ≤ _; omega)
  have x1 : (([49, a, b, c] : List UInt8).drop (Int.toNat 1)).take ([49, a, b, c].length - Int.toNat 1) = [a, b, c] := rfl
  have b3 : Nat.ble ((dec n ++ [(46 : UInt8)]).length + [a, b, c].length) 140737488355328 = true := Nat.ble_eq_true_of_le (by rw [List.length_append]; show _ + 1 + 3 ≤ _; omega)
  have b4 : Nat.ble ((dec n ++ [(46 : UInt8)] ++ [a, b, c]).length + u.length) 140737488355328 = true := Nat.ble_eq_true_of_le (by rw [List.length_append, List.length_append]; show _ + 1 + 3 + _ ≤ _; omega)
  have b5 : (Nat.ble (Int.toNat 1) [49, a, b, c].length).and (Nat.ble [49, a, b, c].length [49, a, b, c].length) = true := rfl
  have a1 : dec n ++ [(46 : UInt8)] ++ [a, b, c] ++ u = dec n ++ 46 :: ([a, b, c] ++ u) := by simp
  have w2 : IntKind.i64.wrap ((n : Int) * (w : Int)) = ((n * w : Nat) : Int) := by rw [← Int.natCast_mul, wni (by omega)]
  have w3 : IntKind.i64.wrap ((1000 : Int) * (n : Int)) = ((1000 * n : Nat) : Int) := by rw [w64 (by omega) (by omega)]; omega
  have w4 : IntKind.i64.wrap (((1000 * n : Nat) : Int) + (p : Int)) = ((1000 * n + p : Nat) : Int) := by rw [w64 (by omega) (by omega)]; omega
  have w5 : IntKind.i64.wrap (((1000 * n + p : Nat) : Int) * (w : Int)) = (((1000 * n + p) * w : Nat) : Int) := by rw [← Int.natCast_mul, wni (by omega)]
  simp only [w1, D1, D2, Option.bind_some, d0, br_true, Int.toNat_natCast, at1, at2, bs_size, b1, bs_app, P1, b2, b5, bs_ext, x1, b3, b4, a1, M1, w2, w3, w4, w5, hk, decide_true]
end Go.Proofs.Ythmajioeldhngaa.Qu
