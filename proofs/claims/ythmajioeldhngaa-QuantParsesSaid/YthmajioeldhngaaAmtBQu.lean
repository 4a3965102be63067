/- A product of two words, and its share. -/
import Derived.Lib.Mul64
import Derived.Test.YthmajioeldhngaaAmtSQu
namespace Go.VI
set_option linter.unusedVariables false
set_option linter.unusedSimpArgs false

theorem and_low (x : Nat) : (((BitVec.toNat (HAnd.hAnd (BitVec.ofInt (IntKind.bits IntKind.u64) (x : Int)) (BitVec.ofInt (IntKind.bits IntKind.u64) (4294967295 : Int)))) : Nat) : Int) = ((x % 4294967296 : Nat) : Int) := by
  have e1 : (BitVec.ofInt (IntKind.bits IntKind.u64) (x : Int)).toNat = x % 18446744073709551616 := by
    show (BitVec.ofInt 64 (x : Int)).toNat = _
    rw [BitVec.ofInt_natCast, BitVec.toNat_ofNat]
  have e2 : (BitVec.ofInt (IntKind.bits IntKind.u64) (4294967295 : Int)).toNat = 2 ^ 32 - 1 := by
    show (BitVec.ofInt 64 ((4294967295 : Nat) : Int)).toNat = _
    rw [BitVec.ofInt_natCast, BitVec.toNat_ofNat]
  rw [BitVec.toNat_and, e1, e2, Nat.and_two_pow_sub_one_eq_mod]
  omega
theorem or_sum (s a b : Nat) (ha : a * 2 ^ s < 18446744073709551616) (hb : b < 2 ^ s) (hs : 2 ^ s ≤ 18446744073709551616) :
    (((BitVec.toNat (HOr.hOr (BitVec.ofInt (IntKind.bits IntKind.u64) ((a * 2 ^ s : Nat) : Int)) (BitVec.ofInt (IntKind.bits IntKind.u64) (b : Int)))) : Nat) : Int) = ((a * 2 ^ s + b : Nat) : Int) := by
  have e : ∀ x : Nat, x < 18446744073709551616 → (BitVec.ofInt (IntKind.bits IntKind.u64) (x : Int)).toNat = x := fun x hx => by
    show (BitVec.ofInt 64 (x : Int)).toNat = _
    rw [BitVec.ofInt_natCast, BitVec.toNat_ofNat, Nat.mod_eq_of_lt hx]
  rw [BitVec.toNat_or, e _ ha, e _ (by omega), Nat.mul_comm, Nat.two_pow_add_eq_or_of_lt hb]
theorem fd32 (x : Nat) : Int.fdiv (x : Int) (HPow.hPow (2 : Int) (Min.min (Int.toNat (32 : Int)) (IntKind.bits IntKind.u64))) = ((x / 4294967296 : Nat) : Int) := by
  show Int.fdiv (x : Int) (4294967296 : Int) = _
  rw [Int.fdiv_eq_ediv_of_nonneg _ (by omega)]; omega
theorem wn64 {x : Nat} (h : x ≤ 18446744073709551615) : IntKind.u64.wrap (x : Int) = (x : Int) := wu64 (by omega) (by omega)
theorem wm64 (x : Nat) : IntKind.u64.wrap (x : Int) = ((x % 18446744073709551616 : Nat) : Int) := by
  simp only [IntKind.wrap, IntKind.bits, IntKind.signed]
  simp
theorem wu64_emod (x : Int) : IntKind.u64.wrap x = x % 18446744073709551616 := by
  simp only [IntKind.wrap, IntKind.bits, IntKind.signed]
  simp
theorem wwu (a b c : Int) : IntKind.u64.wrap (IntKind.u64.wrap (IntKind.u64.wrap a + b) - IntKind.u64.wrap c) = (a + b - c) % 18446744073709551616 := by
  simp only [wu64_emod]
  rw [Int.emod_add_emod, ← Int.sub_emod]
theorem divB1000 (hi lo U n1 : Nat) (aU : U = hi * 18014398509481984 + lo / 1024) (a1 : n1 = lo * 18014398509481984 % 18446744073709551616 / 4294967296) (h : hi < 1000) (hl : lo < 18446744073709551616) :
    (hi * 18446744073709551616 + lo) / 1000 = (U * 4294967296 + n1) / 4194304000 ∧ U < 18014398509481984000 := by
  subst aU; subst a1
  constructor <;> omega
theorem unB1000 (U n1 V : Nat) (hU : U < 18014398509481984000) (hn : n1 < 4294967296) (hv : V = U % 4194304000 * 4294967296 + n1) : IntKind.wrap IntKind.u64 (IntKind.wrap IntKind.u64 (IntKind.wrap IntKind.u64 ((U : Int) * 4294967296) + (n1 : Int)) - IntKind.wrap IntKind.u64 (((U / 4194304000 : Nat) : Int) * ((18014398509481984000 : Nat) : Int))) = (V : Int) := by
  rw [wwu]
  have e : (U : Int) * 4294967296 + (n1 : Int) - ((U / 4194304000 : Nat) : Int) * ((18014398509481984000 : Nat) : Int) = (V : Int) := by omega
  rw [e]
  omega
theorem unD1000 (U n1 : Nat) (hn : n1 < 4294967296) : U % 4194304000 * 4294967296 + n1 < 18014398509481984000 := by omega
theorem hq1000 (U : Nat) (h : U < 18014398509481984000) : U < 18446744073709551616 ∧ U / 4194304000 < 4294967296 ∧ U / 4194304000 * 4194304000 ≤ U ∧ U - U / 4194304000 * 4194304000 = U % 4194304000 ∧ U % 4194304000 < 4294967295 := by omega
theorem or1000 (hi lo : Nat) (hh : hi < 1000) (hl : lo < 18446744073709551616) : (((BitVec.toNat (HOr.hOr (BitVec.ofInt (IntKind.bits IntKind.u64) ((hi * 18014398509481984 : Nat) : Int)) (BitVec.ofInt (IntKind.bits IntKind.u64) ((lo / 1024 : Nat) : Int)))) : Nat) : Int) = ((hi * 18014398509481984 + lo / 1024 : Nat) : Int) :=
  or_sum 54 hi (lo / 1024) (by omega) (by omega) (by omega)
theorem unC1000 (U n1 V : Nat) (h : V = U % 4194304000 * 4294967296 + n1) : (U * 4294967296 + n1) / 4194304000 = U / 4194304000 * 4294967296 + V / 4194304000 := by omega
theorem divB1000000 (hi lo U n1 : Nat) (aU : U = hi * 17592186044416 + lo / 1048576) (a1 : n1 = lo * 17592186044416 % 18446744073709551616 / 4294967296) (h : hi < 1000000) (hl : lo < 18446744073709551616) :
    (hi * 18446744073709551616 + lo) / 1000000 = (U * 4294967296 + n1) / 4096000000 ∧ U < 17592186044416000000 := by
  subst aU; subst a1
  constructor <;> omega
theorem unB1000000 (U n1 V : Nat) (hU : U < 17592186044416000000) (hn : n1 < 4294967296) (hv : V = U % 4096000000 * 4294967296 + n1) : IntKind.wrap IntKind.u64 (IntKind.wrap IntKind.u64 (IntKind.wrap IntKind.u64 ((U : Int) * 4294967296) + (n1 : Int)) - IntKind.wrap IntKind.u64 (((U / 4096000000 : Nat) : Int) * ((17592186044416000000 : Nat) : Int))) = (V : Int) := by
  rw [wwu]
  have e : (U : Int) * 4294967296 + (n1 : Int) - ((U / 4096000000 : Nat) : Int) * ((17592186044416000000 : Nat) : Int) = (V : Int) := by omega
  rw [e]
  omega
theorem unD1000000 (U n1 : Nat) (hn : n1 < 4294967296) : U % 4096000000 * 4294967296 + n1 < 17592186044416000000 := by omega
theorem hq1000000 (U : Nat) (h : U < 17592186044416000000) : U < 18446744073709551616 ∧ U / 4096000000 < 4294967296 ∧ U / 4096000000 * 4096000000 ≤ U ∧ U - U / 4096000000 * 4096000000 = U % 4096000000 ∧ U % 4096000000 < 4294967295 := by omega
theorem or1000000 (hi lo : Nat) (hh : hi < 1000000) (hl : lo < 18446744073709551616) : (((BitVec.toNat (HOr.hOr (BitVec.ofInt (IntKind.bits IntKind.u64) ((hi * 17592186044416 : Nat) : Int)) (BitVec.ofInt (IntKind.bits IntKind.u64) ((lo / 1048576 : Nat) : Int)))) : Nat) : Int) = ((hi * 17592186044416 + lo / 1048576 : Nat) : Int) :=
  or_sum 44 hi (lo / 1048576) (by omega) (by omega) (by omega)
theorem unC1000000 (U n1 V : Nat) (h : V = U % 4096000000 * 4294967296 + n1) : (U * 4294967296 + n1) / 4096000000 = U / 4096000000 * 4294967296 + V / 4096000000 := by omega
end Go.VI
namespace Go.Proofs.Ythmajioeldhngaa.Qu
open Go Go.VI
set_option linter.unusedVariables false
set_option linter.unusedSimpArgs false
set_option maxRecDepth 100000

theorem Mul64_is (N : Nat) {x y : Nat} (hx : x < 18446744073709551616) (hy : y < 18446744073709551616) :
    G_math_bits_Mul64 N ((x : Int), (y : Int), ()) = some (((x * y / 18446744073709551616 : Nat) : Int), ((x * y % 18446744073709551616 : Nat) : Int), ()) := by
  unfold G_math_bits_Mul64 S_math_bits_Mul64
  have split : x * y = (x / 4294967296) * (y / 4294967296) * 18446744073709551616 + ((x / 4294967296) * (y % 4294967296) + (x % 4294967296) * (y / 4294967296)) * 4294967296 + (x % 4294967296) * (y % 4294967296) := by
    have := Lib.split_mul (x / 4294967296) (x % 4294967296) (y / 4294967296) (y % 4294967296) 4294967296
    rw [show x / 4294967296 * 4294967296 + x % 4294967296 = x by omega, show y / 4294967296 * 4294967296 + y % 4294967296 = y by omega] at this
    exact this
  have b11 := Lib.half_mul_le (a := x / 4294967296) (b := y / 4294967296) (by omega) (by omega)
  have b10 := Lib.half_mul_le (a := x / 4294967296) (b := y % 4294967296) (by omega) (by omega)
  have b01 := Lib.half_mul_le (a := x % 4294967296) (b := y / 4294967296) (by omega) (by omega)
  have b00 := Lib.half_mul_le (a := x % 4294967296) (b := y % 4294967296) (by omega) (by omega)
  simp only [fd32, and_low, ← Int.natCast_mul]
  rw [wm64 (x * y)]
  have c1 : x % 4294967296 < 4294967296 := by omega
  have c2 : y % 4294967296 < 4294967296 := by omega
  have c3 : x / 4294967296 < 4294967296 := by omega
  have c4 : y / 4294967296 < 4294967296 := by omega
  rw [wn64 (x := x % 4294967296) (by omega), wn64 (x := y % 4294967296) (by omega)]
  simp only [← Int.natCast_mul]
  generalize x * y = p at *
  generalize x / 4294967296 * (y / 4294967296) = p11 at *
  generalize x / 4294967296 * (y % 4294967296) = p10 at *
  generalize x % 4294967296 * (y / 4294967296) = p01 at *
  generalize x % 4294967296 * (y % 4294967296) = p00 at *
  rw [wn64 (x := p00) (by omega), wn64 (x := p10) (by omega), wn64 (x := p11) (by omega), wn64 (x := p01) (by omega)]
  simp only [fd32, ← Int.natCast_add]
  rw [wn64 (x := p10 + p00 / 4294967296) (by omega)]
  simp only [fd32, and_low, ← Int.natCast_add]
  rw [wn64 (x := (p10 + p00 / 4294967296) % 4294967296) (by omega)]
  simp only [← Int.natCast_add]
  rw [wn64 (x := (p10 + p00 / 4294967296) % 4294967296 + p01) (by omega)]
  simp only [fd32, ← Int.natCast_add]
  rw [wn64 (x := p11 + (p10 + p00 / 4294967296) / 4294967296) (by omega)]
  simp only [← Int.natCast_add]
  rw [wn64 (by omega)]
  congr 3
  omega
theorem lz_1000 (N : Nat) : G_math_bits_LeadingZeros64 N ((1000 : Int), ()) = some ((54 : Int), ()) := by kernel_rfl
theorem lz_1e6 (N : Nat) : G_math_bits_LeadingZeros64 N ((1000000 : Int), ()) = some ((44 : Int), ()) := by kernel_rfl
theorem div_17 (N m : Nat) (s : Int) (a y1 u n1 n0 q1 r : Nat) (hq : q1 < 4294967296) (h1 : 4294967296 * r + n1 < 18446744073709551616) :
    g_math_bits_Div64_17 N (m + 1) (((a : Int), s, (y1 : Int), 0, (u : Int), (n1 : Int), (n0 : Int), (q1 : Int), (r : Int), ()), ()) = some (.inl (((a : Int), s, (y1 : Int), 0, (u : Int), (n1 : Int), (n0 : Int), (q1 : Int), ()), ())) := by
  rw [g_math_bits_Div64_17_succ]
  unfold s_math_bits_Div64_17
  have e : IntKind.u64.wrap (4294967296 * (r : Int)) = ((4294967296 * r : Nat) : Int) := by rw [wu64 (by omega) (by omega)]; omega
  have e2 : IntKind.u64.wrap (((4294967296 * r : Nat) : Int) + (n1 : Int)) = ((4294967296 * r + n1 : Nat) : Int) := by rw [wu64 (by omega) (by omega)]; omega
  have e3 : IntKind.u64.wrap ((q1 : Int) * 0) = 0 := by rw [Int.mul_zero]; rfl
  simp only [e, e2, e3]
  rw [decide_eq_false (show ¬ (4294967296 : Int) ≤ (q1 : Int) by omega), br_false, decide_eq_false (show ¬ ((4294967296 * r + n1 : Nat) : Int) < 0 by omega), br_false]
theorem div_24 (N m : Nat) (s : Int) (a y1 n0 q1 r un q0 : Nat) (hq : q0 < 4294967296) (h1 : 4294967296 * r + n0 < 18446744073709551616) :
    g_math_bits_Div64_24 N (m + 1) (((a : Int), s, (y1 : Int), 0, (n0 : Int), (q1 : Int), (r : Int), (un : Int), (q0 : Int), ()), ()) = some (.inl (((a : Int), s, (n0 : Int), (q1 : Int), (un : Int), (q0 : Int), ()), ())) := by
  rw [g_math_bits_Div64_24_succ]
  unfold s_math_bits_Div64_24
  have e : IntKind.u64.wrap (4294967296 * (r : Int)) = ((4294967296 * r : Nat) : Int) := by rw [wu64 (by omega) (by omega)]; omega
  have e2 : IntKind.u64.wrap (((4294967296 * r : Nat) : Int) + (n0 : Int)) = ((4294967296 * r + n0 : Nat) : Int) := by rw [wu64 (by omega) (by omega)]; omega
  have e3 : IntKind.u64.wrap ((q0 : Int) * 0) = 0 := by rw [Int.mul_zero]; rfl
  simp only [e, e2, e3]
  rw [decide_eq_false (show ¬ (4294967296 : Int) ≤ (q0 : Int) by omega), br_false, decide_eq_false (show ¬ ((4294967296 * r + n0 : Nat) : Int) < 0 by omega), br_false]
theorem Div64_gen (N : Nat) (hN : Big N) (hi lo y A Y1 P Q : Nat) (s s' : Int) (hlz : G_math_bits_LeadingZeros64 N ((y : Int), ()) = some (s, ()))
    (ws : IntKind.wrap IntKind.u64 s = s) (ws2 : IntKind.wrap IntKind.u64 ((64 : Int) - s) = s') (d0 : decide (s < 0) = false) (d1 : decide (s' < 0) = false)
    (pp : HPow.hPow (2 : Int) (Min.min (Int.toNat s) (IntKind.bits IntKind.u64)) = (P : Int)) (pq : HPow.hPow (2 : Int) (Min.min (Int.toNat s') (IntKind.bits IntKind.u64)) = (Q : Int))
    (wA : IntKind.wrap IntKind.u64 ((y * P : Nat) : Int) = (A : Int)) (hA1 : A / 4294967296 = Y1) (hA0 : A % 4294967296 = 0) (hY : 0 < Y1) (hh : hi < y) (hl : lo < 18446744073709551616)
    (hQ : hi * P < 18446744073709551616)
    (hor : (((BitVec.toNat (HOr.hOr (BitVec.ofInt (IntKind.bits IntKind.u64) ((hi * P : Nat) : Int)) (BitVec.ofInt (IntKind.bits IntKind.u64) ((lo / Q : Nat) : Int)))) : Nat) : Int) = ((hi * P + lo / Q : Nat) : Int))
    (hB : ∀ U n1, U = hi * P + lo / Q → n1 = lo * P % 18446744073709551616 / 4294967296 → (hi * 18446744073709551616 + lo) / y = (U * 4294967296 + n1) / Y1 ∧ U < A)
    (hq : ∀ U, U < A → U < 18446744073709551616 ∧ U / Y1 < 4294967296 ∧ U / Y1 * Y1 ≤ U ∧ U - U / Y1 * Y1 = U % Y1 ∧ U % Y1 < 4294967295)
    (unB : ∀ U n1 V : Nat, U < A → n1 < 4294967296 → V = U % Y1 * 4294967296 + n1 → IntKind.wrap IntKind.u64 (IntKind.wrap IntKind.u64 (IntKind.wrap IntKind.u64 ((U : Int) * 4294967296) + (n1 : Int)) - IntKind.wrap IntKind.u64 (((U / Y1 : Nat) : Int) * (A : Int))) = (V : Int))
    (unD : ∀ U n1 : Nat, n1 < 4294967296 → U % Y1 * 4294967296 + n1 < A)
    (unC : ∀ U n1 V : Nat, V = U % Y1 * 4294967296 + n1 → (U * 4294967296 + n1) / Y1 = U / Y1 * 4294967296 + V / Y1) :
    ∃ r, G_math_bits_Div64 N ((hi : Int), (lo : Int), (y : Int), ()) = some ((((hi * 18446744073709551616 + lo) / y : Nat) : Int), r, ()) := by
  have hN' := hN
  unfold Big at hN'
  obtain ⟨M, rfl⟩ : ∃ M, N = M + 1 := ⟨N - 1, by omega⟩
  unfold G_math_bits_Div64 S_math_bits_Div64
  have y0 : decide ((y : Int) = 0) = false := decide_eq_false (by omega)
  have yh : decide ((y : Int) ≤ (hi : Int)) = false := decide_eq_false (by omega)
  simp only [y0, yh, br_false]
  by_cases h0 : hi = 0
  · subst h0
    rw [decide_eq_true (show ((0 : Nat) : Int) = 0 from rfl), br_true, tdivN, wn64 (Nat.le_trans (Nat.div_le_self _ _) (by omega))]
    exact ⟨_, by rw [Nat.zero_mul, Nat.zero_add]⟩
  rw [decide_eq_false (show ¬ (hi : Int) = 0 by omega), br_false]
  have fq : Int.fdiv (lo : Int) (Q : Int) = ((lo / Q : Nat) : Int) := by rw [Int.fdiv_eq_ediv_of_nonneg _ (by omega)]; exact (Int.natCast_ediv lo Q).symm
  simp only [hlz, Option.bind_some, ws, ws2, pp, pq, d0, d1, br_false, fq, wA, ← Int.natCast_mul]
  rw [wn64 (x := hi * P) (by omega), wm64 (lo * P)]
  simp only [hor, fd32, and_low]
  obtain ⟨U, aU⟩ : ∃ U, U = hi * P + lo / Q := ⟨_, rfl⟩
  obtain ⟨n1, a1⟩ : ∃ n, n = lo * P % 18446744073709551616 / 4294967296 := ⟨_, rfl⟩
  obtain ⟨n0, a0⟩ : ∃ n, n = lo * P % 18446744073709551616 % 4294967296 := ⟨_, rfl⟩
  rw [← aU, ← a1, ← a0, hA1, hA0]
  obtain ⟨hR, hU⟩ := hB U n1 aU a1
  rw [hR]
  have hl1 : n1 < 4294967296 := by omega
  have hl0 : n0 < 4294967296 := by omega
  clear hB aU a1 a0 hor hR
  obtain ⟨u1, u2, u3, u4, u5⟩ := hq U hU
  have z1 : decide ((Y1 : Int) = 0) = false := decide_eq_false (by omega)
  rw [wn64 (x := U) (by omega)]
  simp only [z1, br_false, tdivN]
  rw [wn64 (x := U / Y1) (by omega)]
  simp only [← Int.natCast_mul]
  have e1 : (U : Int) - ((U / Y1 * Y1 : Nat) : Int) = ((U % Y1 : Nat) : Int) := by omega
  have w0 : IntKind.wrap IntKind.u64 ((0 : Nat) : Int) = 0 := rfl
  rw [wn64 (x := U / Y1 * Y1) (by omega), wn64 (x := n0) (by omega), e1, wn64 (x := U % Y1) (by omega), w0]
  rw [div_17 (M + 1) M s A Y1 U n1 n0 (U / Y1) (U % Y1) u2 (by omega)]
  simp only [Option.bind_some, Sum.elim_inl, z1, br_false]
  obtain ⟨V, aV⟩ : ∃ V, V = U % Y1 * 4294967296 + n1 := ⟨_, rfl⟩
  have eU := unB U n1 V hU hl1 aV
  simp only [eU, tdivN]
  have hV : V < A := by rw [aV]; exact unD U n1 hl1
  rw [unC U n1 V aV]
  obtain ⟨v1, v2, v3, v4, v5⟩ := hq V hV
  rw [wn64 (x := V / Y1) (by omega)]
  simp only [← Int.natCast_mul]
  have e2 : (V : Int) - ((V / Y1 * Y1 : Nat) : Int) = ((V % Y1 : Nat) : Int) := by omega
  rw [wn64 (x := V / Y1 * Y1) (by omega), e2, wn64 (x := V % Y1) (by omega)]
  rw [div_24 (M + 1) M s A Y1 n0 (U / Y1) (V % Y1) V (V / Y1) v2 (by omega)]
  simp only [Option.bind_some, Sum.elim_inl, d0, br_false]
  have e3 : ((U / Y1 : Nat) : Int) * 4294967296 = ((U / Y1 * 4294967296 : Nat) : Int) := by omega
  rw [e3, wn64 (x := U / Y1 * 4294967296) (by omega), ← Int.natCast_add, wn64 (by omega)]
  exact ⟨_, rfl⟩
theorem Div64_1000 (N : Nat) (hN : Big N) (hi lo : Nat) (hh : hi < 1000) (hl : lo < 18446744073709551616) :
    ∃ r, G_math_bits_Div64 N ((hi : Int), (lo : Int), (((1000 : Nat) : Int)), ()) = some ((((hi * 18446744073709551616 + lo) / 1000 : Nat) : Int), r, ()) :=
  Div64_gen N hN hi lo 1000 18014398509481984000 4194304000 18014398509481984 1024 54 10 (lz_1000 N) rfl rfl rfl rfl rfl rfl rfl rfl rfl (by omega) hh hl (by omega) (or1000 hi lo hh hl) (fun U n1 h1 h2 => divB1000 hi lo U n1 h1 h2 hh hl) (hq1000) (unB1000) (unD1000) (unC1000)
theorem Div64_1000000 (N : Nat) (hN : Big N) (hi lo : Nat) (hh : hi < 1000000) (hl : lo < 18446744073709551616) :
    ∃ r, G_math_bits_Div64 N ((hi : Int), (lo : Int), (((1000000 : Nat) : Int)), ()) = some ((((hi * 18446744073709551616 + lo) / 1000000 : Nat) : Int), r, ()) :=
  Div64_gen N hN hi lo 1000000 17592186044416000000 4096000000 17592186044416 1048576 44 20 (lz_1e6 N) rfl rfl rfl rfl rfl rfl rfl rfl rfl (by omega) hh hl (by omega) (or1000000 hi lo hh hl) (fun U n1 h1 h2 => divB1000000 hi lo U n1 h1 h2 hh hl) (hq1000000) (unB1000000) (unD1000000) (unC1000000)
end Go.Proofs.Ythmajioeldhngaa.Qu
