/- BackoffDoubles: what the law computes is true. -/
import Derived.Test.YtplgkdfmpbkfpaaGBd
import Derived.Test.YtplgkdfmpbkfpaaVIz
namespace Go.Proofs.Ytplgkdfmpbkfpaa.Bd
open Go Go.VI
set_option linter.unusedVariables false
set_option linter.unusedSimpArgs false
set_option maxRecDepth 100000

theorem known_is (m : Nat) : G_law24_known (m + 300) () = some (true, ()) := by kernel_rfl
theorem keq_self (k : ByteArray) : Ty.str.keq k k = true := decide_eq_true (rfl : k = k)
theorem mget_mset {β : Type} (k : ByteArray) (v : β) : ∀ es : List (ByteArray × β), mget Ty.str (mset Ty.str es k v) k = some v
  | [] => by
    show br (Ty.str.keq k k) (some v) _ = _
    rw [keq_self]; rfl
  | e :: es => by
    show mget Ty.str (br (Ty.str.keq k e.1) ((k, v) :: es) (e :: mset Ty.str es k v)) k = _
    cases h : Ty.str.keq k e.1
    · show br (Ty.str.keq k e.1) (some e.2) (mget Ty.str (mset Ty.str es k v) k) = _
      rw [h]; exact mget_mset k v es
    · show br (Ty.str.keq k k) (some v) _ = _
      rw [keq_self]; rfl
abbrev gk : ByteArray := ByteArray.mk (List.toArray [103])
abbrev Es := List (ByteArray × (Int × Int))

theorem fold_max (a b : Int) : List.foldl Max.max a [b] = max a b := rfl
theorem fold_min (a b : Int) : List.foldl Min.min a [b] = min a b := rfl

theorem loop (N : Nat) (n a b : Int) (hn0 : 0 ≤ n) (hn1 : n ≤ 255) (ha : 1 ≤ a) (hab : a ≤ b) (hb : b ≤ 131071) :
    ∀ m (i : Nat) x, i ≤ (1 + n % 12).toNat → (∃ (now want : Int) (es : Es) (ord : List ByteArray), x = ((n, a, b, now, want, (i : Int), ()), ord, es, (a, b, (10 : Int), ()), ()) ∧ 0 ≤ now ∧ now ≤ i * 131071 ∧ a ≤ want ∧ want ≤ b ∧
      ((i = 0 ∧ mget Ty.str es gk = none ∧ ord = [] ∧ want = a ∧ now = 0) ∨ (1 ≤ i ∧ ∃ l : Int, mget Ty.str es gk = some (l, now) ∧ want = min (2 * l) b ∧ a ≤ l ∧ l ≤ b))) → (1 + n % 12).toNat - i < m →
    Tot (g_law24_BackoffDoubles_9 N m x) fun o => ∃ (now l : Int) (es : Es) (ord : List ByteArray), o = .inl ((a, now, ()), ord, es, (a, b, (10 : Int), ()), ()) ∧ 0 ≤ now ∧ now ≤ 12 * 131071 ∧ mget Ty.str es gk = some (l, now) := by
  refine Tot.range _ fun m i x hx hi rec => ?_
  obtain ⟨now, want, es, ord, rfl, h0, h1, h2, h3, h4⟩ := hx
  rw [g_law24_BackoffDoubles_9_succ]
  unfold s_law24_BackoffDoubles_9
  have ht : Int.tmod n 12 = n % 12 := Int.tmod_eq_emod_of_nonneg hn0
  have hi12 : i ≤ 12 := by omega
  have hnow : now ≤ 12 * 131071 := by omega
  have w0 : IntKind.i64.wrap n = n := w64 (by omega) (by omega)
  have w1 : IntKind.i64.wrap (1 + n % 12) = 1 + n % 12 := w64 (by omega) (by omega)
  have w2 : IntKind.i64.wrap (now + want) = now + want := w64 (by omega) (by omega)
  have w3 : IntKind.i64.wrap (now + want - 1) = now + want - 1 := w64 (by omega) (by omega)
  have w4 : IntKind.i64.wrap ((i : Int) + 1) = ((i + 1 : Nat) : Int) := by rw [w64 (by omega) (by omega)]; omega
  have w5 : IntKind.i64.wrap (2 * want) = 2 * want := w64 (by omega) (by omega)
  have d1 : decide (0 < a) = true := decide_eq_true (by omega)
  have d2 : decide (0 ≤ now) = true := decide_eq_true h0
  have d3 : decide (now ≤ 1099511627776) = true := decide_eq_true (by omega)
  have d4 : decide (0 ≤ now + want - 1) = true := decide_eq_true (by omega)
  have d5 : decide (now + want - 1 ≤ 1099511627776) = true := decide_eq_true (by omega)
  have d6 : decide (0 ≤ now + want) = true := decide_eq_true (by omega)
  have d7 : decide (now + want ≤ 1099511627776) = true := decide_eq_true (by omega)
  have d8 : decide (now + want ≤ now + want - 1) = false := decide_eq_false (by omega)
  have d9 : decide (now + want ≤ now + want) = true := decide_eq_true (by omega)
  have next : ∀ es' : Es, mget Ty.str es' gk = some (want, now + want) → ∀ ord', i < (1 + n % 12).toNat → Tot (g_law24_BackoffDoubles_9 N m ((n, a, b, now + want, min (2 * want) b, ((i + 1 : Nat) : Int), ()), ord', es', (a, b, (10 : Int), ()), ())) fun o => ∃ (now l : Int) (es : Es) (ord : List ByteArray), o = .inl ((a, now, ()), ord, es, (a, b, (10 : Int), ()), ()) ∧ 0 ≤ now ∧ now ≤ 12 * 131071 ∧ mget Ty.str es gk = some (l, now) := fun es' he ord' hlt =>
    rec (i + 1) _ (by omega) (by omega) ⟨_, _, _, _, rfl, by omega, by omega, by omega, by omega, .inr ⟨by omega, want, he, rfl, h2, h3⟩⟩
  dsimp only
  simp only [ht, w0, w1, w2, w3, w4, w5, d1, d2, d3, fold_max, fold_min, br_true, br_false, Bool.not_true, Bool.not_false, Option.bind_some]
  refine Tot.brD (fun hlt => ?_) fun hge => ?_
  · rcases h4 with ⟨rfl, hm, rfl, rfl, rfl⟩ | ⟨h5, l, hm, hw, h6, h7⟩
    · have hM : Nat.ble (List.length ([] : List ByteArray) + 1) maxElems = true := by decide
      have e1 : max 0 (0 + want) = 0 + want := by omega
      have e2 : decide (want = want) = true := decide_eq_true rfl
      have e3 : decide (0 + want = 0 + want) = true := decide_eq_true rfl
      have := next (mset Ty.str es gk (want, 0 + want)) (mget_mset ..) ([] ++ [gk]) (by omega)
      simp only [hm, hM, w2, e1, e2, e3, Option.isSome_none, Option.getD_none, Bool.not_true, Bool.not_false, br_true, br_false, Option.bind_some, mget_mset, Option.getD_some, d4, d5, d6, d7, d8, d9]
      exact this
    · have e0 : IntKind.i64.wrap (2 * l) = 2 * l := w64 (by omega) (by omega)
      have e1 : max now (now + want) = now + want := by omega
      have e2 : decide (want = want) = true := decide_eq_true rfl
      have e3 : decide (now + want = now + want) = true := decide_eq_true rfl
      have e4 : IntKind.i64.wrap (now - now) = 0 := by rw [w64 (by omega) (by omega)]; omega
      have e5 : decide ((10 : Int) ≤ 0) = false := by decide
      have := next (mset Ty.str es gk (want, now + want)) (mget_mset ..) ord (by omega)
      simp only [hm, e0, ← hw, w2, e1, e2, e3, e4, e5, Option.isSome_some, Option.getD_some, Bool.not_true, Bool.not_false, br_true, br_false, Option.bind_some, mget_mset, d4, d5, d6, d7, d8, d9]
      exact this
  · rcases h4 with ⟨rfl, _⟩ | ⟨h5, l, hm, hw, h6, h7⟩
    · omega
    · exact Tot.some ⟨now, l, es, ord, rfl, h0, hnow, hm⟩

theorem pureBackoffDoubles (x : Int × Int × Int × Unit) (hw : Ty.wf (.int .u16) x.1 ∧ Ty.wf (.int .u16) x.2.1 ∧ Ty.wf (.int .u8) x.2.2.1 ∧ True) : ∃ N, G_law24_BackoffDoubles N x = some (true, ()) := by
  obtain ⟨f, mo, n, ⟨⟩⟩ := x
  obtain ⟨hf, hm, hn, _⟩ := hw
  have hf : 0 ≤ f ∧ f ≤ 65535 := by
    have hn : (Lit.int .u16 f).wf = true := hf
    simp [Lit.wf, IntKind.min, IntKind.max, IntKind.signed, IntKind.bits] at hn
    omega
  have hm : 0 ≤ mo ∧ mo ≤ 65535 := by
    have hn : (Lit.int .u16 mo).wf = true := hm
    simp [Lit.wf, IntKind.min, IntKind.max, IntKind.signed, IntKind.bits] at hn
    omega
  have hn : 0 ≤ n ∧ n ≤ 255 := by
    have hn : (Lit.int .u8 n).wf = true := hn
    simp [Lit.wf, IntKind.min, IntKind.max, IntKind.signed, IntKind.bits] at hn
    omega
  refine ⟨281474976710656 + 300, ?_⟩
  have hk := known_is 281474976710656
  have hN : 300 ≤ 281474976710656 + 300 := by omega
  generalize 281474976710656 + 300 = N at *
  unfold G_law24_BackoffDoubles S_law24_BackoffDoubles
  have w1 : IntKind.i64.wrap f = f := w64 (by omega) (by omega)
  have w2 : IntKind.i64.wrap (1 + f) = 1 + f := w64 (by omega) (by omega)
  have w3 : IntKind.i64.wrap mo = mo := w64 (by omega) (by omega)
  have w4 : IntKind.i64.wrap (1 + f + mo) = 1 + f + mo := w64 (by omega) (by omega)
  have d1 : decide (1 + f < 1) = false := decide_eq_false (by omega)
  have d2 : decide (1 + f + mo < 1 + f) = false := decide_eq_false (by omega)
  have d3 : decide (0 ≤ 1 + f + mo) = true := decide_eq_true (by omega)
  have d4 : decide (1 + f + mo ≤ 1099511627776) = true := decide_eq_true (by omega)
  obtain ⟨o, eo, now, l, es, ord, rfl, q1, q2, q3⟩ := loop N n (1 + f) (1 + f + mo) hn.1 hn.2 (by omega) (by omega) (by omega) N 0 ((n, 1 + f, 1 + f + mo, 0, 1 + f, ((0 : Nat) : Int), ()), [], [], (1 + f, 1 + f + mo, (10 : Int), ()), ()) (by omega)
    ⟨0, 1 + f, [], [], rfl, by omega, by omega, by omega, by omega, .inl ⟨rfl, rfl, rfl, rfl, rfl⟩⟩ (by omega)
  have eo : g_law24_BackoffDoubles_9 N N ((n, 1 + f, 1 + f + mo, 0, 1 + f, 0, ()), [], [], (1 + f, 1 + f + mo, (10 : Int), ()), ()) = _ := eo
  have w5 : IntKind.i64.wrap (now + 10) = now + 10 := w64 (by omega) (by omega)
  have w6 : IntKind.i64.wrap (now + 10 - now) = 10 := by rw [w64 (by omega) (by omega)]; omega
  have d5 : decide (0 < 1 + f) = true := decide_eq_true (by omega)
  have d6 : decide (0 ≤ now + 10) = true := decide_eq_true (by omega)
  have d7 : decide (now + 10 ≤ 1099511627776) = true := decide_eq_true (by omega)
  have d8 : decide ((10 : Int) ≤ 10) = true := by decide
  have d9 : decide (1 + f = 1 + f) = true := decide_eq_true rfl
  simp only [w1, w2, w3, w4, d1, d2, d3, d4, br_true, br_false, Option.bind_some, Bool.not_true, Bool.not_false, eo, Sum.elim_inl, d5, w5, d6, d7, q3, Option.isSome_some, Option.getD_some, w6, d8, d9, mget_mset, decide_true, hk]
end Go.Proofs.Ytplgkdfmpbkfpaa.Bd
