/- BackoffPlays: what the law computes is true. -/
import Derived.Test.YtplgkdfmpbkfpaaBkpLBp
import Derived.Test.YtplgkdfmpbkfpaaTxtEBp
namespace Go.Proofs.Ytplgkdfmpbkfpaa.Bp
open Go Go.VI
set_option linter.unusedVariables false
set_option linter.unusedSimpArgs false
set_option maxRecDepth 100000

theorem known_is (m : Nat) : G_law24_known (m + 300) () = some (true, ()) := by kernel_rfl
theorem time_is (N : Nat) (n : Int) : G_ref24_time N (n, ()) = some (decide (0 ≤ n) && decide (n ≤ 1099511627776), ()) := by
  unfold G_ref24_time S_ref24_time
  cases h : decide ((0 : Int) ≤ n) <;> rfl
theorem reach_le : reachBytes ≤ 140737488355328 := by decide
theorem max0 {a : Int} (h : 0 ≤ a) : max 0 a = a := by omega

section
variable {N : Nat} (hN : Big N) {a b c : Int} (ha : 1 ≤ a) (hab : a ≤ b) (hb : b ≤ 1099511627776)
/-- What is noted of a failure. -/
def nxt (a b c now : Int) : Option (Int × Int) → Int × Int
  | none => (a, now + a)
  | some v => if c ≤ now - v.2 then (a, max v.2 (now + a)) else (min (2 * v.1) b, max v.2 (now + min (2 * v.1) b))
include ha hab hb in
theorem nxt_ok {now : Int} (h0 : 0 ≤ now) (h1 : now ≤ 1099511627776) : ∀ {o : Option (Int × Int)}, (∀ v, o = some v → okNt b v) → okNt b (nxt a b c now o)
  | none, _ => ⟨by simp only [nxt]; omega, by simp only [nxt]; omega, by simp only [nxt]; omega, by simp only [nxt]; omega⟩
  | some v, h => by
    obtain ⟨q1, q2, q3, q4⟩ := h v rfl
    simp only [nxt]
    split <;> exact ⟨by simp only; omega, by simp only; omega, by simp only; omega, by simp only; omega⟩

include hN ha hab hb in
/-- One thing that is done. -/
theorem block_is {es L : List Nt} {ord : List ByteArray} (hS : Same b es ord L) (hL : L.length ≤ 100) (sc : List (Int × (ByteArray × Int))) (i : Int) (o : Int × (ByteArray × Int)) :
    ∃ es' ord' L', g_law24_BackoffPlays_1000002 N N ((sc, i, o, o.1, ()), (a, b, c, ()), (a, b, c, ()), es, ord, L, ()) = some (.inl ((sc, i, o, ()), (a, b, c, ()), (a, b, c, ()), es', ord', L', ())) ∧ Same b es' ord' L' ∧ L'.length ≤ L.length + 1 := by
  obtain ⟨kind, g, now⟩ := o
  obtain ⟨m, hm⟩ : ∃ m, N = m + 1 := ⟨N - 1, by unfold Big at hN; omega⟩
  have hlen : ord.length = L.length := by rw [hS.ord, List.length_map]
  have hbl : Nat.ble (ord.length + 1) maxElems = true := Nat.ble_eq_true_of_le (by unfold maxElems; omega)
  have hbL : Nat.ble (L.length + 1) maxElems = true := Nat.ble_eq_true_of_le (by unfold maxElems; omega)
  have dpos : decide ((0 : Int) < a) = true := decide_eq_true (by omega)
  rw [show g_law24_BackoffPlays_1000002 N N = g_law24_BackoffPlays_1000002 N (m + 1) from by rw [← hm], g_law24_BackoffPlays_1000002_succ]
  unfold s_law24_BackoffPlays_1000002
  have hget := hS.get
  have plf := pl_loop (f := gx_law24_BackoffPlays_7 N) (fun m x => rfl) hN g a b c (by omega : L.length ≤ 1000)
  have fif := fi_loop (f := gx_law24_BackoffPlays_8 N) (fun m x => rfl) hN g a b c (by omega : L.length ≤ 1000)
  simp only [dpos, Bool.not_true, br_false, time_is, hget]
  by_cases hk0 : kind = 0
  · -- Fail
    rw [decide_eq_true hk0, br_true]
    by_cases h0 : 0 ≤ now
    case neg =>
      rw [decide_eq_false h0]
      simp only [br_false, Option.bind_some, Bool.false_and, Bool.not_false, br_true, decide_true, Bool.not_true]
      exact ⟨es, ord, L, rfl, hS, by omega⟩
    by_cases h1 : now ≤ 1099511627776
    case neg =>
      rw [decide_eq_true h0, decide_eq_false h1]
      simp only [br_true, br_false, Option.bind_some, Bool.and_false, Bool.not_false, decide_true, Bool.not_true]
      exact ⟨es, ord, L, rfl, hS, by omega⟩
    rw [decide_eq_true h0, decide_eq_true h1]
    simp only [br_true, br_false, Option.bind_some, Bool.and_self, Bool.not_true, plf]
    have hnx := nxt_ok (c := c) ha hab hb h0 h1 (o := mget Ty.str L g) (fun v hv => hS.ok g v hv)
    have hset := hS.set (g := g) hnx
    have hln : (mset Ty.str L g (nxt a b c now (mget Ty.str L g))).length ≤ L.length + 1 := by
      have := congrArg List.length (keys_mset (g := g) (w := nxt a b c now (mget Ty.str L g)) (l := L))
      rw [List.length_map] at this
      rw [this]
      cases (mget Ty.str L g).isSome
      · rw [br_false, List.length_append, List.length_map]; exact Nat.le_refl _
      · rw [br_true, List.length_map]; omega
    refine ⟨_, _, _, ?_, hset, hln⟩
    cases ho : mget Ty.str L g with
    | none =>
      rw [plc_none.2 ho]
      have hmn := mset_new (w := (a, now + a)) ho
      simp only [plO, Option.bind_some, Sum.elim_inl, Option.isSome_none, Bool.not_false, br_true, br_false, hbl, hbL, Option.getD_none, List.foldl_cons, List.foldl_nil, w64 (x := now + a) (by omega) (by omega), max0 (by omega : 0 ≤ now + a), nxt, hmn, show decide ((-1 : Int) < 0) = true from rfl, decide_true, Bool.not_true]
    | some v =>
      obtain ⟨k, hk⟩ : ∃ k, plc g L 0 = some k := by
        cases e : plc g L 0 with
        | none => rw [plc_none.1 e] at ho; cases ho
        | some k => exact ⟨k, rfl⟩
      rw [hk]
      obtain ⟨_, v', q1, q2, q3⟩ := plc_some hk
      rw [ho] at q2; cases q2
      rw [Nat.sub_zero] at q1 q3
      obtain ⟨r1, r2, r3, r4⟩ := hS.ok g v ho
      have hkl : k < L.length := (List.getElem?_eq_some_iff.1 q1).1
      have dk : decide ((k : Int) < 0) = false := decide_eq_false (by omega)
      have dk0 : decide ((0 : Int) ≤ (k : Int)) = true := decide_eq_true (by omega)
      have dk1 : decide ((k : Int) < ((L.length : Nat) : Int)) = true := decide_eq_true (by omega)
      simp only [plO, Option.bind_some, Sum.elim_inr, Option.isSome_some, Bool.not_true, br_false, br_true, Option.getD_some, List.foldl_cons, List.foldl_nil, dk, dk0, dk1, Bool.and_self, Int.toNat_natCast, q1, List.length_set, List.getElem?_set_self hkl, List.set_set, q3, w64 (x := now + a) (by omega) (by omega), w64 (x := now - v.2) (by omega) (by omega), w64 (x := 2 * v.1) (by omega) (by omega), w64 (x := now + min (2 * v.1) b) (by omega) (by omega), nxt]
      by_cases hcc : c ≤ now - v.2
      · simp only [decide_eq_true hcc, br_true, if_pos hcc, decide_true, Bool.not_true, br_false, Option.bind_some]
      · simp only [decide_eq_false hcc, br_false, if_neg hcc, decide_true, Bool.not_true, Option.bind_some]
  rw [decide_eq_false hk0, br_false]
  by_cases hk1 : kind = 1
  · -- Fine
    rw [decide_eq_true hk1, br_true]
    have hdel := hS.del g
    refine ⟨_, _, _, ?_, hdel, Nat.le_trans (List.length_filter_le _ _) (Nat.le_succ _)⟩
    rcases ord_loop hN g a b c (mdel Ty.str es g) (ord := ord) (by rw [hS.ord]; exact hS.nd) (by omega) with e | e <;> rw [e] <;> simp only [Option.bind_some, Sum.elim_inl, Sum.elim_inr, fif]
  rw [decide_eq_false hk1, br_false]
  by_cases hk2 : kind = 2
  · rw [decide_eq_true hk2, br_true]
    exact ⟨[], [], [], rfl, Same.nil b, Nat.zero_le _⟩
  rw [decide_eq_false hk2, br_false]
  obtain ⟨es', hcp, hS'⟩ := cp_loop hN a b c hS (by omega)
  refine ⟨es', ord, L, ?_, hS', Nat.le_succ _⟩
  simp only [hcp, Option.bind_some, Sum.elim_inl, dpos, Bool.not_true, br_false, hbl, br_true]
  generalize Option.isSome (mget Ty.str es _) = q1
  generalize decide (c ≤ _) = q2
  cases q1
  · simp only [Bool.not_false, br_true, Option.bind_some, dpos, Bool.not_true, br_false]
  · cases q2 <;> simp only [Bool.not_true, br_true, br_false, Option.bind_some, dpos]

include hN ha hab hb in
theorem loop_is (sc : List (Int × (ByteArray × Int))) (hsc : sc.length ≤ 140737488355328) : Tot (g_law24_BackoffPlays_6 N N ((sc, 0, ()), (a, b, c, ()), (a, b, c, ()), [], [], [], ())) fun o => ∃ y, o = .inl y := by
  have hN' := hN
  unfold Big at hN'
  have dpos : decide ((0 : Int) < a) = true := decide_eq_true (by omega)
  have loop : ∀ m (i : Nat) x, i ≤ 40 → (∃ es ord L, x = ((sc, (i : Int), ()), (a, b, c, ()), (a, b, c, ()), es, ord, L, ()) ∧ Same b es ord L ∧ L.length ≤ i) → 40 - i < m → Tot (g_law24_BackoffPlays_6 N m x) fun o => ∃ y, o = .inl y := by
    refine Tot.range 40 fun m i x hx hi rec => ?_
    obtain ⟨es, ord, L, rfl, hS, hL⟩ := hx
    rw [g_law24_BackoffPlays_6_succ]
    unfold s_law24_BackoffPlays_6
    by_cases hlt : i < sc.length
    case neg =>
      have d1 : decide ((i : Int) < ((sc.length : Nat) : Int)) = false := decide_eq_false (by omega)
      simp only [d1, br_false]
      exact Tot.some ⟨_, rfl⟩
    by_cases h40 : i < 40
    case neg =>
      have d1 : decide ((i : Int) < ((sc.length : Nat) : Int)) = true := decide_eq_true (by omega)
      have d2 : decide ((i : Int) < (40 : Int)) = false := decide_eq_false (by omega)
      simp only [d1, d2, br_true, br_false]
      exact Tot.some ⟨_, rfl⟩
    have d1 : decide ((i : Int) < ((sc.length : Nat) : Int)) = true := decide_eq_true (by omega)
    have d2 : decide ((i : Int) < (40 : Int)) = true := decide_eq_true (by omega)
    have d0 : decide ((0 : Int) ≤ (i : Int)) = true := decide_eq_true (by omega)
    simp only [d0, d1, d2, br_true, Int.toNat_natCast, at_lt hlt, Option.bind_some, wi (i := i) (by omega)]
    refine Tot.br (fun _ => rec (i + 1) _ (by omega) (by omega) ⟨es, ord, L, rfl, hS, by omega⟩) fun _ => ?_
    obtain ⟨es', ord', L', e1, hS', hL'⟩ := block_is hN ha hab hb hS (by omega) sc (i : Int) sc[i]
    rw [e1]
    generalize sc[i] = o
    obtain ⟨kind, g, now⟩ := o
    have hget := hS'.get
    have hlen : ord'.length = L'.length := by rw [hS'.ord, List.length_map]
    have hbo : Nat.ble ord'.length maxElems = true := Nat.ble_eq_true_of_le (by unfold maxElems; omega)
    have pl1 := pl_loop (f := gx_law24_BackoffPlays_1 N) (fun m x => rfl) hN g a b c (by omega : L'.length ≤ 1000)
    have pl2 := pl_loop (f := gx_law24_BackoffPlays_2 N) (fun m x => rfl) hN g a b c (by omega : L'.length ≤ 1000)
    have pl3 := pl_loop (f := gx_law24_BackoffPlays_3 N) (fun m x => rfl) hN g a b c (by omega : L'.length ≤ 1000)
    have gl := grp_loop hN a b c (by omega : L'.length ≤ 1000)
    have tx := Texts_same N hN (l := keys L') (by rw [List.length_map]; omega)
    have fin : Tot (g_law24_BackoffPlays_6 N m ((sc, ((i + 1 : Nat) : Int), ()), (a, b, c, ()), (a, b, c, ()), es', keys L', L', ())) fun o => ∃ y, o = .inl y := rec (i + 1) _ (by omega) (by omega) ⟨es', ord', L', by rw [hS'.ord], hS', by omega⟩
    have hord := hS'.ord
    subst hord
    simp only [Option.bind_some, Sum.elim_inl, dpos, br_true, Bool.not_true, br_false, hget, pl1, time_is, wi (i := i) (by omega)]
    have beqs : ∀ x : Bool, (!bEq x x) = false := fun x => by cases x <;> rfl
    cases ho : mget Ty.str L' g with
    | none =>
      rw [plc_none.2 ho] at pl1 pl2 pl3 ⊢
      have dm : decide ((-1 : Int) < 0) = true := rfl
      by_cases h0 : 0 ≤ now
      case neg =>
        simp only [decide_eq_false h0, br_false, br_true, Bool.false_and, Option.bind_some, plO, Sum.elim_inl, beqs, pl2, pl3, gl, dm, Option.getD_none, decide_true, Bool.not_true, hbo, tx, hget, ho, dpos]
        exact fin
      by_cases h1 : now ≤ 1099511627776
      case neg =>
        simp only [decide_eq_true h0, decide_eq_false h1, br_false, br_true, Bool.and_false, Option.bind_some, plO, Sum.elim_inl, beqs, pl2, pl3, gl, dm, Option.getD_none, decide_true, Bool.not_true, hbo, tx, hget, ho, dpos]
        exact fin
      simp only [decide_eq_true h0, decide_eq_true h1, br_false, br_true, Bool.and_self, Option.bind_some, plO, Sum.elim_inl, beqs, pl2, pl3, gl, dm, Option.getD_none, decide_true, Bool.not_true, hbo, tx, hget, ho, dpos]
      exact fin
    | some v =>
      obtain ⟨k, hk⟩ : ∃ k, plc g L' 0 = some k := by
        cases e : plc g L' 0 with
        | none => rw [plc_none.1 e] at ho; cases ho
        | some k => exact ⟨k, rfl⟩
      rw [hk] at pl1 pl2 pl3 ⊢
      obtain ⟨_, v', q1, q2, q3⟩ := plc_some hk
      rw [ho] at q2; cases q2
      rw [Nat.sub_zero] at q1
      have hkl : k < L'.length := (List.getElem?_eq_some_iff.1 q1).1
      have dk : decide ((k : Int) < 0) = false := decide_eq_false (by omega)
      have dk0 : decide ((0 : Int) ≤ (k : Int)) = true := decide_eq_true (by omega)
      have dk1 : decide ((k : Int) < ((L'.length : Nat) : Int)) = true := decide_eq_true (by omega)
      by_cases h0 : 0 ≤ now
      case neg =>
        simp only [decide_eq_false h0, br_false, br_true, Bool.false_and, Option.bind_some, plO, Sum.elim_inr, Sum.elim_inl, beqs, pl2, pl3, gl, dk, dk0, dk1, Bool.and_self, Int.toNat_natCast, q1, Option.getD_some, decide_true, Bool.not_true, hbo, tx, hget, ho, dpos]
        exact fin
      by_cases h1 : now ≤ 1099511627776
      case neg =>
        simp only [decide_eq_true h0, decide_eq_false h1, br_false, br_true, Bool.and_false, Option.bind_some, plO, Sum.elim_inr, Sum.elim_inl, beqs, pl2, pl3, gl, dk, dk0, dk1, Bool.and_self, Int.toNat_natCast, q1, Option.getD_some, decide_true, Bool.not_true, hbo, tx, hget, ho, dpos]
        exact fin
      simp only [decide_eq_true h0, decide_eq_true h1, br_false, br_true, Bool.and_self, Option.bind_some, plO, Sum.elim_inr, Sum.elim_inl, beqs, pl2, pl3, gl, dk, dk0, dk1, Int.toNat_natCast, q1, Option.getD_some, decide_true, Bool.not_true, hbo, tx, hget, ho, dpos]
      exact fin
  exact loop N 0 _ (by omega) ⟨[], [], [], rfl, Same.nil b, by simp⟩ (by omega)
end

theorem pureBackoffPlays (x : (Int × (Int × Int)) × List (Int × (ByteArray × Int)) × Unit) (hw : Ty.wf (.agg (.pair (.int .i64) (.pair (.int .i64) (.int .i64)))) x.1 ∧ Ty.wf (.slice (.agg (.pair (.int .i64) (.pair .str (.int .i64))))) x.2.1 ∧ True) : ∃ N, G_law24_BackoffPlays N x = some (true, ()) := by
  obtain ⟨⟨a, b, c⟩, sc, ⟨⟩⟩ := x
  have hsc : sc.length ≤ 140737488355328 := Nat.le_trans hw.2.1.1 reach_le
  clear hw
  refine ⟨281474976710656 + 300, ?_⟩
  have hk := known_is 281474976710656
  have hN := big
  generalize 281474976710656 + 300 = N at *
  unfold G_law24_BackoffPlays S_law24_BackoffPlays
  simp only [hk, Option.bind_some, time_is]
  have hbr : ∀ q : Bool, br q (some (true, ())) (some (true, ())) = (some (true, ()) : Option (Bool × Unit)) := fun q => by cases q <;> rfl
  simp only [hbr]
  by_cases h1 : a < 1
  · simp only [decide_eq_true h1, br_true]
  by_cases h2 : b < a
  · simp only [decide_eq_false h1, decide_eq_true h2, br_true, br_false]
  by_cases h3 : c < 1
  · simp only [decide_eq_false h1, decide_eq_false h2, decide_eq_true h3, br_true, br_false]
  simp only [decide_eq_false h1, decide_eq_false h2, decide_eq_false h3, br_false]
  have d0 : decide ((0 : Int) ≤ b) = true := decide_eq_true (by omega)
  have d1 : decide ((0 : Int) ≤ c) = true := decide_eq_true (by omega)
  simp only [d0, d1, br_true, Option.bind_some, Bool.true_and]
  by_cases h4 : b ≤ 1099511627776
  case neg => simp only [decide_eq_false h4, Bool.not_false, br_true]
  by_cases h5 : c ≤ 1099511627776
  case neg => simp only [decide_eq_true h4, decide_eq_false h5, Bool.not_true, Bool.not_false, br_true, br_false]
  simp only [decide_eq_true h4, decide_eq_true h5, Bool.not_true, br_false]
  obtain ⟨o, e, y, rfl⟩ := loop_is hN (a := a) (b := b) (c := c) (by omega) (by omega) h4 sc hsc
  rw [e]
  rfl
end Go.Proofs.Ytplgkdfmpbkfpaa.Bp
