/- BackoffApart: what the law computes is true. -/
import Derived.Test.YtplgkdfmpbkfpaaGBa
import Derived.Test.YtplgkdfmpbkfpaaVIz
namespace Go.Proofs.Ytplgkdfmpbkfpaa.Ba
open Go Go.VI
set_option linter.unusedVariables false
set_option linter.unusedSimpArgs false
set_option maxRecDepth 100000

theorem known_is (m : Nat) : G_law24_known (m + 300) () = some (true, ()) := by kernel_rfl
theorem keq_self (k : ByteArray) : Ty.str.keq k k = true := decide_eq_true (rfl : k = k)
theorem keq_ne {a b : ByteArray} (h : ¬ a = b) : Ty.str.keq a b = false := decide_eq_false h
theorem keq_eq' {a b : ByteArray} (h : Ty.str.keq a b = true) : a = b := of_decide_eq_true (p := a = b) h
theorem mget_mset {β : Type} (k : ByteArray) (v : β) : ∀ es : List (ByteArray × β), mget Ty.str (mset Ty.str es k v) k = some v
  | [] => by
    show br (Ty.str.keq k k) (some v) _ = _
    rw [keq_self]; rfl
  | e :: es => by
    show mget Ty.str (br (Ty.str.keq k e.1) ((k, v) :: es) (e :: mset Ty.str es k v)) k = _
    cases h : Ty.str.keq k e.1
    · show br (Ty.str.keq k e.1) (some e.2) (mget Ty.str (mset Ty.str es k v) k) = _
      rw [h]; exact mget_mset k v es
    · show br (Ty.str.keq k k) (some v) _ = _
      rw [keq_self]; rfl
theorem mget_other {β : Type} {k k' : ByteArray} (hk : ¬ k' = k) (v : β) : ∀ es : List (ByteArray × β), mget Ty.str (mset Ty.str es k v) k' = mget Ty.str es k'
  | [] => by
    show br (Ty.str.keq k' k) (some v) none = none
    rw [keq_ne hk]; rfl
  | e :: es => by
    show mget Ty.str (br (Ty.str.keq k e.1) ((k, v) :: es) (e :: mset Ty.str es k v)) k' = br (Ty.str.keq k' e.1) (some e.2) (mget Ty.str es k')
    cases h : Ty.str.keq k e.1
    · show br (Ty.str.keq k' e.1) (some e.2) (mget Ty.str (mset Ty.str es k v) k') = _
      rw [mget_other hk v es]
    · show br (Ty.str.keq k' k) (some v) (mget Ty.str es k') = _
      have := keq_eq' h
      rw [← this, keq_ne hk]; rfl
abbrev gk : ByteArray := ByteArray.mk (List.toArray [103])
abbrev Es := List (ByteArray × (Int × Int))
abbrev Op1 := Int × (ByteArray × Int)

theorem loop (N : Nat) (l : List Op1) (hl : l.length ≤ 281474976710656) :
    ∀ m (i : Nat) x, i ≤ l.length → (∃ (es es' : Es) (ord ord' : List ByteArray), x = ((l, (i : Int), ()), ord, es, ((1 : Int), (50 : Int), (20 : Int), ()), ord', es', ((1 : Int), (50 : Int), (20 : Int), ()), ()) ∧ mget Ty.str es' gk = mget Ty.str es gk ∧ ord.length ≤ i ∧ ord'.length ≤ i) → l.length - i < m →
    Tot (g_law24_BackoffApart_6 N m x) fun o => ∃ y, o = .inl y := by
  refine Tot.range _ fun m i x hx hi rec => ?_
  obtain ⟨es, es', ord, ord', rfl, he, h1, h2⟩ := hx
  rw [g_law24_BackoffApart_6_succ]
  unfold s_law24_BackoffApart_6
  have w1 : IntKind.i64.wrap ((i : Int) + 1) = ((i + 1 : Nat) : Int) := by rw [w64 (by omega) (by omega)]; omega
  have d1 : decide ((0 : Int) < 1) = true := by decide
  dsimp only
  simp only [w1, d1, br_true, br_false, Bool.not_true, Bool.not_false, Option.bind_some]
  refine Tot.brD (fun hlt => ?_) fun _ => Tot.some ⟨_, rfl⟩
  refine Tot.brD (fun h40 => ?_) fun _ => Tot.some ⟨_, rfl⟩
  refine Tot.brD (fun _ => ?_) fun h => absurd (by omega : (0 : Int) ≤ i) h
  refine Tot.idx (by omega) fun v hv => ?_
  obtain ⟨kd, k, t⟩ := v
  dsimp only
  have next : ∀ (e e' : Es) (o o' : List ByteArray), mget Ty.str e' gk = mget Ty.str e gk → o.length ≤ i + 1 → o'.length ≤ i + 1 → Tot (g_law24_BackoffApart_6 N m ((l, ((i + 1 : Nat) : Int), ()), o, e, ((1 : Int), (50 : Int), (20 : Int), ()), o', e', ((1 : Int), (50 : Int), (20 : Int), ()), ())) fun o => ∃ y, o = .inl y := fun e e' o o' q1 q2 q3 =>
    rec (i + 1) _ (by omega) (by omega) ⟨e, e', o, o', rfl, q1, q2, q3⟩
  refine Tot.brD (fun _ => next _ _ _ _ he (by omega) (by omega)) fun _ => ?_
  have hM1 : Nat.ble (ord.length + 1) maxElems = true := Nat.ble_eq_true_of_le (by unfold maxElems; omega)
  have hM2 : Nat.ble (ord'.length + 1) maxElems = true := Nat.ble_eq_true_of_le (by unfold maxElems; omega)
  have l1 : (ord ++ [k]).length ≤ i + 1 := by rw [List.length_append]; simp; omega
  have l2 : (ord' ++ [k]).length ≤ i + 1 := by rw [List.length_append]; simp; omega
  have time : ∃ b, br (decide ((0 : Int) ≤ t)) (some (decide (t ≤ (1099511627776 : Int)), ())) (some (false, ())) = some (b, ()) := by
    cases decide ((0 : Int) ≤ t) <;> exact ⟨_, rfl⟩
  obtain ⟨b, hb⟩ := time
  simp only [hb, Option.bind_some]
  cases b
  · -- no time: nothing is noted
    simp only [Bool.not_false, Bool.not_true, br_true, br_false, Option.bind_some, he, decide_true]
    refine Tot.brD (fun _ => ?_) fun _ => ?_ <;> exact next _ _ _ _ he (by omega) (by omega)
  · by_cases hk : k = gk
    · subst hk
      have dk : decide (gk = gk) = true := decide_eq_true rfl
      cases hg : mget Ty.str es gk with
      | none =>
        rw [hg] at he
        simp only [hg, he, dk, hM1, hM2, Option.isSome_none, Option.getD_none, Bool.not_false, Bool.not_true, br_true, br_false, Option.bind_some, mget_mset, Option.getD_some, decide_true]
        exact next _ _ _ _ (by rw [mget_mset, mget_mset]) l1 l2
      | some p =>
        rw [hg] at he
        cases hd : decide ((20 : Int) ≤ IntKind.i64.wrap (t - p.2)) <;>
          (simp only [hg, he, dk, hd, hM1, hM2, Option.isSome_some, Bool.not_false, Bool.not_true, br_true, br_false, Option.bind_some, mget_mset, Option.getD_some, decide_true]
           exact next _ _ _ _ (by rw [mget_mset, mget_mset]) (by omega) (by omega))
    · have dk : decide (k = gk) = false := decide_eq_false hk
      have hk' : ¬ gk = k := fun h => hk h.symm
      cases hg : mget Ty.str es k with
      | none =>
        simp only [hg, he, dk, hM1, hM2, Option.isSome_none, Option.getD_none, Bool.not_false, Bool.not_true, br_true, br_false, Option.bind_some, mget_other hk', Option.getD_some, decide_true]
        exact next _ _ _ _ (by rw [mget_other hk']; exact he) l1 (by omega)
      | some p =>
        cases hd : decide ((20 : Int) ≤ IntKind.i64.wrap (t - p.2)) <;>
          (simp only [hg, he, dk, hd, hM1, hM2, Option.isSome_some, Bool.not_false, Bool.not_true, br_true, br_false, Option.bind_some, mget_other hk', Option.getD_some, decide_true]
           exact next _ _ _ _ (by rw [mget_other hk']; exact he) (by omega) (by omega))

theorem pureBackoffApart (x : List Op1 × Unit) (hw : Ty.wf (.slice (.agg (.pair (.int .i64) (.pair .str (.int .i64))))) x.1 ∧ True) : ∃ N, G_law24_BackoffApart N x = some (true, ()) := by
  obtain ⟨l, ⟨⟩⟩ := x
  obtain ⟨⟨hl, _⟩, _⟩ := hw
  refine ⟨281474976710656 + 300, ?_⟩
  have hk := known_is 281474976710656
  have hN : 281474976710656 + 300 ≤ 281474976710656 + 300 := Nat.le_refl _
  generalize hNN : 281474976710656 + 300 = N at *
  unfold G_law24_BackoffApart S_law24_BackoffApart
  have hl' : l.length ≤ 281474976710656 := by
    have : l.length ≤ reachBytes := hl
    unfold reachBytes at this
    omega
  obtain ⟨o, eo, y, rfl⟩ := loop N l hl' N 0 ((l, ((0 : Nat) : Int), ()), [], [], ((1 : Int), (50 : Int), (20 : Int), ()), [], [], ((1 : Int), (50 : Int), (20 : Int), ()), ()) (by omega)
    ⟨[], [], [], [], rfl, rfl, by simp, by simp⟩ (by omega)
  have eo : g_law24_BackoffApart_6 N N ((l, 0, ()), [], [], ((1 : Int), (50 : Int), (20 : Int), ()), [], [], ((1 : Int), (50 : Int), (20 : Int), ()), ()) = _ := eo
  simp only [eo, Option.bind_some, Sum.elim_inl, hk]
end Go.Proofs.Ytplgkdfmpbkfpaa.Ba
