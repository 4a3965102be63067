/- Backoff: tables, plainly. -/
import Derived.Test.YtplgkdfmpbkfpaaBaseBp
namespace Go.Proofs.Ytplgkdfmpbkfpaa.Bp
open Go Go.VI
set_option linter.unusedVariables false
set_option linter.unusedSimpArgs false
set_option maxRecDepth 100000

abbrev Nt := ByteArray × (Int × Int)
abbrev keys (l : List Nt) : List ByteArray := l.map (·.1)
theorem mget_none {g : ByteArray} : ∀ {l : List Nt}, mget Ty.str l g = none ↔ g ∉ keys l
  | [] => by simp [mget, keys]
  | e :: l => by
    simp only [mget, keq_str, keys, List.map_cons, List.mem_cons, not_or]
    rw [br_dec]
    by_cases h : g = e.1
    · simp [h]
    · rw [if_neg h, mget_none]; simp [h, keys]
/-- A key's place. -/
def plc (g : ByteArray) : List Nt → Nat → Option Nat
  | [], _ => none
  | e :: l, i => if e.1 = g then some i else plc g l (i + 1)
theorem plc_none {g : ByteArray} : ∀ {l : List Nt} {i : Nat}, plc g l i = none ↔ mget Ty.str l g = none
  | [], i => by simp [plc, mget]
  | e :: l, i => by
    simp only [plc, mget, keq_str]
    rw [br_dec]
    by_cases h : e.1 = g
    · simp [h]
    · rw [if_neg h, if_neg (Ne.symm h)]; exact plc_none
theorem plc_some {g : ByteArray} : ∀ {l : List Nt} {i k : Nat}, plc g l i = some k → i ≤ k ∧ ∃ v, l[k - i]? = some (g, v) ∧ mget Ty.str l g = some v ∧ ∀ w, l.set (k - i) (g, w) = mset Ty.str l g w
  | [], i, k, h => by cases h
  | e :: l, i, k, h => by
    simp only [plc] at h
    by_cases he : e.1 = g
    · rw [if_pos he] at h
      cases h
      refine ⟨Nat.le_refl _, e.2, ?_, ?_, fun w => ?_⟩
      · rw [Nat.sub_self]; show some e = _; rw [← he]
      · simp only [mget, keq_str]; rw [br_dec, if_pos he.symm]
      · rw [Nat.sub_self]; simp only [mset, keq_str]; rw [br_dec, if_pos he.symm]; rfl
    · rw [if_neg he] at h
      obtain ⟨h1, v, h2, h3, h4⟩ := plc_some h
      have hk : k - i = (k - (i + 1)) + 1 := by omega
      refine ⟨by omega, v, by rw [hk]; exact h2, ?_, fun w => ?_⟩
      · simp only [mget, keq_str]; rw [br_dec, if_neg (Ne.symm he)]; exact h3
      · rw [hk, List.set_cons_succ, h4]; simp only [mset, keq_str]; rw [br_dec, if_neg (Ne.symm he)]
theorem mset_new {g : ByteArray} {w : Int × Int} : ∀ {l : List Nt}, mget Ty.str l g = none → mset Ty.str l g w = l ++ [(g, w)]
  | [], _ => rfl
  | e :: l, h => by
    simp only [mget, keq_str] at h
    rw [br_dec] at h
    by_cases he : g = e.1
    · rw [if_pos he] at h; cases h
    · rw [if_neg he] at h
      simp only [mset, keq_str]
      rw [br_dec, if_neg he, mset_new h]; rfl
theorem mget_some {g : ByteArray} {l : List Nt} (h : g ∈ keys l) : (mget Ty.str l g).isSome = true := by
  cases e : mget Ty.str l g with
  | none => exact absurd h (mget_none.1 e)
  | some => rfl
theorem keys_mset {g : ByteArray} {w : Int × Int} : ∀ {l : List Nt}, keys (mset Ty.str l g w) = br (mget Ty.str l g).isSome (keys l) (keys l ++ [g])
  | [] => rfl
  | e :: l => by
    simp only [mset, mget, keq_str]
    by_cases he : g = e.1
    · rw [decide_eq_true he]; simp [keys, he, br]
    · rw [decide_eq_false he]
      have := keys_mset (g := g) (w := w) (l := l)
      simp only [br_false]
      simp only [keys, List.map_cons] at this ⊢
      rw [this]
      cases (mget Ty.str l g).isSome <;> rfl
theorem nodup_mset {g : ByteArray} {w : Int × Int} {l : List Nt} (h : (keys l).Nodup) : (keys (mset Ty.str l g w)).Nodup := by
  rw [keys_mset]
  cases hg : (mget Ty.str l g).isSome
  · rw [br_false, List.nodup_append]
    exact ⟨h, by simp, fun a ha b hb e => by
      rw [List.mem_singleton.1 hb] at e
      have := mget_some (e ▸ ha)
      rw [hg] at this; cases this⟩
  · exact h
theorem mdel_filter {g : ByteArray} : ∀ {l : List Nt}, (keys l).Nodup → mdel Ty.str l g = l.filter fun e => !decide (e.1 = g)
  | [], _ => rfl
  | e :: l, h => by
    simp only [keys, List.map_cons, List.nodup_cons] at h
    simp only [mdel, keq_str]
    rw [br_dec, List.filter_cons]
    by_cases he : g = e.1
    · rw [if_pos he, if_neg (by simp [he])]
      refine (List.filter_eq_self.2 fun x hx => ?_).symm
      have : x.1 ≠ g := fun e' => h.1 (List.mem_map.2 ⟨x, hx, by rw [e', he]⟩)
      simp [this]
    · rw [if_neg he, if_pos (by simp [Ne.symm he]), mdel_filter h.2]
theorem mget_filter {g k : ByteArray} : ∀ {l : List Nt}, mget Ty.str (l.filter fun e => !decide (e.1 = g)) k = if k = g then none else mget Ty.str l k
  | [] => by simp [mget]
  | e :: l => by
    have ih := mget_filter (g := g) (k := k) (l := l)
    rw [List.filter_cons]
    by_cases he : e.1 = g
    · rw [if_neg (by simp [he]), ih]
      by_cases hk : k = g
      · rw [if_pos hk, if_pos hk]
      · rw [if_neg hk, if_neg hk]
        simp only [mget, keq_str]; rw [br_dec, if_neg (fun e' => hk (e'.trans he))]
    · rw [if_pos (by simp [he])]
      simp only [mget, keq_str]
      rw [br_dec, br_dec, ih]
      by_cases hk : k = e.1
      · rw [if_pos hk, if_pos hk, if_neg (fun e' => he (hk.symm.trans e'))]
      · rw [if_neg hk, if_neg hk]
theorem keys_filter {g : ByteArray} (l : List Nt) : keys (l.filter fun e => !decide (e.1 = g)) = (keys l).filter fun x => !decide (x = g) := by
  induction l with
  | nil => rfl
  | cons e l ih =>
    simp only [keys, List.filter_cons, List.map_cons] at ih ⊢
    split <;> simp only [List.map_cons, ih]
theorem cut_filter {g : ByteArray} : ∀ {l : List ByteArray} {i : Nat}, l.Nodup → l[i]? = some g → l.take i ++ l.drop (i + 1) = l.filter fun x => !decide (x = g)
  | [], i, _, h => by simp at h
  | e :: l, 0, hn, h => by
    have h : e = g := by simpa using h
    subst h
    rw [List.nodup_cons] at hn
    rw [List.filter_cons, if_neg (by simp)]
    refine (List.filter_eq_self.2 fun x hx => ?_).symm
    have hx : x ∈ l := by simpa using hx
    have : x ≠ e := fun e' => hn.1 (e' ▸ hx)
    simp [this]
  | e :: l, i + 1, hn, h => by
    rw [List.nodup_cons] at hn
    have h : l[i]? = some g := h
    have hne : e ≠ g := fun e' => hn.1 (by rw [e']; exact List.mem_of_getElem? h)
    rw [List.filter_cons, if_pos (by simp [hne]), ← cut_filter hn.2 h]
    rfl

/-- What is noted of a group lies within bounds. -/
def okNt (b : Int) (v : Int × Int) : Prop := 0 ≤ v.1 ∧ v.1 ≤ b ∧ 0 ≤ v.2 ∧ v.2 ≤ 2199023255552
/-- The program's table, and the document's. -/
structure Same (b : Int) (es : List Nt) (ord : List ByteArray) (L : List Nt) : Prop where
  get : ∀ g, mget Ty.str es g = mget Ty.str L g
  ord : ord = keys L
  nd : (keys L).Nodup
  nde : (keys es).Nodup
  ok : ∀ g v, mget Ty.str L g = some v → okNt b v
theorem Same.nil (b : Int) : Same b [] [] [] := ⟨fun _ => rfl, rfl, .nil, .nil, fun g v h => by cases h⟩
theorem Same.set {b : Int} {es L : List Nt} {ord : List ByteArray} (h : Same b es ord L) {g : ByteArray} {v : Int × Int} (hv : okNt b v) :
    Same b (mset Ty.str es g v) (br (mget Ty.str L g).isSome ord (ord ++ [g])) (mset Ty.str L g v) := by
  refine ⟨fun k => by rw [mget_mset_str, mget_mset_str, h.get], ?_, nodup_mset h.nd, nodup_mset h.nde, fun k w hw => ?_⟩
  · rw [keys_mset, h.ord]
  · rw [mget_mset_str] at hw
    split at hw
    · cases hw; exact hv
    · exact h.ok k w hw
theorem Same.del {b : Int} {es L : List Nt} {ord : List ByteArray} (h : Same b es ord L) (g : ByteArray) :
    Same b (mdel Ty.str es g) (ord.filter fun x => !decide (x = g)) (L.filter fun e => !decide (e.1 = g)) := by
  refine ⟨fun k => by rw [mdel_filter h.nde, mget_filter, mget_filter, h.get], by rw [keys_filter, h.ord], by rw [keys_filter]; exact h.nd.filter _, by rw [mdel_filter h.nde, keys_filter]; exact h.nde.filter _, fun k v hv => ?_⟩
  rw [mget_filter] at hv
  split at hv
  · cases hv
  · exact h.ok k v hv
end Go.Proofs.Ytplgkdfmpbkfpaa.Bp
