/- Events, plainly. -/
import Derived.Test.YthmajioeldhngaaFndQu
namespace Go.Proofs.Ythmajioeldhngaa.Qu
open Go Go.VI
set_option linter.unusedVariables false
set_option linter.unusedSimpArgs false
set_option maxRecDepth 100000

abbrev Ev := Int × ByteArray × ByteArray × Int
abbrev bs (l : List UInt8) : ByteArray := ByteArray.mk (List.toArray l)
abbrev wUp := bs [117, 112]
abbrev wRaise := bs [114, 97, 105, 115, 101]
abbrev wFix := bs [102, 105, 120]
abbrev wDown := bs [100, 111, 119, 110]
abbrev wDelete := bs [100, 101, 108, 101, 116, 101]
abbrev wKeep := bs [107, 101, 101, 112]
abbrev wStop := bs [115, 116, 111, 112]
abbrev wGone := bs [103, 111, 110, 101]
abbrev wUnhealthy := bs [117, 110, 104, 101, 97, 108, 116, 104, 121]
def amB (l : List ByteArray) (s : ByteArray) : Bool := !l.all fun x => !decide (x = s)
theorem amB_iff {l : List ByteArray} {s : ByteArray} : amB l s = true ↔ s ∈ l := by
  unfold amB
  rw [Bool.not_eq_true', ← Bool.not_eq_true, List.all_eq_true]
  constructor
  · intro h
    refine Classical.byContradiction fun hn => h fun x hx => ?_
    simp only [Bool.not_eq_true', decide_eq_false_iff_not]
    exact fun e => hn (e ▸ hx)
  · intro h h'
    have := h' s h
    simp at this
/-- What kind of an event it is: 1 with a number, 2 with a name alone, 3 alone, 0 none. -/
def lCounts : List ByteArray := [wUp, wRaise, wFix]
def lNames : List ByteArray := [bs [99, 108, 101, 97, 110], bs [114, 101, 102, 117, 115, 101, 100], bs [104, 111, 112, 101, 108, 101, 115, 115], bs [101, 118, 105, 99, 116], wDelete, wKeep, wStop, wGone, wDown]
def lAlone : List ByteArray := [wUnhealthy]
def rightW (w : ByteArray → Bool) (e : Ev) : Bool := decide (0 ≤ e.1 ∧ e.1 ≤ 1099511627776) &&
  (if amB lCounts e.2.1 then w e.2.2.1 && decide (1 ≤ e.2.2.2 ∧ e.2.2.2 ≤ 200) else if amB lNames e.2.1 then w e.2.2.1 && decide (e.2.2.2 = 0) else amB lAlone e.2.1 && (decide (e.2.2.1 = bs []) && decide (e.2.2.2 = 0)))
abbrev Mp := List (ByteArray × Int)
def gt0 (es : Mp) (k : ByteArray) : Int := (mget Ty.str es k).getD 0
def canE (es : Mp) (e : Ev) : Option Mp :=
  if e.2.1 = wDown then (if gt0 es e.2.2.1 = 0 then some (mset Ty.str es e.2.2.1 (1 : Int)) else none)
  else if e.2.1 = wDelete then (if gt0 es e.2.2.1 = 1 then some (mset Ty.str es e.2.2.1 (2 : Int)) else none)
  else if e.2.1 = wKeep ∨ e.2.1 = wStop ∨ e.2.1 = wGone then (if 0 < gt0 es e.2.2.1 then some (mdel Ty.str es e.2.2.1) else none)
  else some es
def stpE (w : ByteArray → Bool) (s : Int × Mp) (e : Ev) : Option (Int × Mp) :=
  if rightW w e then (if e.1 < s.1 then none else (canE s.2 e).map fun es => (e.1, es)) else none
/-- The first event that can not be so. -/
def chk (w : ByteArray → Bool) : Int × Mp → List Ev → Nat → Int
  | _, [], _ => -1
  | s, e :: l, i => match stpE w s e with
    | none => i
    | some s' => chk w s' l (i + 1)
theorem chk_none {w : ByteArray → Bool} {s : Int × Mp} {e : Ev} {l : List Ev} {i : Nat} (h : stpE w s e = none) : chk w s (e :: l) i = (i : Int) := by
  unfold chk; rw [h]
theorem chk_some {w : ByteArray → Bool} {s s' : Int × Mp} {e : Ev} {l : List Ev} {i : Nat} (h : stpE w s e = some s') : chk w s (e :: l) i = chk w s' l (i + 1) := by
  conv => lhs; unfold chk
  rw [h]
theorem chk_bnd (w : ByteArray → Bool) : ∀ (l : List Ev) (s : Int × Mp) (i : Nat), chk w s l i = -1 ∨ ((i : Int) ≤ chk w s l i ∧ chk w s l i < (i : Int) + l.length)
  | [], s, i => .inl rfl
  | e :: l, s, i => by
    unfold chk
    split
    · right; rw [List.length_cons]; omega
    · rename_i s' _
      rcases chk_bnd w l s' (i + 1) with h | h
      · exact .inl h
      · right; rw [List.length_cons]; omega
theorem chk_app (w : ByteArray → Bool) (m : List Ev) : ∀ (l : List Ev) (s : Int × Mp) (i : Nat), chk w s (l ++ m) i = chk w s l i ∨ (chk w s l i = -1 ∧ (i : Int) + l.length ≤ chk w s (l ++ m) i)
  | [], s, i => by
    rcases chk_bnd w m s i with h | h
    · exact .inl h
    · right
      refine ⟨rfl, ?_⟩
      rw [List.nil_append, List.length_nil]; omega
  | e :: l, s, i => by
    rw [List.cons_append]
    unfold chk
    cases hs : stpE w s e with
    | none => exact .inl rfl
    | some s' =>
      dsimp only
      rcases chk_app w m l s' (i + 1) with h | ⟨h1, h2⟩
      · exact .inl h
      · right; rw [List.length_cons]; exact ⟨h1, by omega⟩
theorem chk_take (w : ByteArray → Bool) : ∀ (l : List Ev) (s : Int × Mp) (i n : Nat), n < l.length → chk w s l i = ((i + n : Nat) : Int) → chk w s (l.take n) i = -1 ∧ chk w s (l.take (n + 1)) i = ((i + n : Nat) : Int)
  | [], s, i, n, hn, _ => absurd hn (by simp)
  | e :: l, s, i, 0, hn, h => by
    refine ⟨rfl, ?_⟩
    rw [List.take_succ_cons, List.take_zero]
    unfold chk at h ⊢
    cases hs : stpE w s e with
    | none => rfl
    | some s' =>
      rw [hs] at h
      dsimp only at h
      rcases chk_bnd w l s' (i + 1) with h' | h' <;> omega
  | e :: l, s, i, n + 1, hn, h => by
    rw [List.take_succ_cons, List.take_succ_cons]
    unfold chk at h ⊢
    cases hs : stpE w s e with
    | none => rw [hs] at h; dsimp only at h; omega
    | some s' =>
      rw [hs] at h
      dsimp only at h ⊢
      have := chk_take w l s' (i + 1) n (by simpa using hn) (by rw [h]; congr 1; omega)
      rw [show i + 1 + n = i + (n + 1) by omega] at this
      exact this
end Go.Proofs.Ythmajioeldhngaa.Qu
