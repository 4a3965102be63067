/- Right groups, plainly; states. -/
import Derived.Test.YtknbdjkbaimelaaCapWPe
namespace Go.Proofs.Ytknbdjkbaimelaa.Pe
open Go Go.VI
set_option linter.unusedVariables false
set_option linter.unusedSimpArgs false
set_option maxRecDepth 100000

/-- What is known of a right group. -/
def facG (g : Grp) : Prop := okR g.2.2.2.1.2.2.1 ∧ g.2.2.2.1.2.2.2.1.length ≤ 16 ∧ g.2.2.2.1.2.2.2.2.1.length ≤ 16 ∧ (1 ≤ g.2.2.1 ∧ g.2.2.1 ≤ 200) ∧ (0 ≤ g.2.1 ∧ g.2.1 ≤ g.2.2.1)
theorem facG_of {N : Nat} {g : Grp} (h : rightG N g = true) : facG g := by
  unfold rightG rightM inB at h
  simp only [Bool.and_eq_true, decide_eq_true_eq] at h
  obtain ⟨_, h1, h2, _, _, ⟨_, _, h3, h4, h5⟩, _⟩ := h
  refine ⟨okR_of h3, ?_, ?_, h1, h2⟩
  · unfold rightL at h4
    rw [Bool.and_eq_true, decide_eq_true_eq] at h4
    exact h4.1
  · unfold rightT at h5
    rw [Bool.and_eq_true, decide_eq_true_eq] at h5
    exact h5.1
theorem facGs {N : Nat} {l : List Grp} (h : rightGs N l = true) : l.length ≤ 16 ∧ ∀ g ∈ l, facG g := by
  unfold rightGs at h
  rw [Bool.and_eq_true, decide_eq_true_eq, allN_iff] at h
  refine ⟨h.1, fun g hg => ?_⟩
  obtain ⟨i, hi, rfl⟩ := List.mem_iff_getElem.1 hg
  have := h.2 i (by omega) (by omega)
  unfold okGr at this
  rw [at_lt hi] at this
  simp only [Bool.and_eq_true] at this
  exact facG_of this.1
theorem fndF_lt {name : ByteArray} : ∀ (l : List Grp) (i : Nat), fndF name l i = -1 ∨ ((i : Int) ≤ fndF name l i ∧ fndF name l i < (i + l.length : Nat))
  | [], i => .inl rfl
  | g :: l, i => by
    simp only [fndF]
    split
    · right; rw [List.length_cons]; omega
    · rcases fndF_lt (name := name) l (i + 1) with h | h
      · exact .inl h
      · right; rw [List.length_cons]; omega
theorem fnd_lt (l : List Grp) (name : ByteArray) : fnd l name = -1 ∨ ∃ k : Nat, fnd l name = (k : Int) ∧ k < l.length := by
  rcases fndF_lt (name := name) l 0 with h | h
  · exact .inl h
  · right
    refine ⟨(fnd l name).toNat, ?_, ?_⟩
    · unfold fnd; omega
    · unfold fnd; omega
abbrev Inst := ByteArray × ByteArray × Int × Int × Int
abbrev Stt := List Grp × List Int × List Inst × Cap × List ByteArray × Int × Int
abbrev Call := ByteArray × ByteArray × Int
/-- A state that is right. -/
structure Good (s : Stt) : Prop where
  gl : s.1.length ≤ 16
  gf : ∀ g ∈ s.1, facG g
  tl : s.2.1.length = s.1.length
  tb : ∀ (i : Nat) (g : Grp) (t : Int), s.1[i]? = some g → s.2.1[i]? = some t → g.2.1 ≤ t ∧ t ≤ g.2.2.1
  il : s.2.2.1.length ≤ 60
  cp : okC s.2.2.2.1
  rl : s.2.2.2.2.1.length ≤ 20
end Go.Proofs.Ytknbdjkbaimelaa.Pe
