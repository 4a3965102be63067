/- Labels, taints, machines: whether they are right is always told. -/
import Derived.Test.YtplgkdfmpbkfpaaLexCa
namespace Go.Proofs.Ytplgkdfmpbkfpaa.Ca
open Go Go.VI
set_option linter.unusedVariables false
set_option maxRecDepth 100000

def okL (l : List (ByteArray × ByteArray)) : Prop := l.length ≤ 140737488355328 ∧ ∀ x ∈ l, okS x.1 ∧ okS x.2
def okT (l : List (ByteArray × ByteArray × Int)) : Prop := l.length ≤ 140737488355328 ∧ ∀ x ∈ l, okS x.1 ∧ okS x.2.1
theorem okS_of {s : ByteArray} (h : Ty.wf .str s) : okS s := Nat.le_trans h (by decide)

theorem ref05_maybe_tot (N : Nat) (hN : Big N) (s : ByteArray) (hs : okS s) : Tot (G_ref05_maybe N (s, ())) fun _ => True := by
  unfold G_ref05_maybe S_ref05_maybe
  exact Tot.brD (fun _ => Tot.some trivial) fun _ => Tot.bind (Word_tot N hN s hs) fun _ _ => Tot.some trivial

theorem ref06_maybe_tot (N : Nat) (hN : Big N) (s : ByteArray) (hs : okS s) : Tot (G_ref06_maybe N (s, ())) fun _ => True := by
  unfold G_ref06_maybe S_ref06_maybe
  exact Tot.brD (fun _ => Tot.some trivial) fun _ => Tot.bind (Word_tot N hN s hs) fun _ _ => Tot.some trivial

theorem ref07_maybe_tot (N : Nat) (hN : Big N) (s : ByteArray) (hs : okS s) : Tot (G_ref07_maybe N (s, ())) fun _ => True := by
  unfold G_ref07_maybe S_ref07_maybe
  exact Tot.brD (fun _ => Tot.some trivial) fun _ => Tot.bind (Word_tot N hN s hs) fun _ _ => Tot.some trivial

theorem Less_tot (N : Nat) (hN : Big N) (a b : ByteArray) (ha : okS a) (hb : okS b) : Tot (G_ref05_Less N (a, b, ())) fun _ => True := by
  unfold Big at hN; unfold okS at ha hb
  have sa := size_list a
  have sb := size_list b
  have loop : ∀ m (i : Nat) (x : (ByteArray × ByteArray × Int × Unit) × Unit), i ≤ a.size → x = ((a, b, (i : Int), ()), ()) → a.size - i < m → Tot (g_ref05_Less_2 N m x) fun _ => True := by
    refine Tot.range a.size fun m i x ha hi rec => ?_
    subst ha
    rw [g_ref05_Less_2_succ]
    unfold s_ref05_Less_2
    have e : IntKind.i64.wrap ((i : Int) + 1) = ((i + 1 : Nat) : Int) := by rw [w64 (by omega) (by omega)]; omega
    simp only [e]
    repeat' first
      | exact Tot.some trivial
      | exact rec (i + 1) _ (by omega) (by omega) rfl
      | (refine Tot.idx (by omega) fun v _ => ?_)
      | (refine Tot.brD (fun hc => ?_) (fun hc => ?_))
      | (refine Tot.br (fun hc => ?_) (fun hc => ?_))
      | (exfalso; omega)
  unfold G_ref05_Less S_ref05_Less
  refine Tot.bind (loop N 0 _ (by omega) rfl (by omega)) fun v _ => ?_
  exact Tot.elim (fun a _ => Tot.some trivial) fun b _ => Tot.some trivial

theorem ref05_Right_tot (N : Nat) (hN : Big N) (l : List (ByteArray × ByteArray)) (hl : okL l) : Tot (G_ref05_Right N (l, ())) fun _ => True := by
  have hN' := hN
  unfold Big at hN'; obtain ⟨h1, h2⟩ := hl
  have loop : ∀ m (i : Nat) (x : (List (ByteArray × ByteArray) × Int × Unit) × Unit), i ≤ l.length → x = ((l, (i : Int), ()), ()) → l.length - i < m → Tot (g_ref05_Right_4 N m x) fun _ => True := by
    refine Tot.range l.length fun m i x ha hi rec => ?_
    subst ha
    rw [g_ref05_Right_4_succ]
    unfold s_ref05_Right_4
    have e : IntKind.i64.wrap ((i : Int) + 1) = ((i + 1 : Nat) : Int) := by rw [w64 (by omega) (by omega)]; omega
    have e' : IntKind.i64.wrap ((i : Int) - 1) = (i : Int) - 1 := w64 (by omega) (by omega)
    simp only [e, e']
    repeat' first
      | exact Tot.some trivial
      | exact rec (i + 1) _ (by omega) (by omega) rfl
      | (refine Tot.idx (by omega) fun v hv => ?_; have := h2 _ (List.mem_of_getElem? hv))
      | (refine Tot.bind (Word_tot N hN _ (by simp_all)) fun v _ => ?_)
      | (refine Tot.bind (ref05_maybe_tot N hN _ (by simp_all)) fun v _ => ?_)
      | (refine Tot.bind (Less_tot N hN _ _ (by simp_all) (by simp_all)) fun v _ => ?_)
      | (refine Tot.brD (fun hc => ?_) (fun hc => ?_))
      | (refine Tot.br (fun hc => ?_) (fun hc => ?_))
      | (exfalso; omega)
  unfold G_ref05_Right S_ref05_Right
  refine Tot.brD (fun _ => Tot.some trivial) fun _ => ?_
  refine Tot.bind (loop N 0 _ (by omega) rfl (by omega)) fun v _ => ?_
  exact Tot.elim (fun a _ => Tot.some trivial) fun b _ => Tot.some trivial

theorem ref06_Right_tot (N : Nat) (hN : Big N) (l : List (ByteArray × ByteArray × Int)) (hl : okT l) : Tot (G_ref06_Right N (l, ())) fun _ => True := by
  have hN' := hN
  unfold Big at hN'; obtain ⟨h1, h2⟩ := hl
  have inner : ∀ (k : Nat), k < l.length → ∀ m (i : Nat) (x : (List (ByteArray × ByteArray × Int) × Int × Int × Unit) × Unit), i ≤ k → x = ((l, (k : Int), (i : Int), ()), ()) → k - i < m → Tot (g_ref06_Right_9 N m x) fun o => ∀ y, o = .inl y → y = ((l, (k : Int), ()), ()) := by
    intro k hk
    refine Tot.range k fun m i x ha hi rec => ?_
    subst ha
    rw [g_ref06_Right_9_succ]
    unfold s_ref06_Right_9
    have e : IntKind.i64.wrap ((i : Int) + 1) = ((i + 1 : Nat) : Int) := by rw [w64 (by omega) (by omega)]; omega
    simp only [e]
    · repeat' first
        | exact Tot.some fun y hy => by first | (cases hy; done) | (cases hy; rfl)
        | exact rec (i + 1) _ (by omega) (by omega) rfl
        | (refine Tot.idx (by omega) fun v hv => ?_)
        | (refine Tot.brD (fun hc => ?_) (fun hc => ?_))
        | (refine Tot.br (fun hc => ?_) (fun hc => ?_))
        | (exfalso; omega)
  have loop : ∀ m (i : Nat) (x : (List (ByteArray × ByteArray × Int) × Int × Unit) × Unit), i ≤ l.length → x = ((l, (i : Int), ()), ()) → l.length - i < m → Tot (g_ref06_Right_4 N m x) fun _ => True := by
    refine Tot.range l.length fun m i x ha hi rec => ?_
    subst ha
    rw [g_ref06_Right_4_succ]
    unfold s_ref06_Right_4
    dsimp only
    have e : IntKind.i64.wrap ((i : Int) + 1) = ((i + 1 : Nat) : Int) := by rw [w64 (by omega) (by omega)]; omega
    repeat' first
      | exact Tot.some trivial
      | (refine Tot.bind (inner i (by omega) N 0 _ (by omega) rfl (by omega)) fun v hv => Tot.elim (fun a ha => ?_) fun b hb => Tot.some trivial)
      | (refine Tot.idx (by omega) fun v hv => ?_; have := h2 _ (List.mem_of_getElem? hv))
      | (refine Tot.bind (Word_tot N hN _ (by simp_all)) fun v _ => ?_)
      | (refine Tot.bind (ref06_maybe_tot N hN _ (by simp_all)) fun v _ => ?_)
      | (refine Tot.bind (P := fun _ => True) (by unfold G_ref06_effect S_ref06_effect; exact Tot.brD (fun _ => Tot.some trivial) fun _ => Tot.some trivial) fun v _ => ?_)
      | (refine Tot.brD (fun hc => ?_) (fun hc => ?_))
      | (refine Tot.br (fun hc => ?_) (fun hc => ?_))
      | (rw [hv _ ha]; dsimp only; rw [e]; exact rec (i + 1) _ (by omega) (by omega) rfl)
      | (exfalso; omega)
  unfold G_ref06_Right S_ref06_Right
  refine Tot.brD (fun _ => Tot.some trivial) fun _ => ?_
  refine Tot.bind (loop N 0 _ (by omega) rfl (by omega)) fun v _ => ?_
  exact Tot.elim (fun a _ => Tot.some trivial) fun b _ => Tot.some trivial

theorem ref05_Light_tot (N : Nat) (hN : Big N) (l : List (ByteArray × ByteArray)) (hl : okL l) : Tot (G_ref05_Light N (l, ())) fun _ => True := by
  unfold Big at hN; obtain ⟨h1, h2⟩ := hl
  have loop : ∀ m (i : Nat) (x : (List (ByteArray × ByteArray) × Int × Unit) × Unit), i ≤ l.length → x = ((l, (i : Int), ()), ()) → l.length - i < m → Tot (g_ref05_Light_4 N m x) fun _ => True := by
    refine Tot.range l.length fun m i x ha hi rec => ?_
    subst ha
    rw [g_ref05_Light_4_succ]
    unfold s_ref05_Light_4
    have e : IntKind.i64.wrap ((i : Int) + 1) = ((i + 1 : Nat) : Int) := by rw [w64 (by omega) (by omega)]; omega
    simp only [e]
    repeat' first
      | exact Tot.some trivial
      | exact rec (i + 1) _ (by omega) (by omega) rfl
      | (refine Tot.idx (by omega) fun v hv => ?_)
      | (refine Tot.brD (fun hc => ?_) (fun hc => ?_))
      | (exfalso; omega)
  unfold G_ref05_Light S_ref05_Light
  refine Tot.brD (fun _ => Tot.some trivial) fun _ => ?_
  refine Tot.bind (loop N 0 _ (by omega) rfl (by omega)) fun v _ => ?_
  exact Tot.elim (fun a _ => Tot.some trivial) fun b _ => Tot.some trivial

theorem ref06_Light_tot (N : Nat) (hN : Big N) (t : List (ByteArray × ByteArray × Bool × Int)) (l : List (ByteArray × ByteArray × Int)) (ht : t.length ≤ 140737488355328) (hl : l.length ≤ 140737488355328) : Tot (G_ref06_Light N (t, l, ())) fun _ => True := by
  unfold Big at hN
  have loop4 : ∀ m (i : Nat) (x : (List (ByteArray × ByteArray × Bool × Int) × List (ByteArray × ByteArray × Int) × Int × Unit) × Unit), i ≤ t.length → x = ((t, l, (i : Int), ()), ()) → t.length - i < m → Tot (g_ref06_Light_4 N m x) fun o => ∀ y, o = .inl y → y = ((l, ()), ()) := by
    refine Tot.range t.length fun m i x ha hi rec => ?_
    subst ha
    rw [g_ref06_Light_4_succ]
    unfold s_ref06_Light_4
    have e : IntKind.i64.wrap ((i : Int) + 1) = ((i + 1 : Nat) : Int) := by rw [w64 (by omega) (by omega)]; omega
    simp only [e]
    repeat' first
      | exact Tot.some fun y hy => by first | (cases hy; done) | (cases hy; rfl)
      | exact rec (i + 1) _ (by omega) (by omega) rfl
      | (refine Tot.idx (by omega) fun v hv => ?_)
      | (refine Tot.brD (fun hc => ?_) (fun hc => ?_))
      | (exfalso; omega)
  have loop9 : ∀ m (i : Nat) (x : (List (ByteArray × ByteArray × Int) × Int × Unit) × Unit), i ≤ l.length → x = ((l, (i : Int), ()), ()) → l.length - i < m → Tot (g_ref06_Light_9 N m x) fun _ => True := by
    refine Tot.range l.length fun m i x ha hi rec => ?_
    subst ha
    rw [g_ref06_Light_9_succ]
    unfold s_ref06_Light_9
    have e : IntKind.i64.wrap ((i : Int) + 1) = ((i + 1 : Nat) : Int) := by rw [w64 (by omega) (by omega)]; omega
    simp only [e]
    repeat' first
      | exact Tot.some trivial
      | exact rec (i + 1) _ (by omega) (by omega) rfl
      | (refine Tot.idx (by omega) fun v hv => ?_)
      | (refine Tot.brD (fun hc => ?_) (fun hc => ?_))
      | (exfalso; omega)
  unfold G_ref06_Light S_ref06_Light
  refine Tot.brD (fun _ => Tot.some trivial) fun _ => ?_
  refine Tot.brD (fun _ => Tot.some trivial) fun _ => ?_
  refine Tot.bind (loop4 N 0 _ (by omega) rfl (by omega)) fun v hv => ?_
  refine Tot.elim (fun a ha => ?_) fun b _ => Tot.some trivial
  rw [hv a ha]
  refine Tot.bind (loop9 N 0 _ (by omega) rfl (by omega)) fun v _ => ?_
  exact Tot.elim (fun a _ => Tot.some trivial) fun b _ => Tot.some trivial

abbrev Res := Int × Int × Int × Int × Int
/-- A resource's amounts. -/
def okR (a : Res) : Prop := (0 ≤ a.1 ∧ a.1 ≤ 1125899906842624) ∧ (0 ≤ a.2.1 ∧ a.2.1 ≤ 1125899906842624) ∧ (0 ≤ a.2.2.1 ∧ a.2.2.1 ≤ 1125899906842624) ∧ (0 ≤ a.2.2.2.1 ∧ a.2.2.2.1 ≤ 1125899906842624) ∧ (0 ≤ a.2.2.2.2 ∧ a.2.2.2.2 ≤ 1125899906842624)
instance (a : Res) : Decidable (okR a) := by unfold okR; infer_instance
theorem ref04_one_is (N : Nat) (n : Int) : G_ref04_one N (n, ()) = some (decide (0 ≤ n ∧ n ≤ 1125899906842624), ()) := by
  unfold G_ref04_one S_ref04_one
  dsimp only
  by_cases h : 0 ≤ n <;> simp [h, br]
theorem ref04_Right_is (N : Nat) (a : Res) : G_ref04_Right N (a, ()) = some (decide (okR a), ()) := by
  unfold G_ref04_Right S_ref04_Right
  simp only [ref04_one_is, Option.bind_some, okR]
  obtain ⟨a, b, c, d, e⟩ := a
  dsimp only
  by_cases h1 : 0 ≤ a ∧ a ≤ 1125899906842624 <;> by_cases h2 : 0 ≤ b ∧ b ≤ 1125899906842624 <;> by_cases h3 : 0 ≤ c ∧ c ≤ 1125899906842624 <;> by_cases h4 : 0 ≤ d ∧ d ≤ 1125899906842624 <;> simp [h1, h2, h3, h4, br]
end Go.Proofs.Ytplgkdfmpbkfpaa.Ca
