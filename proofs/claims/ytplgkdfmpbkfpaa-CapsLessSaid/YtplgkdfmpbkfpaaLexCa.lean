/- Texts: what the document's words say is always there. -/
import Derived.Test.YtplgkdfmpbkfpaaGCa
import Derived.Test.YtplgkdfmpbkfpaaVIz
namespace Go.Proofs.Ytplgkdfmpbkfpaa.Ca
open Go Go.VI
set_option linter.unusedVariables false
set_option maxRecDepth 100000

theorem more_tot (N : Nat) (s : ByteArray) (i : Int) (h : 0 ≤ i) : ∃ b, G_ref01_more N (s, i, ()) = some (b, ()) ∧ (b = true → i < (s.size : Int)) := by
  have hs := size_list s
  have : Tot (G_ref01_more N (s, i, ())) fun v => v.1 = true → i < (s.size : Int) := by
    unfold G_ref01_more S_ref01_more
    dsimp only
    refine .brD (fun h1 => .brD (fun h2 => .idx (by rw [hs]; omega) fun v hv => .brD (fun h3 => .brD (fun h4 => .idx (by rw [hs]; omega) fun v hv => .some fun _ => h1) fun h4 => absurd h h4) fun _ => .some fun h => by cases h) fun h2 => absurd h h2) fun _ => .some fun h => by cases h
  obtain ⟨⟨b, ⟨⟩⟩, e, h⟩ := this
  exact ⟨b, e, h⟩

theorem Rune_tot (N : Nat) (s : ByteArray) (i : Int) (h0 : 0 ≤ i) (h1 : i < (s.size : Int)) (hb : (s.size : Int) ≤ 4611686018427387904) :
    Tot (G_ref01_Rune N (s, i, ())) fun v => 0 ≤ v.2.1 ∧ i + v.2.1 ≤ (s.size : Int) := by
  have hs := size_list s
  have e1 : IntKind.i64.wrap (i + 1) = i + 1 := w64 (by omega) (by omega)
  have e2 : IntKind.i64.wrap (i + 2) = i + 2 := w64 (by omega) (by omega)
  have e3 : IntKind.i64.wrap (i + 3) = i + 3 := w64 (by omega) (by omega)
  obtain ⟨b1, f1, k1⟩ := more_tot N s (i + 1) (by omega)
  obtain ⟨b2, f2, k2⟩ := more_tot N s (i + 2) (by omega)
  obtain ⟨b3, f3, k3⟩ := more_tot N s (i + 3) (by omega)
  unfold G_ref01_Rune S_ref01_Rune
  simp only [e1, e2, e3, f1, f2, f3, Option.bind_some]
  cases b1 <;> cases b2 <;> cases b3 <;> simp only [br_true, br_false, true_implies, Bool.false_eq_true, false_implies] at k1 k2 k3 ⊢ <;>
  repeat' first
    | exact Tot.some (by dsimp only; omega)
    | (refine Tot.idx (by omega) fun v _ => ?_)
    | (refine Tot.brD (fun hc => ?_) (fun hc => ?_))
    | (exfalso; omega)

/-- Rounds enough for whatever lies in memory. -/
def Big (N : Nat) : Prop := 281474976710656 ≤ N
def okS (s : ByteArray) : Prop := s.size ≤ 140737488355328

theorem plain_tot (N : Nat) (c : Int) : Tot (G_ref01_plain N (c, ())) fun _ => True := by
  unfold G_ref01_plain S_ref01_plain
  repeat' first
    | exact Tot.some trivial
    | (refine Tot.br (fun hc => ?_) (fun hc => ?_))

theorem Word_tot (N : Nat) (hN : Big N) (s : ByteArray) (hs : okS s) : Tot (G_ref01_Word N (s, ())) fun _ => True := by
  unfold Big at hN; unfold okS at hs
  have loop : ∀ m (i : Nat) (a : (ByteArray × Int × Int × Unit) × Unit), i ≤ s.size → (∃ n, a = ((s, n, (i : Int), ()), ())) → s.size - i < m → Tot (g_ref01_Word_3 N m a) fun _ => True := by
    refine Tot.range s.size fun m i a ha hi rec => ?_
    obtain ⟨n, rfl⟩ := ha
    rw [g_ref01_Word_3_succ]
    unfold s_ref01_Word_3
    dsimp only
    refine Tot.brD (fun h1 => ?_) fun _ => Tot.some trivial
    refine Tot.bind (Rune_tot N s i (by omega) h1 (by omega)) fun v hv => ?_
    refine Tot.brD (fun _ => Tot.some trivial) fun h2 => ?_
    refine Tot.bind (plain_tot N v.1) fun u _ => ?_
    refine Tot.br (fun _ => Tot.some trivial) fun h3 => ?_
    obtain ⟨c, w, ⟨⟩⟩ := v
    dsimp only at hv h2 ⊢
    have e : IntKind.i64.wrap ((i : Int) + w) = ((i + w.toNat : Nat) : Int) := by rw [w64 (by omega) (by omega)]; omega
    rw [e]
    exact rec _ _ (by omega) (by omega) ⟨_, rfl⟩
  unfold G_ref01_Word S_ref01_Word
  refine Tot.bind (loop N 0 _ (by omega) ⟨0, rfl⟩ (by omega)) fun v _ => ?_
  refine Tot.elim (fun a _ => ?_) fun b _ => Tot.some trivial
  exact Tot.brD (fun _ => Tot.some trivial) fun _ => Tot.some trivial

end Go.Proofs.Ytplgkdfmpbkfpaa.Ca
