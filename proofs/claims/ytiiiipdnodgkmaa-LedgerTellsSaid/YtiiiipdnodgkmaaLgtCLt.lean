/- Machines: whether they are light is always told. -/
import Derived.Test.YtiiiipdnodgkmaaMacSLt
namespace Go.Proofs.Ytiiiipdnodgkmaa.Lt
open Go Go.VI
set_option linter.unusedVariables false
set_option maxRecDepth 100000

theorem ref05_Light_tot (N : Nat) (hN : Big N) (l : List (ByteArray × ByteArray)) (hl : okL l) : Tot (G_ref05_Light N (l, ())) fun _ => True := by
  unfold Big at hN; obtain ⟨h1, h2⟩ := hl
  have loop : ∀ m (i : Nat) (x : (List (ByteArray × ByteArray) × Int × Unit) × Unit), i ≤ l.length → x = ((l, (i : Int), ()), ()) → l.length - i < m → Tot (g_ref05_Light_4 N m x) fun _ => True := by
    refine Tot.range l.length fun m i x ha hi rec => ?_
    subst ha
    rw [g_ref05_Light_4_succ]
    unfold s_ref05_Light_4
    have e : IntKind.i64.wrap ((i : Int) + 1) = ((i + 1 : Nat) : Int) := by rw [w64 (by omega) (by omega)]; omega
    simp only [e]
    repeat' first
      | exact Tot.some trivial
      | exact rec (i + 1) _ (by omega) (by omega) rfl
      | (refine Tot.idx (by omega) fun v hv => ?_)
      | (refine Tot.brD (fun hc => ?_) (fun hc => ?_))
      | (exfalso; omega)
  unfold G_ref05_Light S_ref05_Light
  refine Tot.brD (fun _ => Tot.some trivial) fun _ => ?_
  refine Tot.bind (loop N 0 _ (by omega) rfl (by omega)) fun v _ => ?_
  exact Tot.elim (fun a _ => Tot.some trivial) fun b _ => Tot.some trivial

theorem ref06_Light_tot (N : Nat) (hN : Big N) (t : List (ByteArray × ByteArray × Bool × Int)) (l : List (ByteArray × ByteArray × Int)) (ht : t.length ≤ 140737488355328) (hl : l.length ≤ 140737488355328) : Tot (G_ref06_Light N (t, l, ())) fun _ => True := by
  unfold Big at hN
  have loop4 : ∀ m (i : Nat) (x : (List (ByteArray × ByteArray × Bool × Int) × List (ByteArray × ByteArray × Int) × Int × Unit) × Unit), i ≤ t.length → x = ((t, l, (i : Int), ()), ()) → t.length - i < m → Tot (g_ref06_Light_4 N m x) fun o => ∀ y, o = .inl y → y = ((l, ()), ()) := by
    refine Tot.range t.length fun m i x ha hi rec => ?_
    subst ha
    rw [g_ref06_Light_4_succ]
    unfold s_ref06_Light_4
    have e : IntKind.i64.wrap ((i : Int) + 1) = ((i + 1 : Nat) : Int) := by rw [w64 (by omega) (by omega)]; omega
    simp only [e]
    repeat' first
      | exact Tot.some fun y hy => by first | (cases hy; done) | (cases hy; rfl)
      | exact rec (i + 1) _ (by omega) (by omega) rfl
      | (refine Tot.idx (by omega) fun v hv => ?_)
      | (refine Tot.brD (fun hc => ?_) (fun hc => ?_))
      | (exfalso; omega)
  have loop9 : ∀ m (i : Nat) (x : (List (ByteArray × ByteArray × Int) × Int × Unit) × Unit), i ≤ l.length → x = ((l, (i : Int), ()), ()) → l.length - i < m → Tot (g_ref06_Light_9 N m x) fun _ => True := by
    refine Tot.range l.length fun m i x ha hi rec => ?_
    subst ha
    rw [g_ref06_Light_9_succ]
    unfold s_ref06_Light_9
    have e : IntKind.i64.wrap ((i : Int) + 1) = ((i + 1 : Nat) : Int) := by rw [w64 (by omega) (by omega)]; omega
    simp only [e]
    repeat' first
      | exact Tot.some trivial
      | exact rec (i + 1) _ (by omega) (by omega) rfl
      | (refine Tot.idx (by omega) fun v hv => ?_)
      | (refine Tot.brD (fun hc => ?_) (fun hc => ?_))
      | (exfalso; omega)
  unfold G_ref06_Light S_ref06_Light
  refine Tot.brD (fun _ => Tot.some trivial) fun _ => ?_
  refine Tot.brD (fun _ => Tot.some trivial) fun _ => ?_
  refine Tot.bind (loop4 N 0 _ (by omega) rfl (by omega)) fun v hv => ?_
  refine Tot.elim (fun a ha => ?_) fun b _ => Tot.some trivial
  rw [hv a ha]
  refine Tot.bind (loop9 N 0 _ (by omega) rfl (by omega)) fun v _ => ?_
  exact Tot.elim (fun a _ => Tot.some trivial) fun b _ => Tot.some trivial

theorem LightMachine_tot (N : Nat) (hN : Big N) (m : Mach) (hm : okM m) : Tot (G_ref07_LightMachine N (m, ())) fun v => True := by
  obtain ⟨h1, h2, h3, h4⟩ := hm
  unfold G_ref07_LightMachine S_ref07_LightMachine
  refine Tot.brD (fun _ => Tot.brD (fun _ => ?_) fun _ => Tot.some trivial) fun _ => Tot.some trivial
  refine Tot.bind (ref05_Light_tot N hN _ h3) fun v _ => Tot.br (fun _ => ?_) fun _ => Tot.some trivial
  exact Tot.bind (ref06_Light_tot N hN [] _ (Nat.zero_le _) h4.1) fun v _ => Tot.some trivial

@[reducible] def tyMach : Ty := (.agg (.pair .str (.pair .str (.pair (.agg (.pair (.int .i64) (.pair (.int .i64) (.pair (.int .i64) (.pair (.int .i64) (.int .i64)))))) (.pair (.slice (.agg (.pair .str .str))) (.pair (.slice (.agg (.pair .str (.pair .str (.int .i64))))) .bool))))))
theorem reach_le : reachBytes ≤ 140737488355328 := by decide
theorem okM_of {m : Mach} (h : Ty.wf tyMach m) : okM m := by
  have h : m.1.size ≤ reachBytes ∧ m.2.1.size ≤ reachBytes ∧ _ ∧ (m.2.2.2.1.length ≤ reachBytes ∧ ∀ x ∈ m.2.2.2.1, x.1.size ≤ reachBytes ∧ x.2.size ≤ reachBytes) ∧ (m.2.2.2.2.1.length ≤ reachBytes ∧ ∀ x ∈ m.2.2.2.2.1, x.1.size ≤ reachBytes ∧ x.2.1.size ≤ reachBytes ∧ _) ∧ _ := h
  obtain ⟨h1, h2, _, ⟨h3, h4⟩, ⟨h5, h6⟩, _⟩ := h
  have r := reach_le
  exact ⟨Nat.le_trans h1 r, Nat.le_trans h2 r, ⟨Nat.le_trans h3 r, fun x hx => ⟨Nat.le_trans (h4 x hx).1 r, Nat.le_trans (h4 x hx).2 r⟩⟩, ⟨Nat.le_trans h5 r, fun x hx => ⟨Nat.le_trans (h6 x hx).1 r, Nat.le_trans (h6 x hx).2.1 r⟩⟩⟩
end Go.Proofs.Ytiiiipdnodgkmaa.Lt
