/- Caps: the document's room, and when the statement's guard lets in. -/
import Derived.Test.YtplgkdfmpbkfpaaCapsCa
namespace Go.Proofs.Ytplgkdfmpbkfpaa.Ca
open Go Go.VI
set_option linter.unusedVariables false
set_option maxRecDepth 100000

theorem ref23_Room_is (N : Nat) (hN : Big N) (c : Cap) (ms : List Mach) (h : okMs ms) (like : Mach) (hk : okR like.2.2.1) (n : Nat) (hn : (n : Int) ≤ 200 - (ms.length : Int)) (hm : ∀ k : Nat, 1 ≤ k → (More c ms like k ↔ k ≤ n)) :
    G_ref23_Room N (c, ms, like, ()) = some ((n : Int), ()) := by
  have hN' := hN
  unfold Big at hN'
  have loop : ∀ m (i : Nat) (x : (Int × Unit) × (Cap × Unit) × (Mach × Unit) × List Mach × Unit), i ≤ n → x = (((i : Int), ()), (c, ()), (like, ()), ms ++ List.replicate i like, ()) → n - i < m →
      Tot (g_ref23_Room_5 N m x) fun o => ∃ l, o = .inr (((n : Int), ()), (c, ()), (like, ()), l, ()) := by
    refine Tot.range n fun m i x ha hi rec => ?_
    subst ha
    rw [g_ref23_Room_5_succ]
    unfold s_ref23_Room_5
    have e : IntKind.i64.wrap ((i : Int) + 1) = ((i + 1 : Nat) : Int) := by rw [w64 (by omega) (by omega)]; omega
    dsimp only
    rw [e]
    have el : (ms ++ List.replicate i like) ++ [like] = ms ++ List.replicate (i + 1) like := by rw [List.append_assoc, ← List.replicate_succ']
    have ell : (ms ++ List.replicate (i + 1) like).length = ms.length + (i + 1) := by rw [List.length_append, List.length_replicate]
    have el' : (ms ++ List.replicate i like) ++ [(like.1, like.2.1, like.2.2.1, like.2.2.2.1, like.2.2.2.2.1, like.2.2.2.2.2)] = ms ++ List.replicate (i + 1) like := el
    rw [el', ell]
    have hlen : (ms ++ List.replicate i like).length = ms.length + i := by rw [List.length_append, List.length_replicate]
    rw [hlen]
    have hq := hm (i + 1) (by omega)
    unfold More at hq
    refine Tot.brN (fun _ => ?_) fun h => absurd (by unfold maxElems; omega) h
    refine Tot.brD (fun h1 => ?_) fun h1 => ?_
    · have : i = n := by
        have : ¬ i + 1 ≤ n := fun hh => by have := hq.2 hh; omega
        omega
      subst this
      exact Tot.some ⟨_, rfl⟩
    · refine Tot.bind (P := fun v => v = (decide (W c ((ms.length : Int) + ((i + 1 : Nat) : Int)) (cpuS ms + ((i + 1 : Nat) : Int) * like.2.2.1.1) (memS ms + ((i + 1 : Nat) : Int) * like.2.2.1.2.1)), ())) ⟨_, ?_, rfl⟩ fun v hv => ?_
      · rw [ref23_Within_is N hN c _ (okMs_more h hk (i + 1)) (by rw [ell]; omega), ell, cpuS_more, memS_more]
        congr 4
      · subst hv
        by_cases hw : W c ((ms.length : Int) + ((i + 1 : Nat) : Int)) (cpuS ms + ((i + 1 : Nat) : Int) * like.2.2.1.1) (memS ms + ((i + 1 : Nat) : Int) * like.2.2.1.2.1)
        · rw [decide_eq_true hw]
          have : i + 1 ≤ n := hq.1 ⟨by omega, hw⟩
          exact rec (i + 1) _ (by omega) (by omega) rfl
        · rw [decide_eq_false hw]
          have : i = n := by
            have : ¬ i + 1 ≤ n := fun hh => hw (hq.2 hh).2
            omega
          subst this
          exact Tot.some ⟨_, rfl⟩
  unfold G_ref23_Room S_ref23_Room
  obtain ⟨o, e, l, rfl⟩ := loop N 0 _ (by omega) rfl (by omega)
  rw [List.replicate_zero, List.append_nil] at e
  have e : g_ref23_Room_5 N N ((0, ()), (c, ()), (like, ()), [] ++ ms, ()) = some (.inr (((n : Int), ()), (c, ()), (like, ()), l, ())) := e
  have hb : Nat.ble (0 + ms.length) maxElems = true := Nat.ble_eq_true_of_le (by unfold maxElems; omega)
  dsimp only
  rw [hb, e]
  rfl

/-- What the guard lets in. -/
theorem right_tot (N : Nat) (hN : Big N) (c : Cap) (ms : List Mach) (like : Mach) (hms : ∀ m ∈ ms, okM m) (hlike : okM like) :
    Tot (G_law23_right N (c, ms, like, ())) fun v => v.1 = true → ms.length ≤ 30 ∧ okC c ∧ okMs ms ∧ okR like.2.2.1 := by
  have hN' := hN
  unfold Big at hN'
  unfold G_law23_right S_law23_right
  refine Tot.brD (fun _ => Tot.some fun h => by cases h) fun hl => ?_
  dsimp only at hl ⊢
  have loop : ∀ m (i : Nat) (x : (List Mach × Int × Unit) × Unit), i ≤ ms.length → (x = ((ms, (i : Int), ()), ()) ∧ okMs (ms.take i)) → ms.length - i < m →
      Tot (g_law23_right_4 N m x) fun o => (∃ y, o = .inl y ∧ okMs ms) ∨ ∃ z, o = .inr ((false, ()), z) := by
    refine Tot.range ms.length fun m i x ha hi rec => ?_
    obtain ⟨rfl, hok⟩ := ha
    rw [g_law23_right_4_succ]
    unfold s_law23_right_4
    have e : IntKind.i64.wrap ((i : Int) + 1) = ((i + 1 : Nat) : Int) := by rw [w64 (by omega) (by omega)]; omega
    dsimp only
    rw [e]
    refine Tot.brD (fun h1 => ?_) fun h1 => ?_
    · refine Tot.brD (fun _ => ?_) fun h => absurd (by omega) h
      refine Tot.idx (by omega) fun v hv => ?_
      refine Tot.bind (LightMachine_tot N hN v (hms v (List.mem_of_getElem? hv))) fun _ _ => Tot.br (fun _ => Tot.some (.inr ⟨_, rfl⟩)) fun _ => ?_
      refine Tot.brD (fun _ => ?_) fun h => absurd (by omega) h
      refine Tot.idx (by omega) fun v hv => ?_
      refine Tot.bind (RightMachine_tot N hN v (hms v (List.mem_of_getElem? hv))) fun u hu => Tot.br (fun _ => Tot.some (.inr ⟨_, rfl⟩)) fun hc => ?_
      refine rec (i + 1) _ (by omega) (by omega) ⟨rfl, ?_⟩
      have hv : ms[i]? = some v := by simpa using hv
      rw [List.take_add_one, hv]
      intro m hm
      rcases List.mem_append.1 hm with h | h
      · exact hok m h
      · obtain rfl : m = v := by simpa using h
        exact hu (by simpa using hc)
    · have : i = ms.length := by omega
      subst this
      rw [List.take_length] at hok
      exact Tot.some (.inl ⟨_, rfl, hok⟩)
  refine Tot.bind (P := fun v => v.1 = decide (okC c)) ⟨_, ref23_Right_is N c, rfl⟩ fun v hv => Tot.br (fun _ => Tot.some fun h => by cases h) fun hc => ?_
  have hC : okC c := by rw [hv] at hc; simpa using hc
  refine Tot.bind (LightMachine_tot N hN like hlike) fun _ _ => Tot.br (fun _ => Tot.some fun h => by cases h) fun _ => ?_
  refine Tot.bind (RightMachine_tot N hN like hlike) fun u hu => Tot.br (fun _ => Tot.some fun h => by cases h) fun hr => ?_
  refine Tot.bind (loop N 0 _ (by omega) ⟨rfl, fun m hm => by cases hm⟩ (by omega)) fun o ho => ?_
  rcases ho with ⟨y, rfl, hok⟩ | ⟨z, rfl⟩
  · exact Tot.some fun _ => ⟨by omega, hC, hok, hu (by simpa using hr)⟩
  · exact Tot.some fun h => by cases h

theorem known_is (m : Nat) : G_law23_known (m + 300) () = some (true, ()) := by kernel_rfl
end Go.Proofs.Ytplgkdfmpbkfpaa.Ca
