/- Caps: whether machines are within. -/
import Derived.Test.YtknbdjkbaimelaaGrpPPe
import Derived.Test.YtknbdjkbaimelaaFndPe
namespace Go.Proofs.Ytknbdjkbaimelaa.Pe
open Go Go.VI
set_option linter.unusedVariables false
set_option linter.unusedSimpArgs false
set_option maxRecDepth 100000

def okR (a : Res) : Prop := (0 ≤ a.1 ∧ a.1 ≤ 1125899906842624) ∧ (0 ≤ a.2.1 ∧ a.2.1 ≤ 1125899906842624) ∧ (0 ≤ a.2.2.1 ∧ a.2.2.1 ≤ 1125899906842624) ∧ (0 ≤ a.2.2.2.1 ∧ a.2.2.2.1 ≤ 1125899906842624) ∧ (0 ≤ a.2.2.2.2 ∧ a.2.2.2.2 ≤ 1125899906842624)
theorem okR_of {a : Res} (h : resB a = true) : okR a := by
  unfold resB okB at h
  simp only [Bool.and_eq_true, decide_eq_true_eq] at h
  exact ⟨h.1, h.2.1, h.2.2.1, h.2.2.2.1, h.2.2.2.2⟩
abbrev Cap := Int × Int × Int
def okC (c : Cap) : Prop := (0 ≤ c.1 ∧ c.1 ≤ 288230376151711744) ∧ (0 ≤ c.2.1 ∧ c.2.1 ≤ 288230376151711744) ∧ (0 ≤ c.2.2 ∧ c.2.2 ≤ 288230376151711744)
instance (c : Cap) : Decidable (okC c) := by unfold okC; infer_instance
def cpuS (l : List Mach) : Int := (l.map fun m => m.2.2.1.1).sum
def memS (l : List Mach) : Int := (l.map fun m => m.2.2.1.2.1).sum
def okMs (l : List Mach) : Prop := ∀ m ∈ l, okR m.2.2.1

theorem sums_le : ∀ {l : List Mach}, okMs l → (0 ≤ cpuS l ∧ cpuS l ≤ l.length * 1125899906842624) ∧ (0 ≤ memS l ∧ memS l ≤ l.length * 1125899906842624)
  | [], _ => by simp [cpuS, memS]
  | m :: l, h => by
    have h1 := sums_le (l := l) fun x hx => h x (List.mem_cons_of_mem _ hx)
    obtain ⟨h2, h3, _⟩ := h m List.mem_cons_self
    simp only [cpuS, memS, List.map_cons, List.sum_cons, List.length_cons] at *
    omega
theorem sums_succ {l : List Mach} {i : Nat} {m : Mach} (h : l[i]? = some m) : cpuS (l.take (i + 1)) = cpuS (l.take i) + m.2.2.1.1 ∧ memS (l.take (i + 1)) = memS (l.take i) + m.2.2.1.2.1 := by
  unfold cpuS memS
  rw [List.take_add_one, h]
  simp
theorem okMs_take {l : List Mach} (h : okMs l) (i : Nat) : okMs (l.take i) := fun m hm => h m (List.mem_of_mem_take hm)

theorem ref23_Right_is (N : Nat) (c : Cap) : G_ref23_Right N (c, ()) = some (decide (okC c), ()) := by
  have one : ∀ n : Int, G_ref23_one N (n, ()) = some (decide (0 ≤ n ∧ n ≤ 288230376151711744), ()) := fun n => by
    unfold G_ref23_one S_ref23_one
    dsimp only
    by_cases h : 0 ≤ n <;> simp [h, br]
  unfold G_ref23_Right S_ref23_Right okC
  obtain ⟨a, b, d⟩ := c
  simp only [one, Option.bind_some]
  by_cases h1 : 0 ≤ a ∧ a ≤ 288230376151711744 <;> by_cases h2 : 0 ≤ b ∧ b ≤ 288230376151711744 <;> simp [h1, h2, br]

theorem caps_sum_is (N : Nat) (hN : Big N) (ms : List Mach) (h : okMs ms) (hl : ms.length ≤ 300) : G_caps_sum N (ms, ()) = some (((ms.length : Int), cpuS ms, memS ms), ()) := by
  unfold Big at hN
  have loop : ∀ m (i : Nat) (x : ((List Mach) × Int × Int × Unit) × ((Int × Int × Int) × Unit) × ((Int × Int × Int) × Unit) × Unit), i ≤ ms.length → x = ((ms, (ms.length : Int), (i : Int), ()), ((0, 0, 0), ()), (((i : Int), cpuS (ms.take i), memS (ms.take i)), ()), ()) → ms.length - i < m →
      Tot (g_caps_sum_3 N m x) fun o => o = .inl ((), ((0, 0, 0), ()), (((ms.length : Int), cpuS ms, memS ms), ()), ()) := by
    refine Tot.range ms.length fun m i x ha hi rec => ?_
    subst ha
    rw [g_caps_sum_3_succ]
    unfold s_caps_sum_3
    have e : IntKind.i64.wrap ((i : Int) + 1) = ((i + 1 : Nat) : Int) := by rw [w64 (by omega) (by omega)]; omega
    dsimp only
    rw [e]
    refine Tot.brD (fun hc => ?_) fun hc => ?_
    · refine Tot.brD (fun _ => ?_) fun h => absurd (by omega) h
      refine Tot.idx (by omega) fun v hv => ?_
      have hv : ms[i]? = some v := by simpa using hv
      obtain ⟨s1, s2⟩ := sums_succ hv
      have hb := sums_le (okMs_take h (i + 1))
      rw [s1, s2, List.length_take] at hb
      refine Tot.bind (P := fun u => u = ((1, v.2.2.1.1, v.2.2.1.2.1), ())) ⟨_, rfl, rfl⟩ fun u hu => ?_
      subst hu
      refine Tot.bind (P := fun u => u = ((((i + 1 : Nat) : Int), cpuS (ms.take (i + 1)), memS (ms.take (i + 1))), ())) ⟨_, rfl, ?_⟩ fun u hu => ?_
      · rw [s1, s2]
        dsimp only
        rw [w64 (x := (i : Int) + 1) (by omega) (by omega), w64 (x := cpuS (ms.take i) + _) (by omega) (by omega), w64 (x := memS (ms.take i) + _) (by omega) (by omega)]
        rfl
      · subst hu
        exact rec (i + 1) _ (by omega) (by omega) rfl
    · have : i = ms.length := by omega
      subst this
      exact Tot.some (by rw [List.take_length])
  unfold G_caps_sum S_caps_sum
  obtain ⟨o, e, rfl⟩ := loop N 0 _ (by omega) rfl (by omega)
  have e : g_caps_sum_3 N N ((ms, (ms.length : Int), 0, ()), ((0, 0, 0), ()), ((0, 0, 0), ()), ()) = some (.inl ((), ((0, 0, 0), ()), (((ms.length : Int), cpuS ms, memS ms), ()), ())) := e
  dsimp only
  rw [e]
  rfl

theorem count_is (N : Nat) (a : Cap) : G_caps_load_count N (a, ()) = some (a.1, ()) := rfl
theorem processor_is (N : Nat) (a : Cap) : G_caps_load_processor N (a, ()) = some (a.2.1, ()) := rfl
theorem memory_is (N : Nat) (a : Cap) : G_caps_load_memory N (a, ()) = some (a.2.2, ()) := rfl
theorem caps_of_is (N : Nat) (m : Mach) : G_caps_of N (m, ()) = some ((1, m.2.2.1.1, m.2.2.1.2.1), ()) := rfl

theorem caps_Within_tot (N : Nat) (hN : Big N) (c : Cap) (ms : List Mach) (h : okMs ms) (hl : ms.length ≤ 300) : Tot (G_caps_Within N (c, ms, ())) fun _ => True := by
  unfold G_caps_Within S_caps_Within
  simp only [caps_sum_is N hN ms h hl, count_is, processor_is, memory_is, Option.bind_some]
  repeat' first
    | exact Tot.some trivial
    | refine Tot.br (fun _ => ?_) fun _ => ?_
end Go.Proofs.Ytknbdjkbaimelaa.Pe
