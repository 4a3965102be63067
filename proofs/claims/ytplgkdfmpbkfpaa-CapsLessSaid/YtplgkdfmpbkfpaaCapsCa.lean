/- Caps: what caps.Room, caps.Within and the document's words come to. -/
import Derived.Test.YtplgkdfmpbkfpaaMacCa
namespace Go.Proofs.Ytplgkdfmpbkfpaa.Ca
open Go Go.VI
set_option linter.unusedVariables false
set_option maxRecDepth 100000

abbrev Cap := Int × Int × Int
def okC (c : Cap) : Prop := (0 ≤ c.1 ∧ c.1 ≤ 288230376151711744) ∧ (0 ≤ c.2.1 ∧ c.2.1 ≤ 288230376151711744) ∧ (0 ≤ c.2.2 ∧ c.2.2 ≤ 288230376151711744)
instance (c : Cap) : Decidable (okC c) := by unfold okC; infer_instance
def cpuS (l : List Mach) : Int := (l.map fun m => m.2.2.1.1).sum
def memS (l : List Mach) : Int := (l.map fun m => m.2.2.1.2.1).sum
def okMs (l : List Mach) : Prop := ∀ m ∈ l, okR m.2.2.1

theorem sums_le : ∀ {l : List Mach}, okMs l → (0 ≤ cpuS l ∧ cpuS l ≤ l.length * 1125899906842624) ∧ (0 ≤ memS l ∧ memS l ≤ l.length * 1125899906842624)
  | [], _ => by simp [cpuS, memS]
  | m :: l, h => by
    have h1 := sums_le (l := l) fun x hx => h x (List.mem_cons_of_mem _ hx)
    obtain ⟨h2, h3, _⟩ := h m List.mem_cons_self
    simp only [cpuS, memS, List.map_cons, List.sum_cons, List.length_cons] at *
    omega
theorem sums_succ {l : List Mach} {i : Nat} {m : Mach} (h : l[i]? = some m) : cpuS (l.take (i + 1)) = cpuS (l.take i) + m.2.2.1.1 ∧ memS (l.take (i + 1)) = memS (l.take i) + m.2.2.1.2.1 := by
  unfold cpuS memS
  rw [List.take_add_one, h]
  simp
theorem okMs_take {l : List Mach} (h : okMs l) (i : Nat) : okMs (l.take i) := fun m hm => h m (List.mem_of_mem_take hm)

theorem caps_Right_is (N : Nat) (c : Cap) : G_caps_Right N (c, ()) = some (decide (okC c), ()) := by
  unfold G_caps_Right S_caps_Right okC
  obtain ⟨a, b, d⟩ := c
  simp only [br_dec]
  repeat' split
  all_goals simp only [Option.some.injEq, Prod.mk.injEq, and_true]
  all_goals first | exact (decide_eq_false (by omega)).symm | exact (decide_eq_true (by omega)).symm
theorem ref23_Right_is (N : Nat) (c : Cap) : G_ref23_Right N (c, ()) = some (decide (okC c), ()) := by
  have one : ∀ n : Int, G_ref23_one N (n, ()) = some (decide (0 ≤ n ∧ n ≤ 288230376151711744), ()) := fun n => by
    unfold G_ref23_one S_ref23_one
    dsimp only
    by_cases h : 0 ≤ n <;> simp [h, br]
  unfold G_ref23_Right S_ref23_Right okC
  obtain ⟨a, b, d⟩ := c
  simp only [one, Option.bind_some]
  by_cases h1 : 0 ≤ a ∧ a ≤ 288230376151711744 <;> by_cases h2 : 0 ≤ b ∧ b ≤ 288230376151711744 <;> simp [h1, h2, br]

theorem caps_sum_is (N : Nat) (hN : Big N) (ms : List Mach) (h : okMs ms) (hl : ms.length ≤ 300) : G_caps_sum N (ms, ()) = some (((ms.length : Int), cpuS ms, memS ms), ()) := by
  unfold Big at hN
  have loop : ∀ m (i : Nat) (x : ((List Mach) × Int × Int × Unit) × ((Int × Int × Int) × Unit) × ((Int × Int × Int) × Unit) × Unit), i ≤ ms.length → x = ((ms, (ms.length : Int), (i : Int), ()), ((0, 0, 0), ()), (((i : Int), cpuS (ms.take i), memS (ms.take i)), ()), ()) → ms.length - i < m →
      Tot (g_caps_sum_3 N m x) fun o => o = .inl ((), ((0, 0, 0), ()), (((ms.length : Int), cpuS ms, memS ms), ()), ()) := by
    refine Tot.range ms.length fun m i x ha hi rec => ?_
    subst ha
    rw [g_caps_sum_3_succ]
    unfold s_caps_sum_3
    have e : IntKind.i64.wrap ((i : Int) + 1) = ((i + 1 : Nat) : Int) := by rw [w64 (by omega) (by omega)]; omega
    dsimp only
    rw [e]
    refine Tot.brD (fun hc => ?_) fun hc => ?_
    · refine Tot.brD (fun _ => ?_) fun h => absurd (by omega) h
      refine Tot.idx (by omega) fun v hv => ?_
      have hv : ms[i]? = some v := by simpa using hv
      obtain ⟨s1, s2⟩ := sums_succ hv
      have hb := sums_le (okMs_take h (i + 1))
      rw [s1, s2, List.length_take] at hb
      refine Tot.bind (P := fun u => u = ((1, v.2.2.1.1, v.2.2.1.2.1), ())) ⟨_, rfl, rfl⟩ fun u hu => ?_
      subst hu
      refine Tot.bind (P := fun u => u = ((((i + 1 : Nat) : Int), cpuS (ms.take (i + 1)), memS (ms.take (i + 1))), ())) ⟨_, rfl, ?_⟩ fun u hu => ?_
      · rw [s1, s2]
        dsimp only
        rw [w64 (x := (i : Int) + 1) (by omega) (by omega), w64 (x := cpuS (ms.take i) + _) (by omega) (by omega), w64 (x := memS (ms.take i) + _) (by omega) (by omega)]
        rfl
      · subst hu
        exact rec (i + 1) _ (by omega) (by omega) rfl
    · have : i = ms.length := by omega
      subst this
      exact Tot.some (by rw [List.take_length])
  unfold G_caps_sum S_caps_sum
  obtain ⟨o, e, rfl⟩ := loop N 0 _ (by omega) rfl (by omega)
  have e : g_caps_sum_3 N N ((ms, (ms.length : Int), 0, ()), ((0, 0, 0), ()), ((0, 0, 0), ()), ()) = some (.inl ((), ((0, 0, 0), ()), (((ms.length : Int), cpuS ms, memS ms), ()), ())) := e
  dsimp only
  rw [e]
  rfl

/-- Is a cluster within caps? -/
def W (c : Cap) (n p m : Int) : Prop := (c.1 = 0 ∨ n ≤ c.1) ∧ (c.2.1 = 0 ∨ p ≤ c.2.1) ∧ (c.2.2 = 0 ∨ m ≤ c.2.2)
instance (c : Cap) (n p m : Int) : Decidable (W c n p m) := by unfold W; infer_instance

theorem count_is (N : Nat) (a : Cap) : G_caps_load_count N (a, ()) = some (a.1, ()) := rfl
theorem processor_is (N : Nat) (a : Cap) : G_caps_load_processor N (a, ()) = some (a.2.1, ()) := rfl
theorem memory_is (N : Nat) (a : Cap) : G_caps_load_memory N (a, ()) = some (a.2.2, ()) := rfl
theorem caps_of_is (N : Nat) (m : Mach) : G_caps_of N (m, ()) = some ((1, m.2.2.1.1, m.2.2.1.2.1), ()) := rfl

theorem caps_Within_is (N : Nat) (hN : Big N) (c : Cap) (hc : okC c) (ms : List Mach) (h : okMs ms) (hl : ms.length ≤ 300) : G_caps_Within N (c, ms, ()) = some (decide (W c ms.length (cpuS ms) (memS ms)), ()) := by
  unfold G_caps_Within S_caps_Within W
  obtain ⟨a, b, d⟩ := c
  unfold okC at hc
  simp only [caps_sum_is N hN ms h hl, count_is, processor_is, memory_is, Option.bind_some, br_dec] at hc ⊢
  repeat' split
  all_goals simp only [Option.some.injEq, Prod.mk.injEq, and_true]
  all_goals first | exact (decide_eq_false (by omega)).symm | exact (decide_eq_true (by omega)).symm

theorem under_is (N : Nat) (n m : Int) : G_ref23_under N (n, m, ()) = some (decide (m = 0 ∨ n ≤ m), ()) := by
  unfold G_ref23_under S_ref23_under
  dsimp only
  by_cases h : m = 0 <;> simp [h, br]

theorem ref23_Within_is (N : Nat) (hN : Big N) (c : Cap) (ms : List Mach) (h : okMs ms) (hl : ms.length ≤ 300) : G_ref23_Within N (c, ms, ()) = some (decide (W c ms.length (cpuS ms) (memS ms)), ()) := by
  unfold Big at hN
  have loop : ∀ m (i : Nat) (x : ((List Mach) × Int × Int × Int × Unit) × (Cap × Unit) × Unit), i ≤ ms.length → x = ((ms, cpuS (ms.take i), memS (ms.take i), (i : Int), ()), (c, ()), ()) → ms.length - i < m →
      Tot (g_ref23_Within_4 N m x) fun o => o = .inl ((ms, cpuS ms, memS ms, ()), (c, ()), ()) := by
    refine Tot.range ms.length fun m i x ha hi rec => ?_
    subst ha
    rw [g_ref23_Within_4_succ]
    unfold s_ref23_Within_4
    have e : IntKind.i64.wrap ((i : Int) + 1) = ((i + 1 : Nat) : Int) := by rw [w64 (by omega) (by omega)]; omega
    dsimp only
    rw [e]
    refine Tot.brD (fun hc => ?_) fun hc => ?_
    · refine Tot.brD (fun _ => ?_) fun h => absurd (by omega) h
      refine Tot.idx (by omega) fun v hv => ?_
      refine Tot.brD (fun _ => ?_) fun h => absurd (by omega) h
      refine Tot.idx (by omega) fun v' hv' => ?_
      obtain rfl : v = v' := Option.some.inj (hv.symm.trans hv')
      have hv : ms[i]? = some v := by simpa using hv
      obtain ⟨s1, s2⟩ := sums_succ hv
      have hb := sums_le (okMs_take h (i + 1))
      rw [s1, s2, List.length_take] at hb
      refine rec (i + 1) _ (by omega) (by omega) ?_
      rw [s1, s2, w64 (x := cpuS (ms.take i) + _) (by omega) (by omega), w64 (x := memS (ms.take i) + _) (by omega) (by omega)]
    · have : i = ms.length := by omega
      subst this
      exact Tot.some (by rw [List.take_length])
  unfold G_ref23_Within S_ref23_Within
  obtain ⟨o, e, rfl⟩ := loop N 0 _ (by omega) rfl (by omega)
  have e : g_ref23_Within_4 N N ((ms, 0, 0, 0, ()), (c, ()), ()) = some (.inl ((ms, cpuS ms, memS ms, ()), (c, ()), ())) := e
  dsimp only
  rw [e]
  simp only [Option.bind_some, Sum.elim_inl, under_is, br_ite, W]
  by_cases h1 : c.1 = 0 ∨ (ms.length : Int) ≤ c.1 <;> by_cases h2 : c.2.1 = 0 ∨ cpuS ms ≤ c.2.1 <;> simp [h1, h2]

/-- May there be k more? -/
def More (c : Cap) (ms : List Mach) (like : Mach) (k : Nat) : Prop := ms.length + k ≤ 200 ∧ W c (ms.length + k) (cpuS ms + k * like.2.2.1.1) (memS ms + k * like.2.2.1.2.1)

theorem cpuS_more (ms : List Mach) (like : Mach) (k : Nat) : cpuS (ms ++ List.replicate k like) = cpuS ms + k * like.2.2.1.1 := by
  unfold cpuS
  rw [List.map_append, List.sum_append, List.map_replicate]
  congr 1
  induction k with
  | zero => simp
  | succ k ih => rw [List.replicate_succ, List.sum_cons, ih]; push_cast; rw [Int.add_mul]; omega
theorem memS_more (ms : List Mach) (like : Mach) (k : Nat) : memS (ms ++ List.replicate k like) = memS ms + k * like.2.2.1.2.1 := by
  unfold memS
  rw [List.map_append, List.sum_append, List.map_replicate]
  congr 1
  induction k with
  | zero => simp
  | succ k ih => rw [List.replicate_succ, List.sum_cons, ih]; push_cast; rw [Int.add_mul]; omega
theorem okMs_more {ms : List Mach} {like : Mach} (h : okMs ms) (hl : okR like.2.2.1) (k : Nat) : okMs (ms ++ List.replicate k like) := fun m hm => by
  rcases List.mem_append.1 hm with h' | h'
  · exact h m h'
  · rw [List.eq_of_mem_replicate h']; exact hl
theorem tdiv_le (a b : Int) (h : 0 ≤ a) : (0 < b → 0 ≤ a.tdiv b) ∧ a.tdiv b ≤ a ∧ -a ≤ a.tdiv b := by
  have h1 : (a.tdiv b).natAbs ≤ a.natAbs := by rw [Int.natAbs_tdiv]; exact Nat.div_le_self _ _
  refine ⟨fun hb => ?_, by omega, by omega⟩
  rw [Int.tdiv_eq_ediv_of_nonneg h]
  exact Int.ediv_nonneg h (by omega)
theorem le_tdiv {a b : Int} (h : 0 ≤ a) (hb : 0 < b) (k : Int) : k ≤ a.tdiv b ↔ k * b ≤ a := by
  rw [Int.tdiv_eq_ediv_of_nonneg h]
  exact Int.le_ediv_iff_mul_le hb

theorem res_Right_is (N : Nat) (a : Res) : G_res_Right N (a, ()) = some (decide (okR a), ()) := by
  unfold G_res_Right S_res_Right okR
  obtain ⟨a, b, c, d, e⟩ := a
  rw [show G_res_row N ((a, b, c, d, e), ()) = some ((a, b, c, d, e), ()) from rfl]
  simp only [Option.bind_some, br_dec]
  repeat' split
  all_goals simp only [Option.some.injEq, Prod.mk.injEq, and_true]
  all_goals first | exact (decide_eq_false (by omega)).symm | exact (decide_eq_true (by omega)).symm

set_option maxHeartbeats 4000000 in
theorem caps_Room_is (N : Nat) (hN : Big N) (c : Cap) (hc : okC c) (ms : List Mach) (h : okMs ms) (hl : ms.length ≤ 200) (like : Mach) (hk : okR like.2.2.1) :
    Tot (G_caps_Room N (c, ms, like, ())) fun v => 0 ≤ v.1 ∧ v.1 ≤ 200 - (ms.length : Int) ∧ ∀ k : Nat, 1 ≤ k → (More c ms like k ↔ (k : Int) ≤ v.1) := by
  obtain ⟨⟨c1, c2⟩, ⟨c3, c4⟩, c5, c6⟩ := hc
  obtain ⟨⟨s1, s2⟩, s3, s4⟩ := sums_le h
  have hk' := hk
  obtain ⟨⟨k1, k2⟩, ⟨k3, k4⟩, _⟩ := hk'
  unfold G_caps_Room S_caps_Room
  simp only [res_Right_is, decide_eq_true hk, caps_sum_is N hN ms h (by omega), count_is, processor_is, memory_is, caps_of_is, Option.bind_some, Bool.not_true, br_false, List.foldl_cons, List.foldl_nil]
  unfold More W
  obtain ⟨a, b, d⟩ := c
  dsimp only at *
  generalize cpuS ms = C at *
  generalize memS ms = M at *
  generalize like.2.2.1.1 = lc at *
  generalize like.2.2.1.2.1 = lm at *
  generalize ms.length = L at *
  have e1 : IntKind.i64.wrap (200 - (L : Int)) = 200 - (L : Int) := w64 (by omega) (by omega)
  have e2 : IntKind.i64.wrap (a - (L : Int)) = a - (L : Int) := w64 (by omega) (by omega)
  have e3 : IntKind.i64.wrap (b - C) = b - C := w64 (by omega) (by omega)
  have e4 : IntKind.i64.wrap (d - M) = d - M := w64 (by omega) (by omega)
  have q1 := fun h => tdiv_le (b - C) lc h
  have q2 := fun h => tdiv_le (d - M) lm h
  have n1 : ((b - C).tdiv lc).natAbs ≤ (b - C).natAbs := by rw [Int.natAbs_tdiv]; exact Nat.div_le_self _ _
  have n2 : ((d - M).tdiv lm).natAbs ≤ (d - M).natAbs := by rw [Int.natAbs_tdiv]; exact Nat.div_le_self _ _
  have t1 : ∀ k : Nat, 0 ≤ b - C → 0 < lc → ((k : Int) ≤ (b - C).tdiv lc ↔ (k : Int) * lc ≤ b - C) := fun k h1 h2 => le_tdiv h1 h2 k
  have t2 : ∀ k : Nat, 0 ≤ d - M → 0 < lm → ((k : Int) ≤ (d - M).tdiv lm ↔ (k : Int) * lm ≤ d - M) := fun k h1 h2 => le_tdiv h1 h2 k
  have e5 : IntKind.i64.wrap ((b - C).tdiv lc) = (b - C).tdiv lc := w64 (by omega) (by omega)
  have e6 : IntKind.i64.wrap ((d - M).tdiv lm) = (d - M).tdiv lm := w64 (by omega) (by omega)
  have e7 : IntKind.i64.wrap ((a - (L : Int)).tdiv 1) = a - (L : Int) := by rw [Int.tdiv_one]; exact e2
  simp only [e1, e2, e3, e4, e5, e6, e7]
  generalize (b - C).tdiv lc = Q1 at *
  generalize (d - M).tdiv lm = Q2 at *
  have z1 : ∀ k : Nat, 0 ≤ (k : Int) * lc ∧ (lc = 0 → (k : Int) * lc = 0) := fun k => ⟨Int.mul_nonneg (by omega) (by omega), fun h => by rw [h, Int.mul_zero]⟩
  have z2 : ∀ k : Nat, 0 ≤ (k : Int) * lm ∧ (lm = 0 → (k : Int) * lm = 0) := fun k => ⟨Int.mul_nonneg (by omega) (by omega), fun h => by rw [h, Int.mul_zero]⟩
  repeat' first
    | (refine Tot.brD (fun hc => ?_) (fun hc => ?_))
    | (exfalso; omega)
    | (refine Tot.some ⟨by dsimp only; omega, by dsimp only; omega, fun k hk => ?_⟩
       have y1 := t1 k
       have y2 := t2 k
       have y3 := z1 k
       have y4 := z2 k
       dsimp only
       generalize (k : Int) * lc = P1 at *
       generalize (k : Int) * lm = P2 at *
       clear t1 t2 z1 z2 e1 e2 e3 e4 e5 e6 e7
       omega)
end Go.Proofs.Ytplgkdfmpbkfpaa.Ca
