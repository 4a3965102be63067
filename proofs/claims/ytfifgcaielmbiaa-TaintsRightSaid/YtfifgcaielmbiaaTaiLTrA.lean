/- Taints and tolerations, plainly. -/
import Derived.Test.YtfifgcaielmbiaaBaseTrA
namespace Go.Proofs.Ytfifgcaielmbiaa.TrA
open Go Go.VI
set_option linter.unusedVariables false
set_option linter.unusedSimpArgs false
set_option maxRecDepth 100000

abbrev Tol := ByteArray × ByteArray × Bool × Int
abbrev Tai := ByteArray × ByteArray × Int
def bearB (t : Tol) (x : Tai) : Bool := (decide (t.2.2.2 = 0) || decide (t.2.2.2 = x.2.2)) && ((decide (t.1 = nameless) || decide (t.1 = x.1)) && (t.2.2.1 || decide (t.2.1 = x.2.1)))
def borneB (l : List Tol) (x : Tai) : Bool := l.any fun t => bearB t x
def ofB (e : Int) (x : Tai) : Bool := decide (e = 0) || decide (x.2.2 = e)
def unbB (l : List Tol) (e : Int) (x : Tai) : Bool := ofB e x && !borneB l x
def dropB' (key : ByteArray) (e : Int) (y : Tai) : Bool := !decide (y.1 = key) || !ofB e y
def addB (x y : Tai) : Bool := !(decide (x.1 = y.1) && decide (x.2.2 = y.2.2))
@[reducible] def tyTol : Ty := (.agg (.pair .str (.pair .str (.pair .bool (.int .i64)))))
@[reducible] def tyTai : Ty := (.agg (.pair .str (.pair .str (.int .i64))))
theorem reach_le : reachBytes ≤ 140737488355328 := by decide
theorem ref06_Light_tot (N : Nat) (hN : Big N) (t : List Tol) (l : List Tai) (ht : t.length ≤ 140737488355328) (hl : l.length ≤ 140737488355328) : Tot (G_ref06_Light N (t, l, ())) fun v => v.1 = true → t.length ≤ 40 ∧ l.length ≤ 40 := by
  unfold Big at hN
  have loop4 : ∀ m (i : Nat) (x : (List Tol × List Tai × Int × Unit) × Unit), i ≤ t.length → x = ((t, l, (i : Int), ()), ()) → t.length - i < m → Tot (g_ref06_Light_4 N m x) fun o => ∀ y, o = .inl y → y = ((l, ()), ()) := by
    refine Tot.range t.length fun m i x ha hi rec => ?_
    subst ha
    rw [g_ref06_Light_4_succ]
    unfold s_ref06_Light_4
    have e : IntKind.i64.wrap ((i : Int) + 1) = ((i + 1 : Nat) : Int) := by rw [w64 (by omega) (by omega)]; omega
    simp only [e]
    repeat' first
      | exact Tot.some fun y hy => by first | (cases hy; done) | (cases hy; rfl)
      | exact rec (i + 1) _ (by omega) (by omega) rfl
      | (refine Tot.idx (by omega) fun v hv => ?_)
      | (refine Tot.brD (fun hc => ?_) (fun hc => ?_))
      | (exfalso; omega)
  have loop9 : ∀ m (i : Nat) (x : (List Tai × Int × Unit) × Unit), i ≤ l.length → x = ((l, (i : Int), ()), ()) → l.length - i < m → Tot (g_ref06_Light_9 N m x) fun _ => True := by
    refine Tot.range l.length fun m i x ha hi rec => ?_
    subst ha
    rw [g_ref06_Light_9_succ]
    unfold s_ref06_Light_9
    have e : IntKind.i64.wrap ((i : Int) + 1) = ((i + 1 : Nat) : Int) := by rw [w64 (by omega) (by omega)]; omega
    simp only [e]
    repeat' first
      | exact Tot.some trivial
      | exact rec (i + 1) _ (by omega) (by omega) rfl
      | (refine Tot.idx (by omega) fun v hv => ?_)
      | (refine Tot.brD (fun hc => ?_) (fun hc => ?_))
      | (exfalso; omega)
  unfold G_ref06_Light S_ref06_Light
  refine Tot.brD (fun _ => Tot.some fun h => by cases h) fun h1 => ?_
  refine Tot.brD (fun _ => Tot.some fun h => by cases h) fun h2 => ?_
  have h1 : ¬ (40 : Int) < ((t.length : Nat) : Int) := h1
  have h2 : ¬ (40 : Int) < ((l.length : Nat) : Int) := h2
  refine Tot.bind (loop4 N 0 _ (by omega) rfl (by omega)) fun v hv => ?_
  refine Tot.elim (fun a ha => ?_) fun b hb => ?_
  · rw [hv a ha]
    refine Tot.bind (loop9 N 0 _ (by omega) rfl (by omega)) fun v _ => ?_
    exact Tot.elim (fun a _ => Tot.some fun _ => ⟨by omega, by omega⟩) fun b _ => Tot.some fun _ => ⟨by omega, by omega⟩
  · exact Tot.some fun _ => ⟨by omega, by omega⟩
theorem ref06_Same_is (N : Nat) (hN : Big N) {a b : List Tai} (ha : a.length ≤ 1000000) : G_ref06_Same N (a, b, ()) = some (decide (a = b), ()) := by
  unfold Big at hN
  by_cases hl : a.length = b.length
  · have loop := Tot.all (f := g_ref06_Same_4 N) (Inv := fun i x => x = ((a, b, (i : Int), ()), ())) (Y := fun o => ∃ y, o = .inl y) (No := fun o => ∃ y, o = .inr ((false, ()), y)) a.length (fun i => decide (a[i]? = b[i]?))
      (fun m x hx => by
        subst hx
        rw [g_ref06_Same_4_succ]
        unfold s_ref06_Same_4
        exact Tot.brD (fun h => absurd h (by dsimp only; omega)) fun _ => Tot.some ⟨_, rfl⟩)
      (fun m i x Q hx hi rec no => by
        subst hx
        rw [g_ref06_Same_4_succ]
        unfold s_ref06_Same_4
        have hi' : i < b.length := by omega
        have d0 : decide ((0 : Int) ≤ (i : Int)) = true := decide_eq_true (by omega)
        have d1 : decide ((i : Int) < ((a.length : Nat) : Int)) = true := decide_eq_true (by omega)
        simp only [d0, d1, br_true, Int.toNat_natCast, at_lt hi, at_lt hi', Option.bind_some, wi (i := i) (by omega)]
        simp only [at_lt hi, at_lt hi'] at rec no
        generalize a[i] = u at *
        generalize b[i] = v at *
        obtain ⟨u1, u2, u3⟩ := u
        obtain ⟨v1, v2, v3⟩ := v
        by_cases e : (u1, u2, u3) = (v1, v2, v3)
        · cases e
          simp only [decide_true, Bool.and_true, Bool.not_true, br_false]
          exact rec (by simp) _ rfl
        · have : (Bool.and (decide (u1 = v1)) (Bool.and (decide (u2 = v2)) (Bool.and (decide (u3 = v3)) true))) = false := by
            cases hx : (Bool.and (decide (u1 = v1)) (Bool.and (decide (u2 = v2)) (Bool.and (decide (u3 = v3)) true))) with
            | false => rfl
            | true =>
              exfalso
              have hx : (decide (u1 = v1) && (decide (u2 = v2) && (decide (u3 = v3) && true))) = true := hx
              simp only [Bool.and_eq_true, decide_eq_true_eq] at hx
              exact e (by rw [hx.1, hx.2.1, hx.2.2.1])
          rw [this, Bool.not_false, br_true]
          exact Tot.some (no (decide_eq_false fun h => e (by simpa using h)) _ ⟨_, rfl⟩))
      N 0 ((a, b, 0, ()), ()) (by omega) rfl (by omega)
    obtain ⟨o, e, ho⟩ := loop
    unfold G_ref06_Same S_ref06_Same
    simp only [e, Option.bind_some]
    rw [decide_eq_true (show ((a.length : Nat) : Int) = ((b.length : Nat) : Int) by omega), Bool.not_true, br_false]
    rw [Nat.sub_zero] at ho
    split at ho
    · rename_i hy
      obtain ⟨y, rfl⟩ := ho
      have : a = b := List.ext_getElem? fun i => by
        by_cases h : i < a.length
        · exact of_decide_eq_true (allN_iff.1 hy i (by omega) (by omega))
        · rw [List.getElem?_eq_none (by omega), List.getElem?_eq_none (by omega)]
      rw [decide_eq_true this]; rfl
    · rename_i hy
      obtain ⟨y, rfl⟩ := ho
      have : ¬ a = b := fun e => hy (allN_iff.2 fun j _ _ => by rw [e]; exact decide_eq_true rfl)
      rw [decide_eq_false this]; rfl
  · unfold G_ref06_Same S_ref06_Same
    dsimp only
    rw [decide_eq_false (show ¬ ((a.length : Nat) : Int) = ((b.length : Nat) : Int) by omega), Bool.not_false, br_true, decide_eq_false (fun e => hl (by rw [e]))]
end Go.Proofs.Ytfifgcaielmbiaa.TrA
