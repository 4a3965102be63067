/- Printed: what functions compute, as plain Lean functions (S.., G..), and the walks (w..) and contracts (holds..). -/
import Derived.Test.YtplgkdfmpbkfpaaProg
import Derived.Test.YtplgkdfmpbkfpaaVIy
namespace Go.Proofs.Ytplgkdfmpbkfpaa.Bo
open Go Go.VI Go.Proofs
set_option linter.unusedVariables false
set_option maxRecDepth 100000
@[reducible] def T3 : Ty := (.int .i64)
@[reducible] def T4 : Ty := .bool
@[reducible] def T9 : Ty := .str
@[reducible] def T25 : Ty := (.slice .str)
@[reducible] def T37 : Ty := (.int .i64)
@[reducible] def T83 : Ty := (.agg (.pair (.int .i64) (.int .i64)))
theorem mixed : Try.prog.follows .mixedOrders = true := by kernel_rfl
/-! trireme/triremeref09.Texts -/
noncomputable def E_ref09_Texts  : FuncId → Option Entry := fun f => none
noncomputable def H_ref09_Texts : Hints := {}
noncomputable def HN_ref09_Texts : FuncId → Hints := fun f => {}
noncomputable def J_ref09_Texts : FuncId → Option (List Ty) := fun f => none
noncomputable def c_ref09_Texts : Code := (Try.f45.body).getD .skip
noncomputable def HL_ref09_Texts {R : Type}  (N : Nat) : FuncId → Nat → Option (LoopEntry R) := loopTab [] []
noncomputable def I_ref09_Texts {R : Type}  (N : Nat) : Inl R := inlJ Try.prog E_ref09_Texts HN_ref09_Texts (fun _ => (HL_ref09_Texts N)) J_ref09_Texts 4 R
noncomputable def b_ref09_Texts_4 : Code := (loopAt c_ref09_Texts 4).getD .skip
@[reducible] def L_ref09_Texts_4 : LoopP := { K := 1000, bl := [], sl := [(0, .val (.slice .str)), (1, .val (.slice .str)), (5, .val (.int .i64))], id := 0, s1 := [], s2 := [(4, .val T4)] }
noncomputable def q_ref09_Texts_4 {R : Type}  (N : Nat) : Nat → Option (LoopEntry R) := (fun i => none)
noncomputable def h_ref09_Texts_4 {R : Type}  (N : Nat) : LoopEntry R := LoopP.entry Try.prog E_ref09_Texts L_ref09_Texts_4 (I_ref09_Texts N) H_ref09_Texts (q_ref09_Texts_4 N) b_ref09_Texts_4 N
noncomputable def r_ref09_Texts_4  (N : Nat) : Nat → (((List ByteArray) × (List ByteArray) × Int × Unit) × Unit) → Option ((Unit × Unit) ⊕ ((Bool × Unit) × Unit)) := LoopP.run Try.prog E_ref09_Texts L_ref09_Texts_4 (I_ref09_Texts N) H_ref09_Texts (q_ref09_Texts_4 N) b_ref09_Texts_4 26 7
def s_ref09_Texts_4   (N : Nat) (k : (((List ByteArray) × (List ByteArray) × Int × Unit) × Unit) → Option ((Unit × Unit) ⊕ ((Bool × Unit) × Unit))) (x : (((List ByteArray) × (List ByteArray) × Int × Unit) × Unit)) : Option ((Unit × Unit) ⊕ ((Bool × Unit) × Unit)) := (br (decide (x.1.2.2.1 < (((List.length x.1.1) : Nat) : Int))) (br (decide ((0 : Int) ≤ x.1.2.2.1)) (Option.bind (x.1.1[(Int.toNat x.1.2.2.1)]?) (fun v0 => (br (decide ((0 : Int) ≤ x.1.2.2.1)) (Option.bind (x.1.2.1[(Int.toNat x.1.2.2.1)]?) (fun v1 => (br (Bool.not (decide (v0 = v1))) (some (Sum.inr ((false, ()), ()))) (k ((x.1.1, x.1.2.1, (IntKind.i64.wrap (x.1.2.2.1 + (1 : Int))), ()), ()))))) none))) none) (some (Sum.inl ((), ()))))
theorem t_ref09_Texts_4  (N : Nat) (k : (((List ByteArray) × (List ByteArray) × Int × Unit) × Unit) → Option ((Unit × Unit) ⊕ ((Bool × Unit) × Unit))) (x : (((List ByteArray) × (List ByteArray) × Int × Unit) × Unit)) : (LoopP.step Try.prog E_ref09_Texts L_ref09_Texts_4 (I_ref09_Texts N) H_ref09_Texts (q_ref09_Texts_4 N) b_ref09_Texts_4 26 7 k x) = s_ref09_Texts_4 N k x := by kernel_rfl
def l_ref09_Texts_4  (N : Nat) : Nat → (((List ByteArray) × (List ByteArray) × Int × Unit) × Unit) → Option ((Unit × Unit) ⊕ ((Bool × Unit) × Unit))
  | 0 => fun _ => none
  | m + 1 => fun x => s_ref09_Texts_4 N (l_ref09_Texts_4 N m) x
theorem u_ref09_Texts_4  (N : Nat) : r_ref09_Texts_4 N = l_ref09_Texts_4 N := run_eq (s_ref09_Texts_4 N) (fun _ => rfl) (fun m x => (LoopP.run_succ ..).trans ((t_ref09_Texts_4 N (r_ref09_Texts_4 N m) x).trans rfl)) (fun _ => rfl) (fun _ _ => rfl)
noncomputable def q_ref09_Texts {R : Type}  (N : Nat) : Nat → Option (LoopEntry R) := (fun i => (br (Nat.beq i 4) (some (h_ref09_Texts_4 N)) none))
def S_ref09_Texts  (R4 : Nat → (((List ByteArray) × (List ByteArray) × Int × Unit) × Unit) → Option ((Unit × Unit) ⊕ ((Bool × Unit) × Unit))) (N : Nat) (x : ((List ByteArray) × (List ByteArray) × Unit)) : Option ((Bool × Unit)) := (br (Bool.not (decide ((((List.length x.1) : Nat) : Int) = (((List.length x.2.1) : Nat) : Int)))) (some (false, ())) (Option.bind (R4 N ((x.1, x.2.1, (0 : Int), ()), ())) (fun v0 => (Sum.elim (fun v1 => (some (true, ()))) (fun v1 => (some (v1.1.1, ()))) v0))))
theorem w_ref09_Texts  (N : Nat) (x : ((List ByteArray) × (List ByteArray) × Unit)) : (funO Try.prog E_ref09_Texts (I_ref09_Texts N) H_ref09_Texts (q_ref09_Texts N) Try.f45 (encVals [T25, T25] x) (fun _ => .gone) 0 (fun v _ _ _ => decRes [T4] v)) = S_ref09_Texts (r_ref09_Texts_4 N) N x := by kernel_rfl
def g_ref09_Texts_4 (N : Nat) : Nat → (((List ByteArray) × (List ByteArray) × Int × Unit) × Unit) → Option ((Unit × Unit) ⊕ ((Bool × Unit) × Unit)) := l_ref09_Texts_4 N
theorem g_ref09_Texts_4_succ (N : Nat) (m : Nat) (x : (((List ByteArray) × (List ByteArray) × Int × Unit) × Unit)) : g_ref09_Texts_4 N (m + 1) x = s_ref09_Texts_4 N (g_ref09_Texts_4 N m) x := rfl
def G_ref09_Texts (N : Nat) (x : ((List ByteArray) × (List ByteArray) × Unit)) : Option ((Bool × Unit)) := S_ref09_Texts (g_ref09_Texts_4 N) N x
theorem E_ref09_Texts_ok (N : Nat) : ∀ f e, E_ref09_Texts f = some e → Holds Try.prog f e := e_none
theorem HL_ref09_Texts_ok (N : Nat) {R : Type} (f : FuncId) (fn : Func) (c : Code) (hf : Try.prog.funcs[f]? = some fn) (hc : fn.body = some c) : LoopsOk Try.prog (HL_ref09_Texts (R := R) N f) c := loopTab_ok tabs_nil hf hc
theorem I_ref09_Texts_ok (N : Nat) {R : Type} : InlOk (R := R) Try.prog (I_ref09_Texts N) := inlJ_ok mixed (E_ref09_Texts_ok N) (fun _ f fn c hf hc => HL_ref09_Texts_ok N f fn c hf hc) _ _
theorem k_ref09_Texts_4 (N : Nat) {R : Type} : LoopOk Try.prog b_ref09_Texts_4 (h_ref09_Texts_4 (R := R) N) := LoopP.entry_ok (code_sound mixed (E_ref09_Texts_ok N) (I_ref09_Texts_ok N) b_ref09_Texts_4 (loopsOk_of (by kernel_rfl) lh_none))
theorem holds_ref09_Texts (N : Nat) : Holds Try.prog 45 ⟨[T25, T25], [T4], G_ref09_Texts N⟩ :=
  holds_of (E := E_ref09_Texts) (inl := I_ref09_Texts N) (H := H_ref09_Texts) (LH := fun _ => q_ref09_Texts N) mixed (E_ref09_Texts_ok N) (I_ref09_Texts_ok N) Try.func45
    (fun x c hc => by
      obtain rfl : c_ref09_Texts = c := by unfold c_ref09_Texts; rw [hc]; rfl
      exact loopsOk_of (by kernel_rfl) (lh_en (k_ref09_Texts_4 N) lh_none))
    (fun x y h => (w_ref09_Texts N x).trans (by rw [u_ref09_Texts_4]; exact h))
/-! trireme/triremelaw24.known -/
noncomputable def E_law24_known (F_ref09_Texts : ((List ByteArray) × (List ByteArray) × Unit) → Option ((Bool × Unit))) : FuncId → Option Entry := fun f => (br (Nat.beq f 45) (some ⟨[T25, T25], [T4], F_ref09_Texts⟩) none)
noncomputable def H_law24_known : Hints := { freeze := fun i => (br (Nat.beq i 11) [34] []) }
noncomputable def HN_law24_known : FuncId → Hints := fun f => (br (Nat.beq f 23) { wr := fun i => (br (Nat.beq i 4) [9] (br (Nat.beq i 11) [6] [])) } (br (Nat.beq f 38) { wr := fun i => (br (Nat.beq i 6) [15, 18] []) } {}))
noncomputable def J_law24_known : FuncId → Option (List Ty) := fun f => (br (Nat.beq f 50) (some [T4]) none)
noncomputable def HL_law24_known {R : Type} (F_ref09_Texts : ((List ByteArray) × (List ByteArray) × Unit) → Option ((Bool × Unit))) (N : Nat) : FuncId → Nat → Option (LoopEntry R) := loopTab [] [(38, 3, 2)]
noncomputable def I_law24_known {R : Type} (F_ref09_Texts : ((List ByteArray) × (List ByteArray) × Unit) → Option ((Bool × Unit))) (N : Nat) : Inl R := inlJ Try.prog (E_law24_known F_ref09_Texts) HN_law24_known (fun _ => (HL_law24_known F_ref09_Texts N)) J_law24_known 4 R
noncomputable def q_law24_known {R : Type} (F_ref09_Texts : ((List ByteArray) × (List ByteArray) × Unit) → Option ((Bool × Unit))) (N : Nat) : Nat → Option (LoopEntry R) := (fun i => none)
def S_law24_known (F_ref09_Texts : ((List ByteArray) × (List ByteArray) × Unit) → Option ((Bool × Unit)))  (N : Nat) (x : Unit) : Option ((Bool × Unit)) := (Option.bind (F_ref09_Texts ([(ByteArray.mk (List.toArray [103]))], [(ByteArray.mk (List.toArray [103]))], ())) (fun v0 => (br (Bool.not v0.1) (some (false, ())) (some ((decide ((1 : Int) = (1 : Int))), ())))))
theorem w_law24_known (F_ref09_Texts : ((List ByteArray) × (List ByteArray) × Unit) → Option ((Bool × Unit))) (N : Nat) (x : Unit) : (funO Try.prog (E_law24_known F_ref09_Texts) (I_law24_known F_ref09_Texts N) H_law24_known ((q_law24_known F_ref09_Texts) N) Try.f27 (encVals [] x) (fun _ => .gone) 0 (fun v _ _ _ => decRes [T4] v)) = S_law24_known F_ref09_Texts N x := by kernel_rfl
def G_law24_known (N : Nat) (x : Unit) : Option ((Bool × Unit)) := S_law24_known (G_ref09_Texts N) N x
theorem E_law24_known_ok (N : Nat) : ∀ f e, E_law24_known (G_ref09_Texts N) f = some e → Holds Try.prog f e := e_br (holds_ref09_Texts N) (e_none)
theorem HL_law24_known_ok (N : Nat) {R : Type} (f : FuncId) (fn : Func) (c : Code) (hf : Try.prog.funcs[f]? = some fn) (hc : fn.body = some c) : LoopsOk Try.prog (HL_law24_known (R := R) (G_ref09_Texts N) N f) c := loopTab_ok tabs_nil hf hc
theorem I_law24_known_ok (N : Nat) {R : Type} : InlOk (R := R) Try.prog (I_law24_known (G_ref09_Texts N) N) := inlJ_ok mixed (E_law24_known_ok N) (fun _ f fn c hf hc => HL_law24_known_ok N f fn c hf hc) _ _
theorem holds_law24_known (N : Nat) : Holds Try.prog 27 ⟨[], [T4], G_law24_known N⟩ :=
  holds_of (E := E_law24_known (G_ref09_Texts N)) (inl := I_law24_known (G_ref09_Texts N) N) (H := H_law24_known) (LH := fun _ => q_law24_known (G_ref09_Texts N) N) mixed (E_law24_known_ok N) (I_law24_known_ok N) Try.func27
    (fun x c hc => loopsOk_none c)
    (fun x y h => (w_law24_known (G_ref09_Texts N) N x).trans (by exact h))
/-! trireme/triremelaw24.BackoffNil -/
noncomputable def E_law24_BackoffNil (F_law24_known : Unit → Option ((Bool × Unit))) : FuncId → Option Entry := fun f => (br (Nat.beq f 27) (some ⟨[], [T4], F_law24_known⟩) none)
noncomputable def H_law24_BackoffNil : Hints := {}
noncomputable def HN_law24_BackoffNil : FuncId → Hints := fun f => (br (Nat.beq f 23) { wr := fun i => (br (Nat.beq i 4) [9] (br (Nat.beq i 11) [6] [])) } (br (Nat.beq f 38) { wr := fun i => (br (Nat.beq i 6) [15, 18] []) } (br (Nat.beq f 41) { wr := fun i => (br (Nat.beq i 8) [11] []) } {})))
noncomputable def J_law24_BackoffNil : FuncId → Option (List Ty) := fun f => (br (Nat.beq f 50) (some [T4]) none)
noncomputable def HL_law24_BackoffNil {R : Type} (F_law24_known : Unit → Option ((Bool × Unit))) (N : Nat) : FuncId → Nat → Option (LoopEntry R) := loopTab [] [(38, 3, 2)]
noncomputable def I_law24_BackoffNil {R : Type} (F_law24_known : Unit → Option ((Bool × Unit))) (N : Nat) : Inl R := inlJ Try.prog (E_law24_BackoffNil F_law24_known) HN_law24_BackoffNil (fun _ => (HL_law24_BackoffNil F_law24_known N)) J_law24_BackoffNil 4 R
noncomputable def q_law24_BackoffNil {R : Type} (F_law24_known : Unit → Option ((Bool × Unit))) (N : Nat) : Nat → Option (LoopEntry R) := (fun i => none)
def S_law24_BackoffNil (F_law24_known : Unit → Option ((Bool × Unit)))  (N : Nat) (x : (ByteArray × Int × Unit)) : Option ((Bool × Unit)) := (br (decide ((300 : Int) < (((ByteArray.size x.1) : Nat) : Int))) (Option.bind (F_law24_known ()) (fun v0 => (some (v0.1, ())))) (Option.bind (F_law24_known ()) (fun v0 => (some (v0.1, ())))))
theorem w_law24_BackoffNil (F_law24_known : Unit → Option ((Bool × Unit))) (N : Nat) (x : (ByteArray × Int × Unit)) : (funO Try.prog (E_law24_BackoffNil F_law24_known) (I_law24_BackoffNil F_law24_known N) H_law24_BackoffNil ((q_law24_BackoffNil F_law24_known) N) Try.f14 (encVals [T9, T3] x) (fun _ => .gone) 0 (fun v _ _ _ => decRes [T4] v)) = S_law24_BackoffNil F_law24_known N x := by kernel_rfl
def G_law24_BackoffNil (N : Nat) (x : (ByteArray × Int × Unit)) : Option ((Bool × Unit)) := S_law24_BackoffNil (G_law24_known N) N x
theorem E_law24_BackoffNil_ok (N : Nat) : ∀ f e, E_law24_BackoffNil (G_law24_known N) f = some e → Holds Try.prog f e := e_br (holds_law24_known N) (e_none)
theorem HL_law24_BackoffNil_ok (N : Nat) {R : Type} (f : FuncId) (fn : Func) (c : Code) (hf : Try.prog.funcs[f]? = some fn) (hc : fn.body = some c) : LoopsOk Try.prog (HL_law24_BackoffNil (R := R) (G_law24_known N) N f) c := loopTab_ok tabs_nil hf hc
theorem I_law24_BackoffNil_ok (N : Nat) {R : Type} : InlOk (R := R) Try.prog (I_law24_BackoffNil (G_law24_known N) N) := inlJ_ok mixed (E_law24_BackoffNil_ok N) (fun _ f fn c hf hc => HL_law24_BackoffNil_ok N f fn c hf hc) _ _
theorem holds_law24_BackoffNil (N : Nat) : Holds Try.prog 14 ⟨[T9, T3], [T4], G_law24_BackoffNil N⟩ :=
  holds_of (E := E_law24_BackoffNil (G_law24_known N)) (inl := I_law24_BackoffNil (G_law24_known N) N) (H := H_law24_BackoffNil) (LH := fun _ => q_law24_BackoffNil (G_law24_known N) N) mixed (E_law24_BackoffNil_ok N) (I_law24_BackoffNil_ok N) Try.func14
    (fun x c hc => loopsOk_none c)
    (fun x y h => (w_law24_BackoffNil (G_law24_known N) N x).trans (by exact h))
end Go.Proofs.Ytplgkdfmpbkfpaa.Bo
