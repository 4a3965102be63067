/- Printed: what functions compute, as plain Lean functions (S.., G..), and the walks (w..) and contracts (holds..). -/
import Derived.Test.YtiiiipdnodgkmaaProg
import Derived.Test.YtiiiipdnodgkmaaVIC
namespace Go.Proofs.Ytiiiipdnodgkmaa.Lj
open Go Go.VI Go.Proofs
set_option linter.unusedVariables false
set_option maxRecDepth 100000
noncomputable def Hz : Hints := {}
noncomputable def HNz : FuncId → Hints := fun f => {}
noncomputable def Jz : FuncId → Option JoinP := fun f => none
noncomputable def HLz {R : Type} : FuncId → Nat → Option (LoopEntry R) := loopTab [] []
theorem HLz_ok {R : Type} (f : FuncId) (fn : Func) (c : Code) (hf : Try.prog.funcs[f]? = some fn) (hc : fn.body = some c) : LoopsOk Try.prog (HLz (R := R) f) c := loopTab_ok tabs_nil hf hc
noncomputable def qz {R : Type} : Nat → Option (LoopEntry R) := fun i => none
@[reducible] def T3 : Ty := (.int .i64)
@[reducible] def T4 : Ty := .bool
@[reducible] def T9 : Ty := .str
@[reducible] def T21 : Ty := (.int .i32)
@[reducible] def T22 : Ty := (.slice (.agg (.pair .str (.pair (.int .i64) (.pair (.int .i64) (.pair (.agg (.pair .str (.pair .str (.pair (.agg (.pair (.int .i64) (.pair (.int .i64) (.pair (.int .i64) (.pair (.int .i64) (.int .i64)))))) (.pair (.slice (.agg (.pair .str .str))) (.pair (.slice (.agg (.pair .str (.pair .str (.int .i64))))) .bool)))))) (.pair (.int .i64) (.int .i64))))))))
@[reducible] def T34 : Ty := (.agg (.pair (.int .i64) (.pair (.int .i64) (.pair (.int .i64) (.pair (.int .i64) (.int .i64))))))
@[reducible] def T35 : Ty := (.slice (.agg (.pair .str .str)))
@[reducible] def T36 : Ty := (.slice (.agg (.pair .str (.pair .str (.int .i64)))))
@[reducible] def T38 : Ty := (.agg (.pair .str (.pair .str (.pair (.agg (.pair (.int .i64) (.pair (.int .i64) (.pair (.int .i64) (.pair (.int .i64) (.int .i64)))))) (.pair (.slice (.agg (.pair .str .str))) (.pair (.slice (.agg (.pair .str (.pair .str (.int .i64))))) .bool))))))
@[reducible] def T40 : Ty := (.agg (.pair .str (.pair (.int .i64) (.pair (.int .i64) (.pair (.agg (.pair .str (.pair .str (.pair (.agg (.pair (.int .i64) (.pair (.int .i64) (.pair (.int .i64) (.pair (.int .i64) (.int .i64)))))) (.pair (.slice (.agg (.pair .str .str))) (.pair (.slice (.agg (.pair .str (.pair .str (.int .i64))))) .bool)))))) (.pair (.int .i64) (.int .i64)))))))
@[reducible] def T54 : Ty := (.int .i64)
@[reducible] def T64 : Ty := .f64
@[reducible] def T97 : Ty := (.agg (.pair .str (.pair (.int .i64) (.pair (.int .i64) (.pair (.int .i64) (.int .i64))))))
@[reducible] def T111 : Ty := (.agg (.pair .str (.pair .str (.int .i64))))
@[reducible] def T123 : Ty := (.agg (.pair (.int .i64) (.pair (.int .i64) (.pair (.int .i64) (.pair (.int .i64) (.int .i64))))))
abbrev D_d6c440 := (ByteArray × (ByteArray × ((Int × (Int × (Int × (Int × Int)))) × ((List (ByteArray × ByteArray)) × ((List (ByteArray × (ByteArray × Int))) × Bool)))))
abbrev D_59d353 := (ByteArray × (Int × (Int × (D_d6c440 × (Int × Int)))))
abbrev D_bdd189 := (ByteArray × (Int × (Int × (Int × Int))))
abbrev D_543bfa := (ByteArray × (ByteArray × (Int × (Int × Int))))
theorem mixed : Try.prog.follows .mixedOrders = true := by kernel_rfl
/-! trireme/group.Find -/
abbrev Y_group_Find : Type := ((List D_59d353) × ByteArray × Unit) → Option ((Int × Unit))
abbrev X_group_Find_2 : Type := ((ByteArray × (List D_59d353) × Int × Int × Unit) × Unit)
abbrev Z_group_Find_2 : Type := ((Unit × Unit) ⊕ ((Int × Unit) × Unit))
noncomputable def E_group_Find  : FuncId → Option Entry := fun f => none
noncomputable def c_group_Find : Code := (Try.f16.body).getD .skip
noncomputable def I_group_Find {R : Type}  (N : Nat) : Inl R := inlJ Try.prog E_group_Find HNz (fun _ => HLz) Jz 4 R
noncomputable def b_group_Find_2 : Code := (loopAt c_group_Find 2).getD .skip
@[reducible] def L_group_Find_2 : LoopP := { K := 1000, bl := [], sl := [(1, .val .str), (7, .val T22), (8, .val T3), (9, .val T3)], id := 0, s1 := [], s2 := [(4, .val T3)] }
noncomputable def h_group_Find_2 {R : Type}  (N : Nat) : LoopEntry R := LoopP.entry Try.prog E_group_Find L_group_Find_2 (I_group_Find N) Hz (qz) b_group_Find_2 N
noncomputable def r_group_Find_2  (N : Nat) : Nat → X_group_Find_2 → Option Z_group_Find_2 := LoopP.run Try.prog E_group_Find L_group_Find_2 (I_group_Find N) Hz (qz) b_group_Find_2 20 4
def s_group_Find_2   (N : Nat) (k : X_group_Find_2 → Option Z_group_Find_2) (x : X_group_Find_2) : Option Z_group_Find_2 := (br (decide (x.1.2.2.2.1 < x.1.2.2.1)) (br (decide ((0 : Int) ≤ x.1.2.2.2.1)) (Option.bind (x.1.2.1[(Int.toNat x.1.2.2.2.1)]?) (fun v0 => (br (decide (v0.1 = x.1.1)) (some (Sum.inr ((x.1.2.2.2.1, ()), ()))) (k ((x.1.1, x.1.2.1, x.1.2.2.1, (IntKind.i64.wrap (x.1.2.2.2.1 + (1 : Int))), ()), ()))))) none) (some (Sum.inl ((), ()))))
theorem t_group_Find_2  (N : Nat) (k : X_group_Find_2 → Option Z_group_Find_2) (x : X_group_Find_2) : (LoopP.step Try.prog E_group_Find L_group_Find_2 (I_group_Find N) Hz (qz) b_group_Find_2 20 4 k x) = s_group_Find_2 N k x := by kernel_rfl
def l_group_Find_2  (N : Nat) : Nat → X_group_Find_2 → Option Z_group_Find_2
  | 0 => fun _ => none
  | m + 1 => fun x => s_group_Find_2 N (l_group_Find_2 N m) x
theorem u_group_Find_2  (N : Nat) : r_group_Find_2 N = l_group_Find_2 N := run_eq (s_group_Find_2 N) (fun _ => rfl) (fun m x => (LoopP.run_succ ..).trans ((t_group_Find_2 N (r_group_Find_2 N m) x).trans rfl)) (fun _ => rfl) (fun _ _ => rfl)
noncomputable def q_group_Find {R : Type}  (N : Nat) : Nat → Option (LoopEntry R) := (fun i => (br (Nat.beq i 2) (some (h_group_Find_2 N)) none))
def S_group_Find  (R2 : Nat → X_group_Find_2 → Option Z_group_Find_2) (N : Nat) (x : ((List D_59d353) × ByteArray × Unit)) : Option ((Int × Unit)) := (Option.bind (R2 N ((x.2.1, x.1, (((List.length x.1) : Nat) : Int), (0 : Int), ()), ())) (fun v0 => (Sum.elim (fun v1 => (some ((-(1 : Int)), ()))) (fun v1 => (some (v1.1.1, ()))) v0)))
theorem w_group_Find  (N : Nat) (x : ((List D_59d353) × ByteArray × Unit)) : (funO Try.prog E_group_Find (I_group_Find N) Hz (q_group_Find N) Try.f16 (encVals [T22, T9] x) (fun _ => .gone) 0 (fun v _ _ _ => decRes [T3] v)) = S_group_Find (r_group_Find_2 N) N x := by kernel_rfl
def g_group_Find_2 (N : Nat) : Nat → X_group_Find_2 → Option Z_group_Find_2 := l_group_Find_2 N
theorem g_group_Find_2_succ (N : Nat) (m : Nat) (x : X_group_Find_2) : g_group_Find_2 N (m + 1) x = s_group_Find_2 N (g_group_Find_2 N m) x := rfl
def G_group_Find (N : Nat) (x : ((List D_59d353) × ByteArray × Unit)) : Option ((Int × Unit)) := S_group_Find (g_group_Find_2 N) N x
theorem E_group_Find_ok (N : Nat) : ∀ f e, E_group_Find f = some e → Holds Try.prog f e := e_none
theorem I_group_Find_ok (N : Nat) {R : Type} : InlOk (R := R) Try.prog (I_group_Find N) := inlJ_ok mixed (E_group_Find_ok N) (fun _ f fn c hf hc => HLz_ok f fn c hf hc) _ _
theorem k_group_Find_2 (N : Nat) {R : Type} : LoopOk Try.prog b_group_Find_2 (h_group_Find_2 (R := R) N) := LoopP.entry_ok (code_sound mixed (E_group_Find_ok N) (I_group_Find_ok N) b_group_Find_2 (loopsOk_of (by kernel_rfl) lh_none))
theorem holds_group_Find (N : Nat) : Holds Try.prog 16 ⟨[T22, T9], [T3], G_group_Find N⟩ :=
  holds_of (E := E_group_Find) (inl := I_group_Find N) (H := Hz) (LH := fun _ => q_group_Find N) mixed (E_group_Find_ok N) (I_group_Find_ok N) Try.func16
    (fun x c hc => by
      obtain rfl : c_group_Find = c := by unfold c_group_Find; rw [hc]; rfl
      exact loopsOk_of (by kernel_rfl) (lh_en (k_group_Find_2 N) lh_none))
    (fun x y h => (w_group_Find N x).trans (by rw [u_group_Find_2]; exact h))
/-! trireme/lex.right -/
abbrev Y_lex_right : Type := (ByteArray × Int × Int × Unit) → Option ((Bool × Unit))
noncomputable def E_lex_right  : FuncId → Option Entry := fun f => none
noncomputable def I_lex_right {R : Type}  (N : Nat) : Inl R := inlJ Try.prog E_lex_right HNz (fun _ => HLz) Jz 4 R
def S_lex_right   (N : Nat) (x : (ByteArray × Int × Int × Unit)) : Option ((Bool × Unit)) := (br (Bool.not (decide (x.2.2.1 = (65533 : Int)))) (some (true, ())) (br (decide ((IntKind.i64.wrap (x.2.1 + (2 : Int))) < (((ByteArray.size x.1) : Nat) : Int))) (br (decide ((0 : Int) ≤ x.2.1)) (Option.bind ((Array.toList (ByteArray.data x.1))[(Int.toNat x.2.1)]?) (fun v0 => (br (decide ((((UInt8.toNat v0) : Nat) : Int) = (239 : Int))) (br (decide ((0 : Int) ≤ (IntKind.i64.wrap (x.2.1 + (1 : Int))))) (Option.bind ((Array.toList (ByteArray.data x.1))[(Int.toNat (IntKind.i64.wrap (x.2.1 + (1 : Int))))]?) (fun v1 => (br (decide ((((UInt8.toNat v1) : Nat) : Int) = (191 : Int))) (br (decide ((0 : Int) ≤ (IntKind.i64.wrap (x.2.1 + (2 : Int))))) (Option.bind ((Array.toList (ByteArray.data x.1))[(Int.toNat (IntKind.i64.wrap (x.2.1 + (2 : Int))))]?) (fun v2 => (some ((decide ((((UInt8.toNat v2) : Nat) : Int) = (189 : Int))), ())))) none) (some (false, ()))))) none) (some (false, ()))))) none) (some (false, ()))))
theorem w_lex_right  (N : Nat) (x : (ByteArray × Int × Int × Unit)) : (funO Try.prog E_lex_right (I_lex_right N) Hz (qz) Try.f89 (encVals [T9, T3, T21] x) (fun _ => .gone) 0 (fun v _ _ _ => decRes [T4] v)) = S_lex_right N x := by kernel_rfl
def G_lex_right (N : Nat) (x : (ByteArray × Int × Int × Unit)) : Option ((Bool × Unit)) := S_lex_right N x
theorem E_lex_right_ok (N : Nat) : ∀ f e, E_lex_right f = some e → Holds Try.prog f e := e_none
theorem I_lex_right_ok (N : Nat) {R : Type} : InlOk (R := R) Try.prog (I_lex_right N) := inlJ_ok mixed (E_lex_right_ok N) (fun _ f fn c hf hc => HLz_ok f fn c hf hc) _ _
theorem holds_lex_right (N : Nat) : Holds Try.prog 89 ⟨[T9, T3, T21], [T4], G_lex_right N⟩ :=
  holds_of (E := E_lex_right) (inl := I_lex_right N) (H := Hz) (LH := fun _ => qz) mixed (E_lex_right_ok N) (I_lex_right_ok N) Try.func89
    (fun x c hc => loopsOk_none c)
    (fun x y h => (w_lex_right N x).trans (by exact h))
/-! trireme/lex.plain -/
abbrev Y_lex_plain : Type := (Int × Unit) → Option ((Bool × Unit))
noncomputable def E_lex_plain  : FuncId → Option Entry := fun f => none
noncomputable def I_lex_plain {R : Type}  (N : Nat) : Inl R := inlJ Try.prog E_lex_plain HNz (fun _ => HLz) Jz 4 R
def S_lex_plain   (N : Nat) (x : (Int × Unit)) : Option ((Bool × Unit)) := (br (decide (x.1 = (40 : Int))) (some (false, ())) (br (decide (x.1 = (41 : Int))) (some (false, ())) (br (decide (x.1 = (34 : Int))) (some (false, ())) (br (decide (x.1 = (59 : Int))) (some (false, ())) (br (decide (x.1 = (127 : Int))) (some (false, ())) (some ((decide ((32 : Int) < x.1)), ())))))))
theorem w_lex_plain  (N : Nat) (x : (Int × Unit)) : (funO Try.prog E_lex_plain (I_lex_plain N) Hz (qz) Try.f81 (encVals [T21] x) (fun _ => .gone) 0 (fun v _ _ _ => decRes [T4] v)) = S_lex_plain N x := by kernel_rfl
def G_lex_plain (N : Nat) (x : (Int × Unit)) : Option ((Bool × Unit)) := S_lex_plain N x
theorem E_lex_plain_ok (N : Nat) : ∀ f e, E_lex_plain f = some e → Holds Try.prog f e := e_none
theorem I_lex_plain_ok (N : Nat) {R : Type} : InlOk (R := R) Try.prog (I_lex_plain N) := inlJ_ok mixed (E_lex_plain_ok N) (fun _ f fn c hf hc => HLz_ok f fn c hf hc) _ _
theorem holds_lex_plain (N : Nat) : Holds Try.prog 81 ⟨[T21], [T4], G_lex_plain N⟩ :=
  holds_of (E := E_lex_plain) (inl := I_lex_plain N) (H := Hz) (LH := fun _ => qz) mixed (E_lex_plain_ok N) (I_lex_plain_ok N) Try.func81
    (fun x c hc => loopsOk_none c)
    (fun x y h => (w_lex_plain N x).trans (by exact h))
/-! trireme/lex.Runes -/
abbrev Y_lex_Runes : Type := (ByteArray × Unit) → Option ((Int × Unit))
abbrev X_lex_Runes_3 : Type := ((ByteArray × Int × Unit) × ((ByteArray × Nat) × Unit))
abbrev Z_lex_Runes_3 : Type := (((Int × Unit) × ((ByteArray × Nat) × Unit)) ⊕ ((Int × Unit) × ((ByteArray × Nat) × Unit)))
noncomputable def E_lex_Runes (F89 : Y_lex_right) : FuncId → Option Entry := fun f => (br (Nat.beq f 89) (some ⟨[T9, T3, T21], [T4], F89⟩) none)
noncomputable def c_lex_Runes : Code := (Try.f82.body).getD .skip
noncomputable def I_lex_Runes {R : Type} (F89 : Y_lex_right) (N : Nat) : Inl R := inlJ Try.prog (E_lex_Runes F89) HNz (fun _ => HLz) Jz 4 R
noncomputable def b_lex_Runes_3 : Code := (loopAt c_lex_Runes 3).getD .skip
@[reducible] def L_lex_Runes_3 : LoopP := { K := 1000, bl := [(3, .siter)], sl := [(0, .val .str), (3, .val T3), (7, .cst (.ptr 3 0 0 0))], id := 0, s1 := [(3, .val T3)], s2 := [(2, .val T3)] }
noncomputable def h_lex_Runes_3 {R : Type} (F89 : Y_lex_right) (N : Nat) : LoopEntry R := LoopP.entry Try.prog (E_lex_Runes F89) L_lex_Runes_3 (I_lex_Runes F89 N) Hz (qz) b_lex_Runes_3 N
noncomputable def r_lex_Runes_3 (F89 : Y_lex_right) (N : Nat) : Nat → X_lex_Runes_3 → Option Z_lex_Runes_3 := LoopP.run Try.prog (E_lex_Runes F89) L_lex_Runes_3 (I_lex_Runes F89 N) Hz (qz) b_lex_Runes_3 20 4
def s_lex_Runes_3 (F89 : Y_lex_right)  (N : Nat) (k : X_lex_Runes_3 → Option Z_lex_Runes_3) (x : X_lex_Runes_3) : Option Z_lex_Runes_3 := (br (Nat.blt x.2.1.2 (ByteArray.size x.2.1.1)) (Option.bind (F89 (x.1.1, ((x.2.1.2 : Nat) : Int), (((Go.Utf8.decode x.2.1.1 x.2.1.2).1 : Nat) : Int), ())) (fun v0 => (br (Bool.not v0.1) (some (Sum.inr (((-(1 : Int)), ()), (x.2.1.1, (x.2.1.2 + (Go.Utf8.decode x.2.1.1 x.2.1.2).2)), ()))) (k ((x.1.1, (IntKind.i64.wrap (x.1.2.1 + (1 : Int))), ()), (x.2.1.1, (x.2.1.2 + (Go.Utf8.decode x.2.1.1 x.2.1.2).2)), ()))))) (some (Sum.inl ((x.1.2.1, ()), x.2.1, ()))))
theorem t_lex_Runes_3 (F89 : Y_lex_right) (N : Nat) (k : X_lex_Runes_3 → Option Z_lex_Runes_3) (x : X_lex_Runes_3) : (LoopP.step Try.prog (E_lex_Runes F89) L_lex_Runes_3 (I_lex_Runes F89 N) Hz (qz) b_lex_Runes_3 20 4 k x) = s_lex_Runes_3 F89 N k x := by kernel_rfl
def l_lex_Runes_3 (F89 : Y_lex_right) (N : Nat) : Nat → X_lex_Runes_3 → Option Z_lex_Runes_3
  | 0 => fun _ => none
  | m + 1 => fun x => s_lex_Runes_3 F89 N ((l_lex_Runes_3 F89) N m) x
theorem u_lex_Runes_3 (F89 : Y_lex_right) (N : Nat) : (r_lex_Runes_3 F89) N = (l_lex_Runes_3 F89) N := run_eq (s_lex_Runes_3 F89 N) (fun _ => rfl) (fun m x => (LoopP.run_succ ..).trans ((t_lex_Runes_3 F89 N (r_lex_Runes_3 F89 N m) x).trans rfl)) (fun _ => rfl) (fun _ _ => rfl)
noncomputable def q_lex_Runes {R : Type} (F89 : Y_lex_right) (N : Nat) : Nat → Option (LoopEntry R) := (fun i => (br (Nat.beq i 3) (some ((h_lex_Runes_3 F89) N)) none))
def S_lex_Runes (F89 : Y_lex_right) (R3 : Nat → X_lex_Runes_3 → Option Z_lex_Runes_3) (N : Nat) (x : (ByteArray × Unit)) : Option ((Int × Unit)) := (Option.bind (R3 N ((x.1, (0 : Int), ()), (x.1, 0), ())) (fun v0 => (Sum.elim (fun v1 => (some (v1.1.1, ()))) (fun v1 => (some (v1.1.1, ()))) v0)))
theorem w_lex_Runes (F89 : Y_lex_right) (N : Nat) (x : (ByteArray × Unit)) : (funO Try.prog (E_lex_Runes F89) (I_lex_Runes F89 N) Hz ((q_lex_Runes F89) N) Try.f82 (encVals [T9] x) (fun _ => .gone) 0 (fun v _ _ _ => decRes [T3] v)) = S_lex_Runes F89 (r_lex_Runes_3 F89 N) N x := by kernel_rfl
def g_lex_Runes_3 (N : Nat) : Nat → X_lex_Runes_3 → Option Z_lex_Runes_3 := l_lex_Runes_3 (G_lex_right N) N
theorem g_lex_Runes_3_succ (N : Nat) (m : Nat) (x : X_lex_Runes_3) : g_lex_Runes_3 N (m + 1) x = s_lex_Runes_3 (G_lex_right N) N (g_lex_Runes_3 N m) x := rfl
def G_lex_Runes (N : Nat) (x : (ByteArray × Unit)) : Option ((Int × Unit)) := S_lex_Runes (G_lex_right N) (g_lex_Runes_3 N) N x
theorem E_lex_Runes_ok (N : Nat) : ∀ f e, E_lex_Runes (G_lex_right N) f = some e → Holds Try.prog f e := e_br (holds_lex_right N) (e_none)
theorem I_lex_Runes_ok (N : Nat) {R : Type} : InlOk (R := R) Try.prog (I_lex_Runes (G_lex_right N) N) := inlJ_ok mixed (E_lex_Runes_ok N) (fun _ f fn c hf hc => HLz_ok f fn c hf hc) _ _
theorem k_lex_Runes_3 (N : Nat) {R : Type} : LoopOk Try.prog b_lex_Runes_3 (h_lex_Runes_3 (R := R) (G_lex_right N) N) := LoopP.entry_ok (code_sound mixed (E_lex_Runes_ok N) (I_lex_Runes_ok N) b_lex_Runes_3 (loopsOk_of (by kernel_rfl) lh_none))
theorem holds_lex_Runes (N : Nat) : Holds Try.prog 82 ⟨[T9], [T3], G_lex_Runes N⟩ :=
  holds_of (E := E_lex_Runes (G_lex_right N)) (inl := I_lex_Runes (G_lex_right N) N) (H := Hz) (LH := fun _ => q_lex_Runes (G_lex_right N) N) mixed (E_lex_Runes_ok N) (I_lex_Runes_ok N) Try.func82
    (fun x c hc => by
      obtain rfl : c_lex_Runes = c := by unfold c_lex_Runes; rw [hc]; rfl
      exact loopsOk_of (by kernel_rfl) (lh_en (k_lex_Runes_3 N) lh_none))
    (fun x y h => (w_lex_Runes (G_lex_right N) N x).trans (by rw [u_lex_Runes_3]; exact h))
/-! trireme/lex.Word -/
abbrev Y_lex_Word : Type := (ByteArray × Unit) → Option ((Bool × Unit))
abbrev Xx_lex_Word_0 : Type := ((ByteArray × Unit) × ((ByteArray × Nat) × Unit))
abbrev Zx_lex_Word_0 : Type := (((ByteArray × Unit) × ((ByteArray × Nat) × Unit)) ⊕ ((Int × Bool × Unit) × ((ByteArray × Nat) × Unit)))
noncomputable def E_lex_Word (F81 : Y_lex_plain) (F82 : Y_lex_Runes) (F89 : Y_lex_right) : FuncId → Option Entry := fun f => (br (Nat.beq f 81) (some ⟨[T21], [T4], F81⟩) (br (Nat.beq f 82) (some ⟨[T9], [T3], F82⟩) (br (Nat.beq f 89) (some ⟨[T9, T3, T21], [T4], F89⟩) none)))
noncomputable def HLx_lex_Word_0 {R : Type} (F81 : Y_lex_plain) (F82 : Y_lex_Runes) (F89 : Y_lex_right) (N : Nat) : FuncId → Nat → Option (LoopEntry R) := loopTab [] []
noncomputable def Ix_lex_Word_0 {R : Type} (F81 : Y_lex_plain) (F82 : Y_lex_Runes) (F89 : Y_lex_right) (N : Nat) : Inl R := inlJ Try.prog (E_lex_Word F81 F82 F89) HNz (fun _ => (HLx_lex_Word_0 F81 F82 F89 N)) Jz 4 R
noncomputable def bx_lex_Word_0 : Code := (loopAt ((Try.f80.body).getD .skip) 2).getD .skip
@[reducible] def Lx_lex_Word_0 : LoopP := { K := 1000, bl := [(11, .siter)], sl := [(0, .val .str), (1, .cst (.fn (.func 81) [] [])), (9, .cst (.ptr 11 0 0 0))], id := 0, s1 := [(0, .val .str)], s2 := [(4, .val T3), (5, .val T4)] }
noncomputable def hx_lex_Word_0 {R : Type} (F81 : Y_lex_plain) (F82 : Y_lex_Runes) (F89 : Y_lex_right) (N : Nat) : LoopEntry R := LoopP.entry Try.prog (E_lex_Word F81 F82 F89) Lx_lex_Word_0 (Ix_lex_Word_0 F81 F82 F89 N) (HNz 80) ((HLx_lex_Word_0 F81 F82 F89 N) 80) bx_lex_Word_0 N
noncomputable def rx_lex_Word_0 (F81 : Y_lex_plain) (F82 : Y_lex_Runes) (F89 : Y_lex_right) (N : Nat) : Nat → Xx_lex_Word_0 → Option Zx_lex_Word_0 := LoopP.run Try.prog (E_lex_Word F81 F82 F89) Lx_lex_Word_0 (Ix_lex_Word_0 F81 F82 F89 N) (HNz 80) ((HLx_lex_Word_0 F81 F82 F89 N) 80) bx_lex_Word_0 27 12
noncomputable def HL_lex_Word {R : Type} (F81 : Y_lex_plain) (F82 : Y_lex_Runes) (F89 : Y_lex_right) (N : Nat) : FuncId → Nat → Option (LoopEntry R) := loopTab [(80, 2, 12, (hx_lex_Word_0 F81 F82 F89 N))] []
noncomputable def I_lex_Word {R : Type} (F81 : Y_lex_plain) (F82 : Y_lex_Runes) (F89 : Y_lex_right) (N : Nat) : Inl R := inlJ Try.prog (E_lex_Word F81 F82 F89) HNz (fun _ => (HL_lex_Word F81 F82 F89 N)) Jz 4 R
def sx_lex_Word_0 (F81 : Y_lex_plain) (F82 : Y_lex_Runes) (F89 : Y_lex_right)  (N : Nat) (k : Xx_lex_Word_0 → Option Zx_lex_Word_0) (x : Xx_lex_Word_0) : Option Zx_lex_Word_0 := (br (Nat.blt x.2.1.2 (ByteArray.size x.2.1.1)) (Option.bind (F89 (x.1.1, ((x.2.1.2 : Nat) : Int), (((Go.Utf8.decode x.2.1.1 x.2.1.2).1 : Nat) : Int), ())) (fun v0 => (br (Bool.not v0.1) (some (Sum.inr ((((x.2.1.2 : Nat) : Int), false, ()), (x.2.1.1, (x.2.1.2 + (Go.Utf8.decode x.2.1.1 x.2.1.2).2)), ()))) (Option.bind (F81 ((((Go.Utf8.decode x.2.1.1 x.2.1.2).1 : Nat) : Int), ())) (fun v1 => (br (Bool.not v1.1) (some (Sum.inr ((((x.2.1.2 : Nat) : Int), true, ()), (x.2.1.1, (x.2.1.2 + (Go.Utf8.decode x.2.1.1 x.2.1.2).2)), ()))) (k ((x.1.1, ()), (x.2.1.1, (x.2.1.2 + (Go.Utf8.decode x.2.1.1 x.2.1.2).2)), ())))))))) (some (Sum.inl ((x.1.1, ()), x.2.1, ()))))
theorem tx_lex_Word_0 (F81 : Y_lex_plain) (F82 : Y_lex_Runes) (F89 : Y_lex_right) (N : Nat) (k : Xx_lex_Word_0 → Option Zx_lex_Word_0) (x : Xx_lex_Word_0) : (LoopP.step Try.prog (E_lex_Word F81 F82 F89) Lx_lex_Word_0 (Ix_lex_Word_0 F81 F82 F89 N) (HNz 80) ((HLx_lex_Word_0 F81 F82 F89 N) 80) bx_lex_Word_0 27 12 k x) = sx_lex_Word_0 F81 F82 F89 N k x := by kernel_rfl
def lx_lex_Word_0 (F81 : Y_lex_plain) (F82 : Y_lex_Runes) (F89 : Y_lex_right) (N : Nat) : Nat → Xx_lex_Word_0 → Option Zx_lex_Word_0
  | 0 => fun _ => none
  | m + 1 => fun x => sx_lex_Word_0 F81 F82 F89 N ((lx_lex_Word_0 F81 F82 F89) N m) x
theorem ux_lex_Word_0 (F81 : Y_lex_plain) (F82 : Y_lex_Runes) (F89 : Y_lex_right) (N : Nat) : (rx_lex_Word_0 F81 F82 F89) N = (lx_lex_Word_0 F81 F82 F89) N := run_eq (sx_lex_Word_0 F81 F82 F89 N) (fun _ => rfl) (fun m x => (LoopP.run_succ ..).trans ((tx_lex_Word_0 F81 F82 F89 N (rx_lex_Word_0 F81 F82 F89 N m) x).trans rfl)) (fun _ => rfl) (fun _ _ => rfl)
def S_lex_Word (F81 : Y_lex_plain) (F82 : Y_lex_Runes) (F89 : Y_lex_right) (Rx0 : Nat → Xx_lex_Word_0 → Option Zx_lex_Word_0) (N : Nat) (x : (ByteArray × Unit)) : Option ((Bool × Unit)) := (Option.bind (Rx0 N ((x.1, ()), (x.1, 0), ())) (fun v0 => (Sum.elim (fun v1 => (br (decide ((((ByteArray.size v1.1.1) : Nat) : Int) = (((ByteArray.size x.1) : Nat) : Int))) (br (decide ((0 : Int) < (((ByteArray.size v1.1.1) : Nat) : Int))) (Option.bind (F82 (x.1, ())) (fun v2 => (some ((decide (v2.1 ≤ (64 : Int))), ())))) (some (false, ()))) (some (false, ())))) (fun v1 => (br v1.1.2.1 (br (decide (v1.1.1 = (((ByteArray.size x.1) : Nat) : Int))) (br (decide ((0 : Int) < v1.1.1)) (Option.bind (F82 (x.1, ())) (fun v2 => (some ((decide (v2.1 ≤ (64 : Int))), ())))) (some (false, ()))) (some (false, ()))) (some (false, ())))) v0)))
theorem w_lex_Word (F81 : Y_lex_plain) (F82 : Y_lex_Runes) (F89 : Y_lex_right) (N : Nat) (x : (ByteArray × Unit)) : (funO Try.prog (E_lex_Word F81 F82 F89) (I_lex_Word F81 F82 F89 N) Hz (qz) Try.f70 (encVals [T9] x) (fun _ => .gone) 0 (fun v _ _ _ => decRes [T4] v)) = S_lex_Word F81 F82 F89 (rx_lex_Word_0 F81 F82 F89 N) N x := by kernel_rfl
def gx_lex_Word_0 (N : Nat) : Nat → Xx_lex_Word_0 → Option Zx_lex_Word_0 := lx_lex_Word_0 (G_lex_plain N) (G_lex_Runes N) (G_lex_right N) N
theorem gx_lex_Word_0_succ (N : Nat) (m : Nat) (x : Xx_lex_Word_0) : gx_lex_Word_0 N (m + 1) x = sx_lex_Word_0 (G_lex_plain N) (G_lex_Runes N) (G_lex_right N) N (gx_lex_Word_0 N m) x := rfl
def G_lex_Word (N : Nat) (x : (ByteArray × Unit)) : Option ((Bool × Unit)) := S_lex_Word (G_lex_plain N) (G_lex_Runes N) (G_lex_right N) (gx_lex_Word_0 N) N x
theorem E_lex_Word_ok (N : Nat) : ∀ f e, E_lex_Word (G_lex_plain N) (G_lex_Runes N) (G_lex_right N) f = some e → Holds Try.prog f e := e_br (holds_lex_plain N) (e_br (holds_lex_Runes N) (e_br (holds_lex_right N) (e_none)))
theorem HLx_lex_Word_0_ok (N : Nat) {R : Type} (f : FuncId) (fn : Func) (c : Code) (hf : Try.prog.funcs[f]? = some fn) (hc : fn.body = some c) : LoopsOk Try.prog (HLx_lex_Word_0 (R := R) (G_lex_plain N) (G_lex_Runes N) (G_lex_right N) N f) c := loopTab_ok tabs_nil hf hc
theorem Ix_lex_Word_0_ok (N : Nat) {R : Type} : InlOk (R := R) Try.prog (Ix_lex_Word_0 (G_lex_plain N) (G_lex_Runes N) (G_lex_right N) N) := inlJ_ok mixed (E_lex_Word_ok N) (fun _ f fn c hf hc => HLx_lex_Word_0_ok N f fn c hf hc) _ _
theorem kx_lex_Word_0 (N : Nat) {R : Type} : LoopOk Try.prog bx_lex_Word_0 (hx_lex_Word_0 (R := R) (G_lex_plain N) (G_lex_Runes N) (G_lex_right N) N) := LoopP.entry_ok (code_sound mixed (E_lex_Word_ok N) (Ix_lex_Word_0_ok N) bx_lex_Word_0 (loopsOk_getD (HLx_lex_Word_0_ok N 80 Try.f80 _ Try.func80 rfl)))
theorem HL_lex_Word_ok (N : Nat) {R : Type} (f : FuncId) (fn : Func) (c : Code) (hf : Try.prog.funcs[f]? = some fn) (hc : fn.body = some c) : LoopsOk Try.prog (HL_lex_Word (R := R) (G_lex_plain N) (G_lex_Runes N) (G_lex_right N) N f) c := loopTab_ok (tabs_cons (tab_ok 80 2 12 Try.f80 ((Try.f80.body).getD .skip) Try.func80 rfl (by kernel_rfl) (kx_lex_Word_0 N)) tabs_nil) hf hc
theorem I_lex_Word_ok (N : Nat) {R : Type} : InlOk (R := R) Try.prog (I_lex_Word (G_lex_plain N) (G_lex_Runes N) (G_lex_right N) N) := inlJ_ok mixed (E_lex_Word_ok N) (fun _ f fn c hf hc => HL_lex_Word_ok N f fn c hf hc) _ _
theorem holds_lex_Word (N : Nat) : Holds Try.prog 70 ⟨[T9], [T4], G_lex_Word N⟩ :=
  holds_of (E := E_lex_Word (G_lex_plain N) (G_lex_Runes N) (G_lex_right N)) (inl := I_lex_Word (G_lex_plain N) (G_lex_Runes N) (G_lex_right N) N) (H := Hz) (LH := fun _ => qz) mixed (E_lex_Word_ok N) (I_lex_Word_ok N) Try.func70
    (fun x c hc => loopsOk_none c)
    (fun x y h => (w_lex_Word (G_lex_plain N) (G_lex_Runes N) (G_lex_right N) N x).trans (by rw [ux_lex_Word_0]; exact h))
/-! trireme/spec.between -/
abbrev Y_spec_between : Type := (Int × Int × Int × Unit) → Option ((Bool × Unit))
noncomputable def E_spec_between  : FuncId → Option Entry := fun f => none
noncomputable def I_spec_between {R : Type}  (N : Nat) : Inl R := inlJ Try.prog E_spec_between HNz (fun _ => HLz) Jz 4 R
def S_spec_between   (N : Nat) (x : (Int × Int × Int × Unit)) : Option ((Bool × Unit)) := (br (decide (x.2.1 ≤ x.1)) (some ((decide (x.1 ≤ x.2.2.1)), ())) (some (false, ())))
theorem w_spec_between  (N : Nat) (x : (Int × Int × Int × Unit)) : (funO Try.prog E_spec_between (I_spec_between N) Hz (qz) Try.f71 (encVals [T3, T3, T3] x) (fun _ => .gone) 0 (fun v _ _ _ => decRes [T4] v)) = S_spec_between N x := by kernel_rfl
def G_spec_between (N : Nat) (x : (Int × Int × Int × Unit)) : Option ((Bool × Unit)) := S_spec_between N x
theorem E_spec_between_ok (N : Nat) : ∀ f e, E_spec_between f = some e → Holds Try.prog f e := e_none
theorem I_spec_between_ok (N : Nat) {R : Type} : InlOk (R := R) Try.prog (I_spec_between N) := inlJ_ok mixed (E_spec_between_ok N) (fun _ f fn c hf hc => HLz_ok f fn c hf hc) _ _
theorem holds_spec_between (N : Nat) : Holds Try.prog 71 ⟨[T3, T3, T3], [T4], G_spec_between N⟩ :=
  holds_of (E := E_spec_between) (inl := I_spec_between N) (H := Hz) (LH := fun _ => qz) mixed (E_spec_between_ok N) (I_spec_between_ok N) Try.func71
    (fun x c hc => loopsOk_none c)
    (fun x y h => (w_spec_between N x).trans (by exact h))
/-! trireme/spec.maybe -/
abbrev Y_spec_maybe : Type := (ByteArray × Unit) → Option ((Bool × Unit))
noncomputable def E_spec_maybe (F70 : Y_lex_Word) : FuncId → Option Entry := fun f => (br (Nat.beq f 70) (some ⟨[T9], [T4], F70⟩) none)
noncomputable def I_spec_maybe {R : Type} (F70 : Y_lex_Word) (N : Nat) : Inl R := inlJ Try.prog (E_spec_maybe F70) HNz (fun _ => HLz) Jz 4 R
def S_spec_maybe (F70 : Y_lex_Word)  (N : Nat) (x : (ByteArray × Unit)) : Option ((Bool × Unit)) := (br (decide (x.1 = (ByteArray.mk (List.toArray [])))) (some (true, ())) (Option.bind (F70 (x.1, ())) (fun v0 => (some (v0.1, ())))))
theorem w_spec_maybe (F70 : Y_lex_Word) (N : Nat) (x : (ByteArray × Unit)) : (funO Try.prog (E_spec_maybe F70) (I_spec_maybe F70 N) Hz (qz) Try.f83 (encVals [T9] x) (fun _ => .gone) 0 (fun v _ _ _ => decRes [T4] v)) = S_spec_maybe F70 N x := by kernel_rfl
def G_spec_maybe (N : Nat) (x : (ByteArray × Unit)) : Option ((Bool × Unit)) := S_spec_maybe (G_lex_Word N) N x
theorem E_spec_maybe_ok (N : Nat) : ∀ f e, E_spec_maybe (G_lex_Word N) f = some e → Holds Try.prog f e := e_br (holds_lex_Word N) (e_none)
theorem I_spec_maybe_ok (N : Nat) {R : Type} : InlOk (R := R) Try.prog (I_spec_maybe (G_lex_Word N) N) := inlJ_ok mixed (E_spec_maybe_ok N) (fun _ f fn c hf hc => HLz_ok f fn c hf hc) _ _
theorem holds_spec_maybe (N : Nat) : Holds Try.prog 83 ⟨[T9], [T4], G_spec_maybe N⟩ :=
  holds_of (E := E_spec_maybe (G_lex_Word N)) (inl := I_spec_maybe (G_lex_Word N) N) (H := Hz) (LH := fun _ => qz) mixed (E_spec_maybe_ok N) (I_spec_maybe_ok N) Try.func83
    (fun x c hc => loopsOk_none c)
    (fun x y h => (w_spec_maybe (G_lex_Word N) N x).trans (by exact h))
/-! trireme/res.row -/
abbrev Y_res_row : Type := ((Int × (Int × (Int × (Int × Int)))) × Unit) → Option (((Int × (Int × (Int × (Int × Int)))) × Unit))
noncomputable def E_res_row  : FuncId → Option Entry := fun f => none
noncomputable def I_res_row {R : Type}  (N : Nat) : Inl R := inlJ Try.prog E_res_row HNz (fun _ => HLz) Jz 4 R
def S_res_row   (N : Nat) (x : ((Int × (Int × (Int × (Int × Int)))) × Unit)) : Option (((Int × (Int × (Int × (Int × Int)))) × Unit)) := (some (x.1, ()))
theorem w_res_row  (N : Nat) (x : ((Int × (Int × (Int × (Int × Int)))) × Unit)) : (funO Try.prog E_res_row (I_res_row N) Hz (qz) Try.f90 (encVals [T34] x) (fun _ => .gone) 0 (fun v _ _ _ => decRes [T123] v)) = S_res_row N x := by kernel_rfl
def G_res_row (N : Nat) (x : ((Int × (Int × (Int × (Int × Int)))) × Unit)) : Option (((Int × (Int × (Int × (Int × Int)))) × Unit)) := S_res_row N x
theorem E_res_row_ok (N : Nat) : ∀ f e, E_res_row f = some e → Holds Try.prog f e := e_none
theorem I_res_row_ok (N : Nat) {R : Type} : InlOk (R := R) Try.prog (I_res_row N) := inlJ_ok mixed (E_res_row_ok N) (fun _ f fn c hf hc => HLz_ok f fn c hf hc) _ _
theorem holds_res_row (N : Nat) : Holds Try.prog 90 ⟨[T34], [T123], G_res_row N⟩ :=
  holds_of (E := E_res_row) (inl := I_res_row N) (H := Hz) (LH := fun _ => qz) mixed (E_res_row_ok N) (I_res_row_ok N) Try.func90
    (fun x c hc => loopsOk_none c)
    (fun x y h => (w_res_row N x).trans (by exact h))
/-! trireme/res.Right -/
abbrev Y_res_Right : Type := ((Int × (Int × (Int × (Int × Int)))) × Unit) → Option ((Bool × Unit))
noncomputable def E_res_Right (F90 : Y_res_row) : FuncId → Option Entry := fun f => (br (Nat.beq f 90) (some ⟨[T34], [T123], F90⟩) none)
noncomputable def c_res_Right : Code := (Try.f84.body).getD .skip
noncomputable def I_res_Right {R : Type} (F90 : Y_res_row) (N : Nat) : Inl R := inlJ Try.prog (E_res_Right F90) HNz (fun _ => HLz) Jz 4 R
noncomputable def q_res_Right {R : Type} (F90 : Y_res_row) (N : Nat) : Nat → Option (LoopEntry R) := (fun i => (br (Nat.beq i 2) (some (.unroll 6)) none))
def S_res_Right (F90 : Y_res_row)  (N : Nat) (x : ((Int × (Int × (Int × (Int × Int)))) × Unit)) : Option ((Bool × Unit)) := (Option.bind (F90 (x.1, ())) (fun v0 => (br (decide (v0.1.1 < (0 : Int))) (some (false, ())) (br (decide ((1125899906842624 : Int) < v0.1.1)) (some (false, ())) (br (decide (v0.1.2.1 < (0 : Int))) (some (false, ())) (br (decide ((1125899906842624 : Int) < v0.1.2.1)) (some (false, ())) (br (decide (v0.1.2.2.1 < (0 : Int))) (some (false, ())) (br (decide ((1125899906842624 : Int) < v0.1.2.2.1)) (some (false, ())) (br (decide (v0.1.2.2.2.1 < (0 : Int))) (some (false, ())) (br (decide ((1125899906842624 : Int) < v0.1.2.2.2.1)) (some (false, ())) (br (decide (v0.1.2.2.2.2 < (0 : Int))) (some (false, ())) (br (decide ((1125899906842624 : Int) < v0.1.2.2.2.2)) (some (false, ())) (some (true, ()))))))))))))))
theorem w_res_Right (F90 : Y_res_row) (N : Nat) (x : ((Int × (Int × (Int × (Int × Int)))) × Unit)) : (funO Try.prog (E_res_Right F90) (I_res_Right F90 N) Hz ((q_res_Right F90) N) Try.f84 (encVals [T34] x) (fun _ => .gone) 0 (fun v _ _ _ => decRes [T4] v)) = S_res_Right F90 N x := by kernel_rfl
def G_res_Right (N : Nat) (x : ((Int × (Int × (Int × (Int × Int)))) × Unit)) : Option ((Bool × Unit)) := S_res_Right (G_res_row N) N x
theorem E_res_Right_ok (N : Nat) : ∀ f e, E_res_Right (G_res_row N) f = some e → Holds Try.prog f e := e_br (holds_res_row N) (e_none)
theorem I_res_Right_ok (N : Nat) {R : Type} : InlOk (R := R) Try.prog (I_res_Right (G_res_row N) N) := inlJ_ok mixed (E_res_Right_ok N) (fun _ f fn c hf hc => HLz_ok f fn c hf hc) _ _
theorem holds_res_Right (N : Nat) : Holds Try.prog 84 ⟨[T34], [T4], G_res_Right N⟩ :=
  holds_of (E := E_res_Right (G_res_row N)) (inl := I_res_Right (G_res_row N) N) (H := Hz) (LH := fun _ => q_res_Right (G_res_row N) N) mixed (E_res_Right_ok N) (I_res_Right_ok N) Try.func84
    (fun x c hc => by
      obtain rfl : c_res_Right = c := by unfold c_res_Right; rw [hc]; rfl
      exact loopsOk_of (by kernel_rfl) (lh_un lh_none))
    (fun x y h => (w_res_Right (G_res_row N) N x).trans (by exact h))
/-! trireme/labels.maybe -/
abbrev Y_labels_maybe : Type := (ByteArray × Unit) → Option ((Bool × Unit))
noncomputable def E_labels_maybe (F70 : Y_lex_Word) : FuncId → Option Entry := fun f => (br (Nat.beq f 70) (some ⟨[T9], [T4], F70⟩) none)
noncomputable def I_labels_maybe {R : Type} (F70 : Y_lex_Word) (N : Nat) : Inl R := inlJ Try.prog (E_labels_maybe F70) HNz (fun _ => HLz) Jz 4 R
def S_labels_maybe (F70 : Y_lex_Word)  (N : Nat) (x : (ByteArray × Unit)) : Option ((Bool × Unit)) := (br (decide (x.1 = (ByteArray.mk (List.toArray [])))) (some (true, ())) (Option.bind (F70 (x.1, ())) (fun v0 => (some (v0.1, ())))))
theorem w_labels_maybe (F70 : Y_lex_Word) (N : Nat) (x : (ByteArray × Unit)) : (funO Try.prog (E_labels_maybe F70) (I_labels_maybe F70 N) Hz (qz) Try.f91 (encVals [T9] x) (fun _ => .gone) 0 (fun v _ _ _ => decRes [T4] v)) = S_labels_maybe F70 N x := by kernel_rfl
def G_labels_maybe (N : Nat) (x : (ByteArray × Unit)) : Option ((Bool × Unit)) := S_labels_maybe (G_lex_Word N) N x
theorem E_labels_maybe_ok (N : Nat) : ∀ f e, E_labels_maybe (G_lex_Word N) f = some e → Holds Try.prog f e := e_br (holds_lex_Word N) (e_none)
theorem I_labels_maybe_ok (N : Nat) {R : Type} : InlOk (R := R) Try.prog (I_labels_maybe (G_lex_Word N) N) := inlJ_ok mixed (E_labels_maybe_ok N) (fun _ f fn c hf hc => HLz_ok f fn c hf hc) _ _
theorem holds_labels_maybe (N : Nat) : Holds Try.prog 91 ⟨[T9], [T4], G_labels_maybe N⟩ :=
  holds_of (E := E_labels_maybe (G_lex_Word N)) (inl := I_labels_maybe (G_lex_Word N) N) (H := Hz) (LH := fun _ => qz) mixed (E_labels_maybe_ok N) (I_labels_maybe_ok N) Try.func91
    (fun x c hc => loopsOk_none c)
    (fun x y h => (w_labels_maybe (G_lex_Word N) N x).trans (by exact h))
/-! trireme/labels.Right -/
abbrev Y_labels_Right : Type := ((List (ByteArray × ByteArray)) × Unit) → Option ((Bool × Unit))
abbrev X_labels_Right_3 : Type := (((List (ByteArray × ByteArray)) × (List (ByteArray × ByteArray)) × Int × Int × Unit) × ((List (ByteArray × Int)) × Unit))
abbrev Z_labels_Right_3 : Type := ((((List (ByteArray × ByteArray)) × Unit) × ((List (ByteArray × Int)) × Unit)) ⊕ ((Bool × Unit) × ((List (ByteArray × Int)) × Unit)))
noncomputable def E_labels_Right (F70 : Y_lex_Word) (F91 : Y_labels_maybe) : FuncId → Option Entry := fun f => (br (Nat.beq f 70) (some ⟨[T9], [T4], F70⟩) (br (Nat.beq f 91) (some ⟨[T9], [T4], F91⟩) none))
noncomputable def c_labels_Right : Code := (Try.f85.body).getD .skip
noncomputable def I_labels_Right {R : Type} (F70 : Y_lex_Word) (F91 : Y_labels_maybe) (N : Nat) : Inl R := inlJ Try.prog (E_labels_Right F70 F91) HNz (fun _ => HLz) Jz 4 R
noncomputable def b_labels_Right_3 : Code := (loopAt c_labels_Right 3).getD .skip
@[reducible] def L_labels_Right_3 : LoopP := { K := 1000, bl := [(1, .map .str T3)], sl := [(0, .val T35), (3, .cst (.map 1)), (7, .val T35), (8, .val T3), (9, .val T3)], id := 0, s1 := [(0, .val T35)], s2 := [(2, .val T4)] }
noncomputable def h_labels_Right_3 {R : Type} (F70 : Y_lex_Word) (F91 : Y_labels_maybe) (N : Nat) : LoopEntry R := LoopP.entry Try.prog (E_labels_Right F70 F91) L_labels_Right_3 (I_labels_Right F70 F91 N) Hz (qz) b_labels_Right_3 N
noncomputable def r_labels_Right_3 (F70 : Y_lex_Word) (F91 : Y_labels_maybe) (N : Nat) : Nat → X_labels_Right_3 → Option Z_labels_Right_3 := LoopP.run Try.prog (E_labels_Right F70 F91) L_labels_Right_3 (I_labels_Right F70 F91 N) Hz (qz) b_labels_Right_3 55 6
def s_labels_Right_3 (F70 : Y_lex_Word) (F91 : Y_labels_maybe)  (N : Nat) (k : X_labels_Right_3 → Option Z_labels_Right_3) (x : X_labels_Right_3) : Option Z_labels_Right_3 := (br (decide (x.1.2.2.2.1 < x.1.2.2.1)) (br (decide ((0 : Int) ≤ x.1.2.2.2.1)) (Option.bind (x.1.2.1[(Int.toNat x.1.2.2.2.1)]?) (fun v0 => (br (decide ((1 : Int) < (Option.getD (mget Ty.str (mset Ty.str x.2.1 v0.1 (IntKind.i64.wrap ((Option.getD (mget Ty.str x.2.1 v0.1) (0 : Int)) + (1 : Int)))) v0.1) (0 : Int)))) (some (Sum.inr ((false, ()), (mset Ty.str x.2.1 v0.1 (IntKind.i64.wrap ((Option.getD (mget Ty.str x.2.1 v0.1) (0 : Int)) + (1 : Int)))), ()))) (Option.bind (F70 (v0.1, ())) (fun v1 => (br (Bool.not v1.1) (some (Sum.inr ((false, ()), (mset Ty.str x.2.1 v0.1 (IntKind.i64.wrap ((Option.getD (mget Ty.str x.2.1 v0.1) (0 : Int)) + (1 : Int)))), ()))) (Option.bind (F91 (v0.2, ())) (fun v2 => (br (Bool.not v2.1) (some (Sum.inr ((false, ()), (mset Ty.str x.2.1 v0.1 (IntKind.i64.wrap ((Option.getD (mget Ty.str x.2.1 v0.1) (0 : Int)) + (1 : Int)))), ()))) (br (decide ((0 : Int) < x.1.2.2.2.1)) (br (decide ((0 : Int) ≤ (IntKind.i64.wrap (x.1.2.2.2.1 - (1 : Int))))) (Option.bind (x.1.1[(Int.toNat (IntKind.i64.wrap (x.1.2.2.2.1 - (1 : Int))))]?) (fun v3 => (br (Bool.not (Bool.or (bl v3.1 v0.1) (decide (v3.1 = v0.1)))) (some (Sum.inr ((false, ()), (mset Ty.str x.2.1 v0.1 (IntKind.i64.wrap ((Option.getD (mget Ty.str x.2.1 v0.1) (0 : Int)) + (1 : Int)))), ()))) (k ((x.1.1, x.1.2.1, x.1.2.2.1, (IntKind.i64.wrap (x.1.2.2.2.1 + (1 : Int))), ()), (mset Ty.str x.2.1 v0.1 (IntKind.i64.wrap ((Option.getD (mget Ty.str x.2.1 v0.1) (0 : Int)) + (1 : Int)))), ()))))) none) (k ((x.1.1, x.1.2.1, x.1.2.2.1, (IntKind.i64.wrap (x.1.2.2.2.1 + (1 : Int))), ()), (mset Ty.str x.2.1 v0.1 (IntKind.i64.wrap ((Option.getD (mget Ty.str x.2.1 v0.1) (0 : Int)) + (1 : Int)))), ())))))))))))) none) (some (Sum.inl ((x.1.1, ()), x.2.1, ()))))
theorem t_labels_Right_3 (F70 : Y_lex_Word) (F91 : Y_labels_maybe) (N : Nat) (k : X_labels_Right_3 → Option Z_labels_Right_3) (x : X_labels_Right_3) : (LoopP.step Try.prog (E_labels_Right F70 F91) L_labels_Right_3 (I_labels_Right F70 F91 N) Hz (qz) b_labels_Right_3 55 6 k x) = s_labels_Right_3 F70 F91 N k x := by kernel_rfl
def l_labels_Right_3 (F70 : Y_lex_Word) (F91 : Y_labels_maybe) (N : Nat) : Nat → X_labels_Right_3 → Option Z_labels_Right_3
  | 0 => fun _ => none
  | m + 1 => fun x => s_labels_Right_3 F70 F91 N ((l_labels_Right_3 F70 F91) N m) x
theorem u_labels_Right_3 (F70 : Y_lex_Word) (F91 : Y_labels_maybe) (N : Nat) : (r_labels_Right_3 F70 F91) N = (l_labels_Right_3 F70 F91) N := run_eq (s_labels_Right_3 F70 F91 N) (fun _ => rfl) (fun m x => (LoopP.run_succ ..).trans ((t_labels_Right_3 F70 F91 N (r_labels_Right_3 F70 F91 N m) x).trans rfl)) (fun _ => rfl) (fun _ _ => rfl)
noncomputable def q_labels_Right {R : Type} (F70 : Y_lex_Word) (F91 : Y_labels_maybe) (N : Nat) : Nat → Option (LoopEntry R) := (fun i => (br (Nat.beq i 3) (some ((h_labels_Right_3 F70 F91) N)) none))
def S_labels_Right (F70 : Y_lex_Word) (F91 : Y_labels_maybe) (R3 : Nat → X_labels_Right_3 → Option Z_labels_Right_3) (N : Nat) (x : ((List (ByteArray × ByteArray)) × Unit)) : Option ((Bool × Unit)) := (Option.bind (R3 N ((x.1, x.1, (((List.length x.1) : Nat) : Int), (0 : Int), ()), [], ())) (fun v0 => (Sum.elim (fun v1 => (some ((decide ((((List.length v1.1.1) : Nat) : Int) ≤ (16 : Int))), ()))) (fun v1 => (some (v1.1.1, ()))) v0)))
theorem w_labels_Right (F70 : Y_lex_Word) (F91 : Y_labels_maybe) (N : Nat) (x : ((List (ByteArray × ByteArray)) × Unit)) : (funO Try.prog (E_labels_Right F70 F91) (I_labels_Right F70 F91 N) Hz ((q_labels_Right F70 F91) N) Try.f85 (encVals [T35] x) (fun _ => .gone) 0 (fun v _ _ _ => decRes [T4] v)) = S_labels_Right F70 F91 (r_labels_Right_3 F70 F91 N) N x := by kernel_rfl
def g_labels_Right_3 (N : Nat) : Nat → X_labels_Right_3 → Option Z_labels_Right_3 := l_labels_Right_3 (G_lex_Word N) (G_labels_maybe N) N
theorem g_labels_Right_3_succ (N : Nat) (m : Nat) (x : X_labels_Right_3) : g_labels_Right_3 N (m + 1) x = s_labels_Right_3 (G_lex_Word N) (G_labels_maybe N) N (g_labels_Right_3 N m) x := rfl
def G_labels_Right (N : Nat) (x : ((List (ByteArray × ByteArray)) × Unit)) : Option ((Bool × Unit)) := S_labels_Right (G_lex_Word N) (G_labels_maybe N) (g_labels_Right_3 N) N x
theorem E_labels_Right_ok (N : Nat) : ∀ f e, E_labels_Right (G_lex_Word N) (G_labels_maybe N) f = some e → Holds Try.prog f e := e_br (holds_lex_Word N) (e_br (holds_labels_maybe N) (e_none))
theorem I_labels_Right_ok (N : Nat) {R : Type} : InlOk (R := R) Try.prog (I_labels_Right (G_lex_Word N) (G_labels_maybe N) N) := inlJ_ok mixed (E_labels_Right_ok N) (fun _ f fn c hf hc => HLz_ok f fn c hf hc) _ _
theorem k_labels_Right_3 (N : Nat) {R : Type} : LoopOk Try.prog b_labels_Right_3 (h_labels_Right_3 (R := R) (G_lex_Word N) (G_labels_maybe N) N) := LoopP.entry_ok (code_sound mixed (E_labels_Right_ok N) (I_labels_Right_ok N) b_labels_Right_3 (loopsOk_of (by kernel_rfl) lh_none))
theorem holds_labels_Right (N : Nat) : Holds Try.prog 85 ⟨[T35], [T4], G_labels_Right N⟩ :=
  holds_of (E := E_labels_Right (G_lex_Word N) (G_labels_maybe N)) (inl := I_labels_Right (G_lex_Word N) (G_labels_maybe N) N) (H := Hz) (LH := fun _ => q_labels_Right (G_lex_Word N) (G_labels_maybe N) N) mixed (E_labels_Right_ok N) (I_labels_Right_ok N) Try.func85
    (fun x c hc => by
      obtain rfl : c_labels_Right = c := by unfold c_labels_Right; rw [hc]; rfl
      exact loopsOk_of (by kernel_rfl) (lh_en (k_labels_Right_3 N) lh_none))
    (fun x y h => (w_labels_Right (G_lex_Word N) (G_labels_maybe N) N x).trans (by rw [u_labels_Right_3]; exact h))
/-! trireme/taints.maybe -/
abbrev Y_taints_maybe : Type := (ByteArray × Unit) → Option ((Bool × Unit))
noncomputable def E_taints_maybe (F70 : Y_lex_Word) : FuncId → Option Entry := fun f => (br (Nat.beq f 70) (some ⟨[T9], [T4], F70⟩) none)
noncomputable def I_taints_maybe {R : Type} (F70 : Y_lex_Word) (N : Nat) : Inl R := inlJ Try.prog (E_taints_maybe F70) HNz (fun _ => HLz) Jz 4 R
def S_taints_maybe (F70 : Y_lex_Word)  (N : Nat) (x : (ByteArray × Unit)) : Option ((Bool × Unit)) := (br (decide (x.1 = (ByteArray.mk (List.toArray [])))) (some (true, ())) (Option.bind (F70 (x.1, ())) (fun v0 => (some (v0.1, ())))))
theorem w_taints_maybe (F70 : Y_lex_Word) (N : Nat) (x : (ByteArray × Unit)) : (funO Try.prog (E_taints_maybe F70) (I_taints_maybe F70 N) Hz (qz) Try.f92 (encVals [T9] x) (fun _ => .gone) 0 (fun v _ _ _ => decRes [T4] v)) = S_taints_maybe F70 N x := by kernel_rfl
def G_taints_maybe (N : Nat) (x : (ByteArray × Unit)) : Option ((Bool × Unit)) := S_taints_maybe (G_lex_Word N) N x
theorem E_taints_maybe_ok (N : Nat) : ∀ f e, E_taints_maybe (G_lex_Word N) f = some e → Holds Try.prog f e := e_br (holds_lex_Word N) (e_none)
theorem I_taints_maybe_ok (N : Nat) {R : Type} : InlOk (R := R) Try.prog (I_taints_maybe (G_lex_Word N) N) := inlJ_ok mixed (E_taints_maybe_ok N) (fun _ f fn c hf hc => HLz_ok f fn c hf hc) _ _
theorem holds_taints_maybe (N : Nat) : Holds Try.prog 92 ⟨[T9], [T4], G_taints_maybe N⟩ :=
  holds_of (E := E_taints_maybe (G_lex_Word N)) (inl := I_taints_maybe (G_lex_Word N) N) (H := Hz) (LH := fun _ => qz) mixed (E_taints_maybe_ok N) (I_taints_maybe_ok N) Try.func92
    (fun x c hc => loopsOk_none c)
    (fun x y h => (w_taints_maybe (G_lex_Word N) N x).trans (by exact h))
/-! trireme/taints.known -/
abbrev Y_taints_known : Type := (Int × Unit) → Option ((Bool × Unit))
noncomputable def E_taints_known  : FuncId → Option Entry := fun f => none
noncomputable def I_taints_known {R : Type}  (N : Nat) : Inl R := inlJ Try.prog E_taints_known HNz (fun _ => HLz) Jz 4 R
def S_taints_known   (N : Nat) (x : (Int × Unit)) : Option ((Bool × Unit)) := (br (decide (x.1 = (1 : Int))) (some (true, ())) (br (decide (x.1 = (2 : Int))) (some (true, ())) (some ((decide (x.1 = (3 : Int))), ()))))
theorem w_taints_known  (N : Nat) (x : (Int × Unit)) : (funO Try.prog E_taints_known (I_taints_known N) Hz (qz) Try.f93 (encVals [T3] x) (fun _ => .gone) 0 (fun v _ _ _ => decRes [T4] v)) = S_taints_known N x := by kernel_rfl
def G_taints_known (N : Nat) (x : (Int × Unit)) : Option ((Bool × Unit)) := S_taints_known N x
theorem E_taints_known_ok (N : Nat) : ∀ f e, E_taints_known f = some e → Holds Try.prog f e := e_none
theorem I_taints_known_ok (N : Nat) {R : Type} : InlOk (R := R) Try.prog (I_taints_known N) := inlJ_ok mixed (E_taints_known_ok N) (fun _ f fn c hf hc => HLz_ok f fn c hf hc) _ _
theorem holds_taints_known (N : Nat) : Holds Try.prog 93 ⟨[T3], [T4], G_taints_known N⟩ :=
  holds_of (E := E_taints_known) (inl := I_taints_known N) (H := Hz) (LH := fun _ => qz) mixed (E_taints_known_ok N) (I_taints_known_ok N) Try.func93
    (fun x c hc => loopsOk_none c)
    (fun x y h => (w_taints_known N x).trans (by exact h))
/-! trireme/taints.like -/
abbrev Y_taints_like : Type := ((ByteArray × (ByteArray × Int)) × Unit) → Option (((ByteArray × (ByteArray × Int)) × Unit))
noncomputable def E_taints_like  : FuncId → Option Entry := fun f => none
noncomputable def I_taints_like {R : Type}  (N : Nat) : Inl R := inlJ Try.prog E_taints_like HNz (fun _ => HLz) Jz 4 R
def S_taints_like   (N : Nat) (x : ((ByteArray × (ByteArray × Int)) × Unit)) : Option (((ByteArray × (ByteArray × Int)) × Unit)) := (some ((x.1.1, (ByteArray.mk (List.toArray [])), x.1.2.2), ()))
theorem w_taints_like  (N : Nat) (x : ((ByteArray × (ByteArray × Int)) × Unit)) : (funO Try.prog E_taints_like (I_taints_like N) Hz (qz) Try.f94 (encVals [T111] x) (fun _ => .gone) 0 (fun v _ _ _ => decRes [T111] v)) = S_taints_like N x := by kernel_rfl
def G_taints_like (N : Nat) (x : ((ByteArray × (ByteArray × Int)) × Unit)) : Option (((ByteArray × (ByteArray × Int)) × Unit)) := S_taints_like N x
theorem E_taints_like_ok (N : Nat) : ∀ f e, E_taints_like f = some e → Holds Try.prog f e := e_none
theorem I_taints_like_ok (N : Nat) {R : Type} : InlOk (R := R) Try.prog (I_taints_like N) := inlJ_ok mixed (E_taints_like_ok N) (fun _ f fn c hf hc => HLz_ok f fn c hf hc) _ _
theorem holds_taints_like (N : Nat) : Holds Try.prog 94 ⟨[T111], [T111], G_taints_like N⟩ :=
  holds_of (E := E_taints_like) (inl := I_taints_like N) (H := Hz) (LH := fun _ => qz) mixed (E_taints_like_ok N) (I_taints_like_ok N) Try.func94
    (fun x c hc => loopsOk_none c)
    (fun x y h => (w_taints_like N x).trans (by exact h))
/-! trireme/taints.Right -/
abbrev Y_taints_Right : Type := ((List (ByteArray × (ByteArray × Int))) × Unit) → Option ((Bool × Unit))
abbrev X_taints_Right_2 : Type := (((List (ByteArray × (ByteArray × Int))) × (List (ByteArray × (ByteArray × Int))) × Int × Int × Unit) × Unit)
abbrev Z_taints_Right_2 : Type := ((((List (ByteArray × (ByteArray × Int))) × Unit) × Unit) ⊕ ((Bool × Unit) × Unit))
abbrev X_taints_Right_7 : Type := (((List (ByteArray × (ByteArray × Int))) × (List (ByteArray × (ByteArray × Int))) × Int × Int × (List (ByteArray × (ByteArray × Int))) × Int × Int × Unit) × (((ByteArray × (ByteArray × Int)) × Unit) × Unit))
abbrev Z_taints_Right_7 : Type := ((((List (ByteArray × (ByteArray × Int))) × (List (ByteArray × (ByteArray × Int))) × Int × Int × Unit) × (((ByteArray × (ByteArray × Int)) × Unit) × Unit)) ⊕ ((Bool × Unit) × (((ByteArray × (ByteArray × Int)) × Unit) × Unit)))
noncomputable def E_taints_Right (F70 : Y_lex_Word) (F92 : Y_taints_maybe) (F93 : Y_taints_known) (F94 : Y_taints_like) : FuncId → Option Entry := fun f => (br (Nat.beq f 70) (some ⟨[T9], [T4], F70⟩) (br (Nat.beq f 92) (some ⟨[T9], [T4], F92⟩) (br (Nat.beq f 93) (some ⟨[T3], [T4], F93⟩) (br (Nat.beq f 94) (some ⟨[T111], [T111], F94⟩) none))))
noncomputable def c_taints_Right : Code := (Try.f86.body).getD .skip
noncomputable def I_taints_Right {R : Type} (F70 : Y_lex_Word) (F92 : Y_taints_maybe) (F93 : Y_taints_known) (F94 : Y_taints_like) (N : Nat) : Inl R := inlJ Try.prog (E_taints_Right F70 F92 F93 F94) HNz (fun _ => HLz) Jz 4 R
noncomputable def b_taints_Right_2 : Code := (loopAt c_taints_Right 2).getD .skip
@[reducible] def L_taints_Right_2 : LoopP := { K := 1000, bl := [], sl := [(0, .val T36), (7, .val T36), (8, .val T3), (9, .val T3)], id := 0, s1 := [(0, .val T36)], s2 := [(2, .val T4)] }
noncomputable def b_taints_Right_7 : Code := (loopAt b_taints_Right_2 7).getD .skip
@[reducible] def L_taints_Right_7 : LoopP := { K := 2000, bl := [(8, .box [.val T111])], sl := [(0, .val T36), (4, .cst (.ptr 8 0 0 0)), (7, .val T36), (8, .val T3), (9, .val T3), (32, .val T36), (33, .val T3), (34, .val T3)], id := 2, s1 := [(0, .val T36), (7, .val T36), (8, .val T3), (9, .val T3)], s2 := [(2, .val T4)] }
noncomputable def h_taints_Right_7 {R : Type} (F70 : Y_lex_Word) (F92 : Y_taints_maybe) (F93 : Y_taints_known) (F94 : Y_taints_like) (N : Nat) : LoopEntry R := LoopP.entry Try.prog (E_taints_Right F70 F92 F93 F94) L_taints_Right_7 (I_taints_Right F70 F92 F93 F94 N) Hz (qz) b_taints_Right_7 N
noncomputable def r_taints_Right_7 (F70 : Y_lex_Word) (F92 : Y_taints_maybe) (F93 : Y_taints_known) (F94 : Y_taints_like) (N : Nat) : Nat → X_taints_Right_7 → Option Z_taints_Right_7 := LoopP.run Try.prog (E_taints_Right F70 F92 F93 F94) L_taints_Right_7 (I_taints_Right F70 F92 F93 F94 N) Hz (qz) b_taints_Right_7 48 32
noncomputable def q_taints_Right_2 {R : Type} (F70 : Y_lex_Word) (F92 : Y_taints_maybe) (F93 : Y_taints_known) (F94 : Y_taints_like) (N : Nat) : Nat → Option (LoopEntry R) := (fun i => (br (Nat.beq i 7) (some ((h_taints_Right_7 F70 F92 F93 F94) N)) none))
noncomputable def h_taints_Right_2 {R : Type} (F70 : Y_lex_Word) (F92 : Y_taints_maybe) (F93 : Y_taints_known) (F94 : Y_taints_like) (N : Nat) : LoopEntry R := LoopP.entry Try.prog (E_taints_Right F70 F92 F93 F94) L_taints_Right_2 (I_taints_Right F70 F92 F93 F94 N) Hz ((q_taints_Right_2 F70 F92 F93 F94) N) b_taints_Right_2 N
noncomputable def r_taints_Right_2 (F70 : Y_lex_Word) (F92 : Y_taints_maybe) (F93 : Y_taints_known) (F94 : Y_taints_like) (N : Nat) : Nat → X_taints_Right_2 → Option Z_taints_Right_2 := LoopP.run Try.prog (E_taints_Right F70 F92 F93 F94) L_taints_Right_2 (I_taints_Right F70 F92 F93 F94 N) Hz ((q_taints_Right_2 F70 F92 F93 F94) N) b_taints_Right_2 48 4
def s_taints_Right_7 (F70 : Y_lex_Word) (F92 : Y_taints_maybe) (F93 : Y_taints_known) (F94 : Y_taints_like)  (N : Nat) (k : X_taints_Right_7 → Option Z_taints_Right_7) (x : X_taints_Right_7) : Option Z_taints_Right_7 := (br (decide (x.1.2.2.2.2.2.2.1 < x.1.2.2.2.2.2.1)) (br (decide ((0 : Int) ≤ x.1.2.2.2.2.2.2.1)) (Option.bind (x.1.2.2.2.2.1[(Int.toNat x.1.2.2.2.2.2.2.1)]?) (fun v0 => (Option.bind (F94 (x.2.1.1, ())) (fun v1 => (Option.bind (F94 (v0, ())) (fun v2 => (br (Bool.and (decide (v1.1.1 = v2.1.1)) (Bool.and (decide (v1.1.2.1 = v2.1.2.1)) (Bool.and (decide (v1.1.2.2 = v2.1.2.2)) true))) (some (Sum.inr ((false, ()), (x.2.1.1, ()), ()))) (k ((x.1.1, x.1.2.1, x.1.2.2.1, x.1.2.2.2.1, x.1.2.2.2.2.1, x.1.2.2.2.2.2.1, (IntKind.i64.wrap (x.1.2.2.2.2.2.2.1 + (1 : Int))), ()), (x.2.1.1, ()), ()))))))))) none) (some (Sum.inl ((x.1.1, x.1.2.1, x.1.2.2.1, x.1.2.2.2.1, ()), (x.2.1.1, ()), ()))))
theorem t_taints_Right_7 (F70 : Y_lex_Word) (F92 : Y_taints_maybe) (F93 : Y_taints_known) (F94 : Y_taints_like) (N : Nat) (k : X_taints_Right_7 → Option Z_taints_Right_7) (x : X_taints_Right_7) : (LoopP.step Try.prog (E_taints_Right F70 F92 F93 F94) L_taints_Right_7 (I_taints_Right F70 F92 F93 F94 N) Hz (qz) b_taints_Right_7 48 32 k x) = s_taints_Right_7 F70 F92 F93 F94 N k x := by kernel_rfl
def l_taints_Right_7 (F70 : Y_lex_Word) (F92 : Y_taints_maybe) (F93 : Y_taints_known) (F94 : Y_taints_like) (N : Nat) : Nat → X_taints_Right_7 → Option Z_taints_Right_7
  | 0 => fun _ => none
  | m + 1 => fun x => s_taints_Right_7 F70 F92 F93 F94 N ((l_taints_Right_7 F70 F92 F93 F94) N m) x
theorem u_taints_Right_7 (F70 : Y_lex_Word) (F92 : Y_taints_maybe) (F93 : Y_taints_known) (F94 : Y_taints_like) (N : Nat) : (r_taints_Right_7 F70 F92 F93 F94) N = (l_taints_Right_7 F70 F92 F93 F94) N := run_eq (s_taints_Right_7 F70 F92 F93 F94 N) (fun _ => rfl) (fun m x => (LoopP.run_succ ..).trans ((t_taints_Right_7 F70 F92 F93 F94 N (r_taints_Right_7 F70 F92 F93 F94 N m) x).trans rfl)) (fun _ => rfl) (fun _ _ => rfl)
def s_taints_Right_2 (F70 : Y_lex_Word) (F92 : Y_taints_maybe) (F93 : Y_taints_known) (F94 : Y_taints_like) (R7 : Nat → X_taints_Right_7 → Option Z_taints_Right_7) (N : Nat) (k : X_taints_Right_2 → Option Z_taints_Right_2) (x : X_taints_Right_2) : Option Z_taints_Right_2 := (br (decide (x.1.2.2.2.1 < x.1.2.2.1)) (br (decide ((0 : Int) ≤ x.1.2.2.2.1)) (Option.bind (x.1.2.1[(Int.toNat x.1.2.2.2.1)]?) (fun v0 => (Option.bind (F70 (v0.1, ())) (fun v1 => (br (Bool.not v1.1) (some (Sum.inr ((false, ()), ()))) (Option.bind (F92 (v0.2.1, ())) (fun v2 => (br (Bool.not v2.1) (some (Sum.inr ((false, ()), ()))) (Option.bind (F93 (v0.2.2, ())) (fun v3 => (br (Bool.not v3.1) (some (Sum.inr ((false, ()), ()))) (br (Bool.and (decide ((0 : Int) ≤ x.1.2.2.2.1)) (decide (x.1.2.2.2.1 ≤ (((List.length x.1.1) : Nat) : Int)))) (Option.bind (R7 N ((x.1.1, x.1.2.1, x.1.2.2.1, x.1.2.2.2.1, (List.take (Int.toNat x.1.2.2.2.1) x.1.1), (((List.length (List.take (Int.toNat x.1.2.2.2.1) x.1.1)) : Nat) : Int), (0 : Int), ()), (v0, ()), ())) (fun v4 => (Sum.elim (fun v5 => (k ((v5.1.1, v5.1.2.1, v5.1.2.2.1, (IntKind.i64.wrap (v5.1.2.2.2.1 + (1 : Int))), ()), ()))) (fun v5 => (some (Sum.inr ((v5.1.1, ()), ())))) v4))) none)))))))))))) none) (some (Sum.inl ((x.1.1, ()), ()))))
theorem t_taints_Right_2 (F70 : Y_lex_Word) (F92 : Y_taints_maybe) (F93 : Y_taints_known) (F94 : Y_taints_like) (N : Nat) (k : X_taints_Right_2 → Option Z_taints_Right_2) (x : X_taints_Right_2) : (LoopP.step Try.prog (E_taints_Right F70 F92 F93 F94) L_taints_Right_2 (I_taints_Right F70 F92 F93 F94 N) Hz ((q_taints_Right_2 F70 F92 F93 F94) N) b_taints_Right_2 48 4 k x) = s_taints_Right_2 F70 F92 F93 F94 (r_taints_Right_7 F70 F92 F93 F94 N) N k x := by kernel_rfl
def l_taints_Right_2 (F70 : Y_lex_Word) (F92 : Y_taints_maybe) (F93 : Y_taints_known) (F94 : Y_taints_like) (N : Nat) : Nat → X_taints_Right_2 → Option Z_taints_Right_2
  | 0 => fun _ => none
  | m + 1 => fun x => s_taints_Right_2 F70 F92 F93 F94 (l_taints_Right_7 F70 F92 F93 F94 N) N ((l_taints_Right_2 F70 F92 F93 F94) N m) x
theorem u_taints_Right_2 (F70 : Y_lex_Word) (F92 : Y_taints_maybe) (F93 : Y_taints_known) (F94 : Y_taints_like) (N : Nat) : (r_taints_Right_2 F70 F92 F93 F94) N = (l_taints_Right_2 F70 F92 F93 F94) N := run_eq (s_taints_Right_2 F70 F92 F93 F94 (l_taints_Right_7 F70 F92 F93 F94 N) N) (fun _ => rfl) (fun m x => (LoopP.run_succ ..).trans ((t_taints_Right_2 F70 F92 F93 F94 N (r_taints_Right_2 F70 F92 F93 F94 N m) x).trans (by rw [u_taints_Right_7]))) (fun _ => rfl) (fun _ _ => rfl)
noncomputable def q_taints_Right {R : Type} (F70 : Y_lex_Word) (F92 : Y_taints_maybe) (F93 : Y_taints_known) (F94 : Y_taints_like) (N : Nat) : Nat → Option (LoopEntry R) := (fun i => (br (Nat.beq i 2) (some ((h_taints_Right_2 F70 F92 F93 F94) N)) none))
def S_taints_Right (F70 : Y_lex_Word) (F92 : Y_taints_maybe) (F93 : Y_taints_known) (F94 : Y_taints_like) (R2 : Nat → X_taints_Right_2 → Option Z_taints_Right_2) (N : Nat) (x : ((List (ByteArray × (ByteArray × Int))) × Unit)) : Option ((Bool × Unit)) := (Option.bind (R2 N ((x.1, x.1, (((List.length x.1) : Nat) : Int), (0 : Int), ()), ())) (fun v0 => (Sum.elim (fun v1 => (some ((decide ((((List.length v1.1.1) : Nat) : Int) ≤ (16 : Int))), ()))) (fun v1 => (some (v1.1.1, ()))) v0)))
theorem w_taints_Right (F70 : Y_lex_Word) (F92 : Y_taints_maybe) (F93 : Y_taints_known) (F94 : Y_taints_like) (N : Nat) (x : ((List (ByteArray × (ByteArray × Int))) × Unit)) : (funO Try.prog (E_taints_Right F70 F92 F93 F94) (I_taints_Right F70 F92 F93 F94 N) Hz ((q_taints_Right F70 F92 F93 F94) N) Try.f86 (encVals [T36] x) (fun _ => .gone) 0 (fun v _ _ _ => decRes [T4] v)) = S_taints_Right F70 F92 F93 F94 (r_taints_Right_2 F70 F92 F93 F94 N) N x := by kernel_rfl
def g_taints_Right_7 (N : Nat) : Nat → X_taints_Right_7 → Option Z_taints_Right_7 := l_taints_Right_7 (G_lex_Word N) (G_taints_maybe N) (G_taints_known N) (G_taints_like N) N
theorem g_taints_Right_7_succ (N : Nat) (m : Nat) (x : X_taints_Right_7) : g_taints_Right_7 N (m + 1) x = s_taints_Right_7 (G_lex_Word N) (G_taints_maybe N) (G_taints_known N) (G_taints_like N) N (g_taints_Right_7 N m) x := rfl
def g_taints_Right_2 (N : Nat) : Nat → X_taints_Right_2 → Option Z_taints_Right_2 := l_taints_Right_2 (G_lex_Word N) (G_taints_maybe N) (G_taints_known N) (G_taints_like N) N
theorem g_taints_Right_2_succ (N : Nat) (m : Nat) (x : X_taints_Right_2) : g_taints_Right_2 N (m + 1) x = s_taints_Right_2 (G_lex_Word N) (G_taints_maybe N) (G_taints_known N) (G_taints_like N) (g_taints_Right_7 N) N (g_taints_Right_2 N m) x := rfl
def G_taints_Right (N : Nat) (x : ((List (ByteArray × (ByteArray × Int))) × Unit)) : Option ((Bool × Unit)) := S_taints_Right (G_lex_Word N) (G_taints_maybe N) (G_taints_known N) (G_taints_like N) (g_taints_Right_2 N) N x
theorem E_taints_Right_ok (N : Nat) : ∀ f e, E_taints_Right (G_lex_Word N) (G_taints_maybe N) (G_taints_known N) (G_taints_like N) f = some e → Holds Try.prog f e := e_br (holds_lex_Word N) (e_br (holds_taints_maybe N) (e_br (holds_taints_known N) (e_br (holds_taints_like N) (e_none))))
theorem I_taints_Right_ok (N : Nat) {R : Type} : InlOk (R := R) Try.prog (I_taints_Right (G_lex_Word N) (G_taints_maybe N) (G_taints_known N) (G_taints_like N) N) := inlJ_ok mixed (E_taints_Right_ok N) (fun _ f fn c hf hc => HLz_ok f fn c hf hc) _ _
theorem k_taints_Right_7 (N : Nat) {R : Type} : LoopOk Try.prog b_taints_Right_7 (h_taints_Right_7 (R := R) (G_lex_Word N) (G_taints_maybe N) (G_taints_known N) (G_taints_like N) N) := LoopP.entry_ok (code_sound mixed (E_taints_Right_ok N) (I_taints_Right_ok N) b_taints_Right_7 (loopsOk_of (by kernel_rfl) lh_none))
theorem k_taints_Right_2 (N : Nat) {R : Type} : LoopOk Try.prog b_taints_Right_2 (h_taints_Right_2 (R := R) (G_lex_Word N) (G_taints_maybe N) (G_taints_known N) (G_taints_like N) N) := LoopP.entry_ok (code_sound mixed (E_taints_Right_ok N) (I_taints_Right_ok N) b_taints_Right_2 (loopsOk_of (by kernel_rfl) (lh_en (k_taints_Right_7 N) lh_none)))
theorem holds_taints_Right (N : Nat) : Holds Try.prog 86 ⟨[T36], [T4], G_taints_Right N⟩ :=
  holds_of (E := E_taints_Right (G_lex_Word N) (G_taints_maybe N) (G_taints_known N) (G_taints_like N)) (inl := I_taints_Right (G_lex_Word N) (G_taints_maybe N) (G_taints_known N) (G_taints_like N) N) (H := Hz) (LH := fun _ => q_taints_Right (G_lex_Word N) (G_taints_maybe N) (G_taints_known N) (G_taints_like N) N) mixed (E_taints_Right_ok N) (I_taints_Right_ok N) Try.func86
    (fun x c hc => by
      obtain rfl : c_taints_Right = c := by unfold c_taints_Right; rw [hc]; rfl
      exact loopsOk_of (by kernel_rfl) (lh_en (k_taints_Right_2 N) lh_none))
    (fun x y h => (w_taints_Right (G_lex_Word N) (G_taints_maybe N) (G_taints_known N) (G_taints_like N) N x).trans (by rw [u_taints_Right_2]; exact h))
/-! trireme/spec.RightMachine -/
abbrev Y_spec_RightMachine : Type := (D_d6c440 × Unit) → Option ((Bool × Unit))
noncomputable def E_spec_RightMachine (F83 : Y_spec_maybe) (F84 : Y_res_Right) (F85 : Y_labels_Right) (F86 : Y_taints_Right) : FuncId → Option Entry := fun f => (br (Nat.beq f 83) (some ⟨[T9], [T4], F83⟩) (br (Nat.beq f 84) (some ⟨[T34], [T4], F84⟩) (br (Nat.beq f 85) (some ⟨[T35], [T4], F85⟩) (br (Nat.beq f 86) (some ⟨[T36], [T4], F86⟩) none))))
noncomputable def I_spec_RightMachine {R : Type} (F83 : Y_spec_maybe) (F84 : Y_res_Right) (F85 : Y_labels_Right) (F86 : Y_taints_Right) (N : Nat) : Inl R := inlJ Try.prog (E_spec_RightMachine F83 F84 F85 F86) HNz (fun _ => HLz) Jz 4 R
def S_spec_RightMachine (F83 : Y_spec_maybe) (F84 : Y_res_Right) (F85 : Y_labels_Right) (F86 : Y_taints_Right)  (N : Nat) (x : (D_d6c440 × Unit)) : Option ((Bool × Unit)) := (Option.bind (F83 (x.1.1, ())) (fun v0 => (br v0.1 (Option.bind (F83 (x.1.2.1, ())) (fun v1 => (br v1.1 (Option.bind (F84 (x.1.2.2.1, ())) (fun v2 => (br v2.1 (Option.bind (F85 (x.1.2.2.2.1, ())) (fun v3 => (br v3.1 (Option.bind (F86 (x.1.2.2.2.2.1, ())) (fun v4 => (some (v4.1, ())))) (some (false, ()))))) (some (false, ()))))) (some (false, ()))))) (some (false, ())))))
theorem w_spec_RightMachine (F83 : Y_spec_maybe) (F84 : Y_res_Right) (F85 : Y_labels_Right) (F86 : Y_taints_Right) (N : Nat) (x : (D_d6c440 × Unit)) : (funO Try.prog (E_spec_RightMachine F83 F84 F85 F86) (I_spec_RightMachine F83 F84 F85 F86 N) Hz (qz) Try.f72 (encVals [T38] x) (fun _ => .gone) 0 (fun v _ _ _ => decRes [T4] v)) = S_spec_RightMachine F83 F84 F85 F86 N x := by kernel_rfl
def G_spec_RightMachine (N : Nat) (x : (D_d6c440 × Unit)) : Option ((Bool × Unit)) := S_spec_RightMachine (G_spec_maybe N) (G_res_Right N) (G_labels_Right N) (G_taints_Right N) N x
theorem E_spec_RightMachine_ok (N : Nat) : ∀ f e, E_spec_RightMachine (G_spec_maybe N) (G_res_Right N) (G_labels_Right N) (G_taints_Right N) f = some e → Holds Try.prog f e := e_br (holds_spec_maybe N) (e_br (holds_res_Right N) (e_br (holds_labels_Right N) (e_br (holds_taints_Right N) (e_none))))
theorem I_spec_RightMachine_ok (N : Nat) {R : Type} : InlOk (R := R) Try.prog (I_spec_RightMachine (G_spec_maybe N) (G_res_Right N) (G_labels_Right N) (G_taints_Right N) N) := inlJ_ok mixed (E_spec_RightMachine_ok N) (fun _ f fn c hf hc => HLz_ok f fn c hf hc) _ _
theorem holds_spec_RightMachine (N : Nat) : Holds Try.prog 72 ⟨[T38], [T4], G_spec_RightMachine N⟩ :=
  holds_of (E := E_spec_RightMachine (G_spec_maybe N) (G_res_Right N) (G_labels_Right N) (G_taints_Right N)) (inl := I_spec_RightMachine (G_spec_maybe N) (G_res_Right N) (G_labels_Right N) (G_taints_Right N) N) (H := Hz) (LH := fun _ => qz) mixed (E_spec_RightMachine_ok N) (I_spec_RightMachine_ok N) Try.func72
    (fun x c hc => loopsOk_none c)
    (fun x y h => (w_spec_RightMachine (G_spec_maybe N) (G_res_Right N) (G_labels_Right N) (G_taints_Right N) N x).trans (by exact h))
/-! trireme/spec.RightGroup -/
abbrev Y_spec_RightGroup : Type := (D_59d353 × Unit) → Option ((Bool × Unit))
noncomputable def E_spec_RightGroup (F70 : Y_lex_Word) (F71 : Y_spec_between) (F72 : Y_spec_RightMachine) : FuncId → Option Entry := fun f => (br (Nat.beq f 70) (some ⟨[T9], [T4], F70⟩) (br (Nat.beq f 71) (some ⟨[T3, T3, T3], [T4], F71⟩) (br (Nat.beq f 72) (some ⟨[T38], [T4], F72⟩) none)))
noncomputable def I_spec_RightGroup {R : Type} (F70 : Y_lex_Word) (F71 : Y_spec_between) (F72 : Y_spec_RightMachine) (N : Nat) : Inl R := inlJ Try.prog (E_spec_RightGroup F70 F71 F72) HNz (fun _ => HLz) Jz 4 R
def S_spec_RightGroup (F70 : Y_lex_Word) (F71 : Y_spec_between) (F72 : Y_spec_RightMachine)  (N : Nat) (x : (D_59d353 × Unit)) : Option ((Bool × Unit)) := (Option.bind (F70 (x.1.1, ())) (fun v0 => (br (Bool.not v0.1) (some (false, ())) (br (Bool.not (decide (x.1.2.2.2.1.1 = (ByteArray.mk (List.toArray []))))) (some (false, ())) (br (Bool.not (decide (x.1.2.2.2.1.2.1 = x.1.1))) (some (false, ())) (br (Bool.not x.1.2.2.2.1.2.2.2.2.2) (some (false, ())) (Option.bind (F71 (x.1.2.2.1, (1 : Int), (200 : Int), ())) (fun v1 => (br (Bool.not v1.1) (some (false, ())) (Option.bind (F71 (x.1.2.1, (0 : Int), x.1.2.2.1, ())) (fun v2 => (br (Bool.not v2.1) (some (false, ())) (Option.bind (F71 (x.1.2.2.2.2.1, (0 : Int), (1125899906842624 : Int), ())) (fun v3 => (br v3.1 (Option.bind (F71 (x.1.2.2.2.2.2, (0 : Int), (1000 : Int), ())) (fun v4 => (br v4.1 (Option.bind (F72 ((x.1.2.2.2.1.1, x.1.2.2.2.1.2.1, x.1.2.2.2.1.2.2.1, x.1.2.2.2.1.2.2.2.1, x.1.2.2.2.1.2.2.2.2.1, x.1.2.2.2.1.2.2.2.2.2), ())) (fun v5 => (some (v5.1, ())))) (some (false, ()))))) (some (false, ())))))))))))))))))
theorem w_spec_RightGroup (F70 : Y_lex_Word) (F71 : Y_spec_between) (F72 : Y_spec_RightMachine) (N : Nat) (x : (D_59d353 × Unit)) : (funO Try.prog (E_spec_RightGroup F70 F71 F72) (I_spec_RightGroup F70 F71 F72 N) Hz (qz) Try.f47 (encVals [T40] x) (fun _ => .gone) 0 (fun v _ _ _ => decRes [T4] v)) = S_spec_RightGroup F70 F71 F72 N x := by kernel_rfl
def G_spec_RightGroup (N : Nat) (x : (D_59d353 × Unit)) : Option ((Bool × Unit)) := S_spec_RightGroup (G_lex_Word N) (G_spec_between N) (G_spec_RightMachine N) N x
theorem E_spec_RightGroup_ok (N : Nat) : ∀ f e, E_spec_RightGroup (G_lex_Word N) (G_spec_between N) (G_spec_RightMachine N) f = some e → Holds Try.prog f e := e_br (holds_lex_Word N) (e_br (holds_spec_between N) (e_br (holds_spec_RightMachine N) (e_none)))
theorem I_spec_RightGroup_ok (N : Nat) {R : Type} : InlOk (R := R) Try.prog (I_spec_RightGroup (G_lex_Word N) (G_spec_between N) (G_spec_RightMachine N) N) := inlJ_ok mixed (E_spec_RightGroup_ok N) (fun _ f fn c hf hc => HLz_ok f fn c hf hc) _ _
theorem holds_spec_RightGroup (N : Nat) : Holds Try.prog 47 ⟨[T40], [T4], G_spec_RightGroup N⟩ :=
  holds_of (E := E_spec_RightGroup (G_lex_Word N) (G_spec_between N) (G_spec_RightMachine N)) (inl := I_spec_RightGroup (G_lex_Word N) (G_spec_between N) (G_spec_RightMachine N) N) (H := Hz) (LH := fun _ => qz) mixed (E_spec_RightGroup_ok N) (I_spec_RightGroup_ok N) Try.func47
    (fun x c hc => loopsOk_none c)
    (fun x y h => (w_spec_RightGroup (G_lex_Word N) (G_spec_between N) (G_spec_RightMachine N) N x).trans (by exact h))
/-! trireme/group.Right -/
abbrev Y_group_Right : Type := ((List D_59d353) × Unit) → Option ((Bool × Unit))
abbrev X_group_Right_2 : Type := (((List D_59d353) × (List D_59d353) × Int × Int × Unit) × Unit)
abbrev Z_group_Right_2 : Type := ((((List D_59d353) × Unit) × Unit) ⊕ ((Bool × Unit) × Unit))
noncomputable def E_group_Right (F16 : Y_group_Find) (F47 : Y_spec_RightGroup) : FuncId → Option Entry := fun f => (br (Nat.beq f 16) (some ⟨[T22, T9], [T3], F16⟩) (br (Nat.beq f 47) (some ⟨[T40], [T4], F47⟩) none))
noncomputable def c_group_Right : Code := (Try.f14.body).getD .skip
noncomputable def I_group_Right {R : Type} (F16 : Y_group_Find) (F47 : Y_spec_RightGroup) (N : Nat) : Inl R := inlJ Try.prog (E_group_Right F16 F47) HNz (fun _ => HLz) Jz 4 R
noncomputable def b_group_Right_2 : Code := (loopAt c_group_Right 2).getD .skip
@[reducible] def L_group_Right_2 : LoopP := { K := 1000, bl := [], sl := [(0, .val T22), (5, .val T22), (6, .val T3), (7, .val T3)], id := 0, s1 := [(0, .val T22)], s2 := [(2, .val T4)] }
noncomputable def h_group_Right_2 {R : Type} (F16 : Y_group_Find) (F47 : Y_spec_RightGroup) (N : Nat) : LoopEntry R := LoopP.entry Try.prog (E_group_Right F16 F47) L_group_Right_2 (I_group_Right F16 F47 N) Hz (qz) b_group_Right_2 N
noncomputable def r_group_Right_2 (F16 : Y_group_Find) (F47 : Y_spec_RightGroup) (N : Nat) : Nat → X_group_Right_2 → Option Z_group_Right_2 := LoopP.run Try.prog (E_group_Right F16 F47) L_group_Right_2 (I_group_Right F16 F47 N) Hz (qz) b_group_Right_2 33 4
def s_group_Right_2 (F16 : Y_group_Find) (F47 : Y_spec_RightGroup)  (N : Nat) (k : X_group_Right_2 → Option Z_group_Right_2) (x : X_group_Right_2) : Option Z_group_Right_2 := (br (decide (x.1.2.2.2.1 < x.1.2.2.1)) (br (decide ((0 : Int) ≤ x.1.2.2.2.1)) (Option.bind (x.1.2.1[(Int.toNat x.1.2.2.2.1)]?) (fun v0 => (Option.bind (F47 ((v0.1, v0.2.1, v0.2.2.1, (v0.2.2.2.1.1, v0.2.2.2.1.2.1, v0.2.2.2.1.2.2.1, v0.2.2.2.1.2.2.2.1, v0.2.2.2.1.2.2.2.2.1, v0.2.2.2.1.2.2.2.2.2), v0.2.2.2.2), ())) (fun v1 => (br (Bool.not v1.1) (some (Sum.inr ((false, ()), ()))) (br (decide ((48 : Int) < (((ByteArray.size v0.1) : Nat) : Int))) (some (Sum.inr ((false, ()), ()))) (Option.bind (F16 (x.1.1, v0.1, ())) (fun v2 => (br (Bool.not (decide (v2.1 = x.1.2.2.2.1))) (some (Sum.inr ((false, ()), ()))) (k ((x.1.1, x.1.2.1, x.1.2.2.1, (IntKind.i64.wrap (x.1.2.2.2.1 + (1 : Int))), ()), ()))))))))))) none) (some (Sum.inl ((x.1.1, ()), ()))))
theorem t_group_Right_2 (F16 : Y_group_Find) (F47 : Y_spec_RightGroup) (N : Nat) (k : X_group_Right_2 → Option Z_group_Right_2) (x : X_group_Right_2) : (LoopP.step Try.prog (E_group_Right F16 F47) L_group_Right_2 (I_group_Right F16 F47 N) Hz (qz) b_group_Right_2 33 4 k x) = s_group_Right_2 F16 F47 N k x := by kernel_rfl
def l_group_Right_2 (F16 : Y_group_Find) (F47 : Y_spec_RightGroup) (N : Nat) : Nat → X_group_Right_2 → Option Z_group_Right_2
  | 0 => fun _ => none
  | m + 1 => fun x => s_group_Right_2 F16 F47 N ((l_group_Right_2 F16 F47) N m) x
theorem u_group_Right_2 (F16 : Y_group_Find) (F47 : Y_spec_RightGroup) (N : Nat) : (r_group_Right_2 F16 F47) N = (l_group_Right_2 F16 F47) N := run_eq (s_group_Right_2 F16 F47 N) (fun _ => rfl) (fun m x => (LoopP.run_succ ..).trans ((t_group_Right_2 F16 F47 N (r_group_Right_2 F16 F47 N m) x).trans rfl)) (fun _ => rfl) (fun _ _ => rfl)
noncomputable def q_group_Right {R : Type} (F16 : Y_group_Find) (F47 : Y_spec_RightGroup) (N : Nat) : Nat → Option (LoopEntry R) := (fun i => (br (Nat.beq i 2) (some ((h_group_Right_2 F16 F47) N)) none))
def S_group_Right (F16 : Y_group_Find) (F47 : Y_spec_RightGroup) (R2 : Nat → X_group_Right_2 → Option Z_group_Right_2) (N : Nat) (x : ((List D_59d353) × Unit)) : Option ((Bool × Unit)) := (Option.bind (R2 N ((x.1, x.1, (((List.length x.1) : Nat) : Int), (0 : Int), ()), ())) (fun v0 => (Sum.elim (fun v1 => (some ((decide ((((List.length v1.1.1) : Nat) : Int) ≤ (16 : Int))), ()))) (fun v1 => (some (v1.1.1, ()))) v0)))
theorem w_group_Right (F16 : Y_group_Find) (F47 : Y_spec_RightGroup) (N : Nat) (x : ((List D_59d353) × Unit)) : (funO Try.prog (E_group_Right F16 F47) (I_group_Right F16 F47 N) Hz ((q_group_Right F16 F47) N) Try.f14 (encVals [T22] x) (fun _ => .gone) 0 (fun v _ _ _ => decRes [T4] v)) = S_group_Right F16 F47 (r_group_Right_2 F16 F47 N) N x := by kernel_rfl
def g_group_Right_2 (N : Nat) : Nat → X_group_Right_2 → Option Z_group_Right_2 := l_group_Right_2 (G_group_Find N) (G_spec_RightGroup N) N
theorem g_group_Right_2_succ (N : Nat) (m : Nat) (x : X_group_Right_2) : g_group_Right_2 N (m + 1) x = s_group_Right_2 (G_group_Find N) (G_spec_RightGroup N) N (g_group_Right_2 N m) x := rfl
def G_group_Right (N : Nat) (x : ((List D_59d353) × Unit)) : Option ((Bool × Unit)) := S_group_Right (G_group_Find N) (G_spec_RightGroup N) (g_group_Right_2 N) N x
theorem E_group_Right_ok (N : Nat) : ∀ f e, E_group_Right (G_group_Find N) (G_spec_RightGroup N) f = some e → Holds Try.prog f e := e_br (holds_group_Find N) (e_br (holds_spec_RightGroup N) (e_none))
theorem I_group_Right_ok (N : Nat) {R : Type} : InlOk (R := R) Try.prog (I_group_Right (G_group_Find N) (G_spec_RightGroup N) N) := inlJ_ok mixed (E_group_Right_ok N) (fun _ f fn c hf hc => HLz_ok f fn c hf hc) _ _
theorem k_group_Right_2 (N : Nat) {R : Type} : LoopOk Try.prog b_group_Right_2 (h_group_Right_2 (R := R) (G_group_Find N) (G_spec_RightGroup N) N) := LoopP.entry_ok (code_sound mixed (E_group_Right_ok N) (I_group_Right_ok N) b_group_Right_2 (loopsOk_of (by kernel_rfl) lh_none))
theorem holds_group_Right (N : Nat) : Holds Try.prog 14 ⟨[T22], [T4], G_group_Right N⟩ :=
  holds_of (E := E_group_Right (G_group_Find N) (G_spec_RightGroup N)) (inl := I_group_Right (G_group_Find N) (G_spec_RightGroup N) N) (H := Hz) (LH := fun _ => q_group_Right (G_group_Find N) (G_spec_RightGroup N) N) mixed (E_group_Right_ok N) (I_group_Right_ok N) Try.func14
    (fun x c hc => by
      obtain rfl : c_group_Right = c := by unfold c_group_Right; rw [hc]; rfl
      exact loopsOk_of (by kernel_rfl) (lh_en (k_group_Right_2 N) lh_none))
    (fun x y h => (w_group_Right (G_group_Find N) (G_spec_RightGroup N) N x).trans (by rw [u_group_Right_2]; exact h))
end Go.Proofs.Ytiiiipdnodgkmaa.Lj
