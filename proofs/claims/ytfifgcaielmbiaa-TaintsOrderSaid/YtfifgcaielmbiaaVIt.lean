/- Loops: what a loop's head looks like; its rounds as a Lean function. -/
import Derived.Test.YtfifgcaielmbiaaVIr
namespace Go.VI
set_option linter.unusedVariables false
set_option linter.unusedSimpArgs false
variable {R : Type} {P : Program}

/-- A slot, or a cell: data; the row in block b; something that stays; a closure over data. -/
inductive Pat where
  | val (t : Ty)
  | own (b : Nat)
  | cst (v : AV)
  | clo (f : FuncId) (ts : List Ty)
/-- A block: a row of data; cells. -/
inductive BPat where
  | arr (t : Ty)
  | box (ps : List Pat)
  | siter
  | map (kt vt : Ty)

@[reducible] def denL : List Pat → Type
  | [] => Unit
  | .val t :: l => t.den × denL l
  | .own _ :: l => denL l
  | .cst _ :: l => denL l
  | .clo _ ts :: l => Tup ts × denL l
@[reducible] def denS : List (Nat × Pat) → Type
  | [] => Unit
  | (_, .val t) :: l => t.den × denS l
  | (_, .own _) :: l => denS l
  | (_, .cst _) :: l => denS l
  | (_, .clo _ ts) :: l => Tup ts × denS l
@[reducible] def denB : List (Nat × BPat) → Type
  | [] => Unit
  | (_, .arr t) :: l => List t.den × denB l
  | (_, .box ps) :: l => denL ps × denB l
  | (_, .siter) :: l => (ByteArray × Nat) × denB l
  | (_, .map kt vt) :: l => List (kt.den × vt.den) × denB l

/-- A closure over data that is read for good. -/
def cloCaps : (ts : List Ty) → Tup ts → List AV
  | [], _ => []
  | t :: ts, x => .cptr (t.enc x.1) :: cloCaps ts x.2
def cloAV (f : FuncId) (ts : List Ty) (x : Tup ts) : AV := .fn (.func f) [] (cloCaps ts x)
def decCaps : (ts : List Ty) → List AV → Option (Tup ts)
  | [], [] => some ()
  | [], _ :: _ => none
  | _ :: _, [] => none
  | t :: ts, c :: cs => match c with
    | .cptr ds => match t.dec ds with
      | some (x, []) => match decCaps ts cs with
        | some y => some (x, y)
        | none => none
      | _ => none
    | _ => none
def decClo (f : FuncId) (ts : List Ty) (v : AV) : Option (Tup ts) := match v with
  | .fn (.func g) [] cs => br (Nat.beq g f) (decCaps ts cs) none
  | _ => none

def tmS (K : Nat) : (l : List (Nat × Pat)) → denS l → Nat → AV
  | [], _ => fun _ => .undef
  | (i, .val t) :: l, x => upd (tmS K l x.2) i (t.val x.1)
  | (i, .own b) :: l, x => upd (tmS K l x) i (.own b K)
  | (i, .cst v) :: l, x => upd (tmS K l x) i v
  | (i, .clo f ts) :: l, x => upd (tmS K l x.2) i (cloAV f ts x.1)
def encL (K : Nat) : (l : List Pat) → denL l → List AV
  | [], _ => []
  | .val t :: l, x => t.enc x.1 ++ encL K l x.2
  | .own b :: l, x => .own b K :: encL K l x
  | .cst v :: l, x => v :: encL K l x
  | .clo f ts :: l, x => cloAV f ts x.1 :: encL K l x.2
def hpB (K : Nat) (H : Hp) : (l : List (Nat × BPat)) → denB l → Hp
  | [], _ => H
  | (b, .arr t) :: l, x => upd (hpB K H l x.2) b (.arr t x.1 K)
  | (b, .box ps) :: l, x => upd (hpB K H l x.2) b (.box (encL K ps x.1))
  | (b, .siter) :: l, x => upd (hpB K H l x.2) b (.siter x.1.1 x.1.2)
  | (b, .map kt vt) :: l, x => upd (hpB K H l x.2) b (.map kt vt x.1 K)

def genIs (H : Hp) (b k : Nat) : Bool := match H b with
  | .arr _ _ k' => Nat.beq k k'
  | _ => false
def ownIs (H : Hp) (b : Nat) (v : AV) : Bool := match v with
  | .own b' k => (Nat.beq b' b).and (genIs H b k)
  | _ => false
def avAll (f : AV → AV → Bool) : List AV → List AV → Bool
  | [], [] => true
  | a :: as, b :: bs => (f a b).and (avAll f as bs)
  | _, _ => false
/-- Are two values that say nothing of data the same? -/
def avEqD : Nat → AV → AV → Bool
  | 0, _, _ => false
  | d + 1, a, b => match a, b with
    | .ptr b i o g, .ptr b' i' o' g' => (Nat.beq b b').and ((Nat.beq i i').and ((Nat.beq o o').and (Nat.beq g g')))
    | .nilp, .nilp => true
    | .map b, .map b' => Nat.beq b b'
    | .nilmap, .nilmap => true
    | .nilfn, .nilfn => true
    | .nili, .nili => true
    | .nils, .nils => true
    | .fn (.func i) xs ys, .fn (.func j) xs' ys' => (Nat.beq i j).and ((avAll (avEqD d) xs xs').and (avAll (avEqD d) ys ys'))
    | .iface t v, .iface t' v' => (Nat.beq t t').and (avEqD d v v')
    | _, _ => false
def avEq (a b : AV) : Bool := avEqD 4 a b

def castM (a b c d : Ty) (l : List (a.den × b.den)) : Option (List (c.den × d.den)) :=
  match h : (a.beq c).and (b.beq d) with
  | true => some (Ty.eq_of_beq (and_spec h).1 ▸ Ty.eq_of_beq (and_spec h).2 ▸ l)
  | false => none

def decS (tm : Nat → AV) (H : Hp) : (l : List (Nat × Pat)) → Option (denS l)
  | [] => some ()
  | (i, .val t) :: l => match t.decV (tm i) with
    | some x => match decS tm H l with
      | some y => some (x, y)
      | none => none
    | none => none
  | (i, .own b) :: l => br (ownIs H b (tm i)) (decS tm H l) none
  | (i, .cst v) :: l => br (avEq v (tm i)) (decS tm H l) none
  | (i, .clo f ts) :: l => match decClo f ts (tm i) with
    | some x => match decS tm H l with
      | some y => some (x, y)
      | none => none
    | none => none
def decL (H : Hp) : (l : List Pat) → List AV → Option (denL l)
  | [], [] => some ()
  | [], _ :: _ => none
  | .val t :: l, cs => match t.dec cs with
    | some (x, r) => match decL H l r with
      | some y => some (x, y)
      | none => none
    | none => none
  | .own b :: l, c :: cs => br (ownIs H b c) (decL H l cs) none
  | .cst v :: l, c :: cs => br (avEq v c) (decL H l cs) none
  | .clo f ts :: l, c :: cs => match decClo f ts c with
    | some x => match decL H l cs with
      | some y => some (x, y)
      | none => none
    | none => none
  | .own _ :: _, [] => none
  | .cst _ :: _, [] => none
  | .clo _ _ :: _, [] => none
def decB (H : Hp) : (l : List (Nat × BPat)) → Option (denB l)
  | [] => some ()
  | (b, .arr t) :: l => match H b with
    | .arr t' xs _ => match castL t' t xs with
      | some ys => match decB H l with
        | some y => some (ys, y)
        | none => none
      | none => none
    | _ => none
  | (b, .box ps) :: l => match H b with
    | .box cs => match decL H ps cs with
      | some z => match decB H l with
        | some y => some (z, y)
        | none => none
      | none => none
    | _ => none
  | (b, .siter) :: l => match H b with
    | .siter t p => match decB H l with
      | some y => some ((t, p), y)
      | none => none
    | _ => none
  | (b, .map kt vt) :: l => match H b with
    | .map kt' vt' es _ => match castM kt' vt' kt vt es with
      | some xs => match decB H l with
        | some y => some (xs, y)
        | none => none
      | none => none
    | _ => none

def isArr : List (Nat × BPat) → Nat → Bool
  | [], _ => false
  | (b, .arr _) :: l, i => br (Nat.beq i b) true (isArr l i)
  | (b, .box _) :: l, i => br (Nat.beq i b) false (isArr l i)
  | (b, .siter) :: l, i => br (Nat.beq i b) false (isArr l i)
  | (b, .map _ _) :: l, i => br (Nat.beq i b) true (isArr l i)
def cstOk (bl : List (Nat × BPat)) (n : Nat) : Nat → AV → Bool
  | 0, _ => false
  | d + 1, v => match v with
    | .ptr b _ _ _ => (Nat.blt b n).and (isArr bl b).not
    | .map b => Nat.blt b n
    | .fn _ xs ys => (xs.all (cstOk bl n d)).and (ys.all (cstOk bl n d))
    | .iface _ v => cstOk bl n d v
    | _ => true
/-- Patterns name rows that are listed, and nothing that a round makes. -/
def patOk (bl : List (Nat × BPat)) (n : Nat) : Pat → Bool
  | .val _ => true
  | .own b => isArr bl b
  | .cst v => cstOk bl n 4 v
  | .clo _ _ => true
def blkOk (bl : List (Nat × BPat)) (n : Nat) : BPat → Bool
  | .arr _ => true
  | .box ps => ps.all (patOk bl n)
  | .siter => true
  | .map _ _ => true
/-- How listed blocks must stand at the loop's start. -/
def startOk (K : Nat) (H : Hp) : List (Nat × BPat) → Bool
  | [] => true
  | (b, .arr t) :: l => (match H b with
    | .arr t' _ k => (t'.beq t).and (Nat.blt k K)
    | _ => false).and (startOk K H l)
  | (b, .box _) :: l => (match H b with
    | .box _ => true
    | _ => false).and (startOk K H l)
  | (b, .siter) :: l => (match H b with
    | .siter _ _ => true
    | _ => false).and (startOk K H l)
  | (b, .map kt vt) :: l => (match H b with
    | .map kt' vt' _ k => ((kt'.beq kt).and (vt'.beq vt)).and (Nat.blt k K)
    | _ => false).and (startOk K H l)

/-- A loop's head, and how it is left: by exit id, and by return. -/
structure LoopP where
  K : Nat
  bl : List (Nat × BPat)
  sl : List (Nat × Pat)
  id : Nat
  s1 : List (Nat × Pat)
  s2 : List (Nat × Pat)

def LoopP.ok (L : LoopP) (n : Nat) (H : Hp) : Bool :=
  ((L.bl.all fun p => (Nat.blt p.1 n).and (blkOk L.bl n p.2)).and (noDup (L.bl.map (·.1)))).and (startOk L.K H L.bl) |>.and
  ((L.sl.all fun p => patOk L.bl n p.2).and ((L.s1.all fun p => patOk L.bl n p.2).and (L.s2.all fun p => patOk L.bl n p.2)))

def LoopP.st (L : LoopP) (nt n : Nat) (H : Hp) (d : List Nat) (sl : List (Nat × Pat)) (x : denS sl × denB L.bl) : St :=
  ⟨nt, tmS L.K sl x.1, hpB L.K H L.bl x.2, n, d⟩
def LoopP.dec (L : LoopP) (sl : List (Nat × Pat)) (st : St) : Option (denS sl × denB L.bl) := match decS st.tm st.hp sl with
  | some s => match decB st.hp L.bl with
    | some y => some (s, y)
    | none => none
  | none => none
abbrev LoopP.Out (L : LoopP) := Sum (denS L.s1 × denB L.bl) (denS L.s2 × denB L.bl)

/-- Rounds, m at the most. -/
noncomputable def LoopP.run (P : Program) (E : FuncId → Option Entry) (L : LoopP) (inl : Inl L.Out) (H : Hints) (LH : Nat → Option (LoopEntry L.Out)) (body : Code) (nt n : Nat) : Nat → denS L.sl × denB L.bl → Option L.Out
  | 0, _ => none
  | m + 1, x => code P E inl H LH body (L.st nt n (fun _ => .gone) [] L.sl x) fun e st' => match e with
    | .normal => match L.dec L.sl st' with
      | some x' => LoopP.run P E L inl H LH body nt n m x'
      | none => none
    | .exit i => br (Nat.beq i L.id) (match L.dec L.s1 st' with
      | some y => some (.inl y)
      | none => none) none
    | .ret => match L.dec L.s2 st' with
      | some y => some (.inr y)
      | none => none

/-- One round, and what comes behind it. -/
noncomputable def LoopP.step (P : Program) (E : FuncId → Option Entry) (L : LoopP) (inl : Inl L.Out) (H : Hints) (LH : Nat → Option (LoopEntry L.Out)) (body : Code) (nt n : Nat) (k : denS L.sl × denB L.bl → Option L.Out) (x : denS L.sl × denB L.bl) : Option L.Out :=
  code P E inl H LH body (L.st nt n (fun _ => .gone) [] L.sl x) fun e st' => match e with
    | .normal => match L.dec L.sl st' with
      | some x' => k x'
      | none => none
    | .exit i => br (Nat.beq i L.id) (match L.dec L.s1 st' with
      | some y => some (.inl y)
      | none => none) none
    | .ret => match L.dec L.s2 st' with
      | some y => some (.inr y)
      | none => none
theorem LoopP.run_succ (P : Program) (E : FuncId → Option Entry) (L : LoopP) (inl : Inl L.Out) (H : Hints) (LH : Nat → Option (LoopEntry L.Out)) (body : Code) (nt n m : Nat) (x : denS L.sl × denB L.bl) :
    LoopP.run P E L inl H LH body nt n (m + 1) x = LoopP.step P E L inl H LH body nt n (LoopP.run P E L inl H LH body nt n m) x := rfl

/-- A loop's entry. -/
noncomputable def LoopP.entry (P : Program) (E : FuncId → Option Entry) (L : LoopP) (inl : Inl L.Out) (H : Hints) (LH : Nat → Option (LoopEntry L.Out)) (body : Code) (N : Nat) : LoopEntry R :=
  .run fun st κ => br (L.ok st.n st.hp) (match L.dec L.sl st with
    | some x => match LoopP.run P E L inl H LH body st.nt st.n N x with
      | some (.inl y) => κ (.exit L.id) (L.st st.nt st.n st.hp (L.bl.map (·.1) ++ st.dirty) L.s1 y)
      | some (.inr y) => κ .ret (L.st st.nt st.n st.hp (L.bl.map (·.1) ++ st.dirty) L.s2 y)
      | none => none
    | none => none) none
end Go.VI
