/- The abstract interpreter: typed values, a small local heap, and the model's Code run on them, in continuation style. -/
import Derived.Orders
import Derived.KernelRfl
namespace Go.VI

/-- Codes of types. -/
inductive Ty where
  | int (k : IntKind) | bool | str
  | slice (t : Ty)
  | pair (a b : Ty)
  | agg (t : Ty)
  | nil

@[reducible] def Ty.den : Ty → Type
  | .int _ => Int
  | .bool => Bool
  | .str => ByteArray
  | .slice t => List t.den
  | .pair a b => a.den × b.den
  | .agg t => t.den
  | .nil => Unit

def Ty.size : Ty → Nat
  | .int _ => 1
  | .bool => 1
  | .str => 1
  | .slice _ => 1
  | .pair a b => a.size + b.size
  | .agg t => t.size
  | .nil => 0

set_option linter.unusedVariables false
/-- Two ways. -/
def br {α : Sort _} (b : Bool) (x y : α) : α :=
  match b with
  | true => x
  | false => y
def bEq (a b : Bool) : Bool := br a b (!b)
def kTag : IntKind → Nat
  | .i8 => 0 | .i16 => 1 | .i32 => 2 | .i64 => 3 | .u8 => 4 | .u16 => 5 | .u32 => 6 | .u64 => 7
def kEq (a b : IntKind) : Bool := Nat.beq (kTag a) (kTag b)
theorem kEq_eq {a b : IntKind} (h : kEq a b = true) : a = b := by cases a <;> cases b <;> first | rfl | (revert h; decide)

def Ty.beq : Ty → Ty → Bool
  | .int a, .int b => kEq a b
  | .bool, .bool => true
  | .str, .str => true
  | .slice a, .slice b => a.beq b
  | .pair a b, .pair c d => (a.beq c).and (b.beq d)
  | .agg a, .agg b => a.beq b
  | .nil, .nil => true
  | _, _ => false
theorem Ty.eq_of_beq : ∀ {a b : Ty}, a.beq b = true → a = b
  | .int a, .int b, h => by rw [kEq_eq (a := a) (b := b) h]
  | .bool, .bool, _ => rfl
  | .str, .str, _ => rfl
  | .slice a, .slice b, h => by rw [Ty.eq_of_beq (a := a) (b := b) h]
  | .pair a b, .pair c d, h => by
    have h : ((a.beq c) && (b.beq d)) = true := h
    rw [Bool.and_eq_true] at h
    rw [Ty.eq_of_beq h.1, Ty.eq_of_beq h.2]
  | .agg a, .agg b, h => by rw [Ty.eq_of_beq (a := a) (b := b) h]
  | .nil, .nil, _ => rfl
  | .int _, .bool, h | .int _, .str, h | .int _, .slice _, h | .int _, .pair _ _, h | .int _, .agg _, h | .int _, .nil, h => nomatch h
  | .bool, .int _, h | .bool, .str, h | .bool, .slice _, h | .bool, .pair _ _, h | .bool, .agg _, h | .bool, .nil, h => nomatch h
  | .str, .int _, h | .str, .bool, h | .str, .slice _, h | .str, .pair _ _, h | .str, .agg _, h | .str, .nil, h => nomatch h
  | .slice _, .int _, h | .slice _, .bool, h | .slice _, .str, h | .slice _, .pair _ _, h | .slice _, .agg _, h | .slice _, .nil, h => nomatch h
  | .pair _ _, .int _, h | .pair _ _, .bool, h | .pair _ _, .str, h | .pair _ _, .slice _, h | .pair _ _, .agg _, h | .pair _ _, .nil, h => nomatch h
  | .agg _, .int _, h | .agg _, .bool, h | .agg _, .str, h | .agg _, .slice _, h | .agg _, .pair _ _, h | .agg _, .nil, h => nomatch h
  | .nil, .int _, h | .nil, .bool, h | .nil, .str, h | .nil, .slice _, h | .nil, .pair _ _, h | .nil, .agg _, h => nomatch h

/-- No slice inside. -/
def Ty.flat : Ty → Bool
  | .slice _ => false
  | .pair a b => a.flat.and b.flat
  | .agg t => t.flat
  | _ => true

def Ty.zero : (t : Ty) → t.den
  | .int _ => (0 : Int)
  | .bool => false
  | .str => ByteArray.empty
  | .slice _ => []
  | .pair a b => (a.zero, b.zero)
  | .agg t => t.zero
  | .nil => ()

/-- Are two keys the same? -/
def Ty.keq : (t : Ty) → t.den → t.den → Bool
  | .int _, a, b => decide ((a : Int) = b)
  | .bool, a, b => bEq a b
  | .str, a, b => decide ((a : ByteArray) = b)
  | .slice _, _, _ => false
  | .pair s t, a, b => (s.keq a.1 b.1).and (t.keq a.2 b.2)
  | .agg t, a, b => t.keq a b
  | .nil, _, _ => true

/-- Abstract values. -/
inductive AV where
  | undef
  | int (k : IntKind) (n : Int)
  | bool (b : Bool)
  | str (s : ByteArray)
  | vals (t : Ty) (l : List t.den)
  | nils
  | lits (n esz : Nat) (cs : List AV)
  | own (b g : Nat)
  | sref (b off len g : Nat) (lim : Bool)
  | ptr (b i o g : Nat)
  | cptr (cs : List AV)
  | nilp
  | map (b : Nat)
  | nilmap
  | stamp (b i g : Nat)
  | fn (f : Fn) (first caps : List AV)
  | nilfn
  | iface (t : TypeId) (v : AV)
  | nili
  | agg (cs : List AV)
  | tup (vs : List AV)
instance : Inhabited AV := ⟨.undef⟩

/-- What lies in a block. -/
inductive Blk where
  | gone
  | box (cs : List AV)
  | arr (t : Ty) (l : List t.den) (g : Nat)
  | map (kt vt : Ty) (es : List (kt.den × vt.den)) (g : Nat)
  | siter (s : ByteArray) (pos : Nat)

abbrev Hp := Nat → Blk
def upd {α : Type} (f : Nat → α) (i : Nat) (v : α) : Nat → α := fun j => br (Nat.beq j i) v (f j)

/-- A value's cells, and the value. -/
def Ty.enc : (t : Ty) → t.den → List AV
  | .int k, n => [.int k n]
  | .bool, b => [.bool b]
  | .str, s => [.str s]
  | .slice t, l => [.vals t l]
  | .pair a b, x => a.enc x.1 ++ b.enc x.2
  | .agg t, x => t.enc x
  | .nil, _ => []
def Ty.val : (t : Ty) → t.den → AV
  | .agg t, x => .agg (t.enc x)
  | .int k, n => .int k n
  | .bool, b => .bool b
  | .str, s => .str s
  | .slice t, l => .vals t l
  | .pair a b, x => .agg ((Ty.pair a b).enc x)
  | .nil, _ => .agg []

def castL (a b : Ty) (l : List a.den) : Option (List b.den) :=
  match h : a.beq b with
  | true => some (Ty.eq_of_beq h ▸ l)
  | false => none

def Ty.dec : (t : Ty) → List AV → Option (t.den × List AV)
  | .int k, c :: r => match c with
    | .int k' n => br (kEq k k') (some (n, r)) none
    | _ => none
  | .bool, c :: r => match c with
    | .bool b => some (b, r)
    | _ => none
  | .str, c :: r => match c with
    | .str s => some (s, r)
    | _ => none
  | .slice t, c :: r => match c with
    | .vals t' l => match castL t' t l with
      | some l => some (l, r)
      | none => none
    | .nils => some ([], r)
    | _ => none
  | .pair a b, cs => match a.dec cs with
    | some (x, r) => match b.dec r with
      | some (y, r) => some ((x, y), r)
      | none => none
    | none => none
  | .agg t, cs => t.dec cs
  | .nil, cs => some ((), cs)
  | .int _, [] => none
  | .bool, [] => none
  | .str, [] => none
  | .slice _, [] => none

def cellsOf : AV → List AV
  | .agg cs => cs
  | v => [v]

def isAggV : AV → Bool
  | .agg _ => true
  | _ => false
def Ty.isAgg : Ty → Bool
  | .agg _ => true
  | .pair _ _ => true
  | .nil => true
  | _ => false

/-- A whole value of a type. -/
def Ty.decV (t : Ty) (v : AV) : Option t.den :=
  br (bEq t.isAgg (isAggV v)) (match t.dec (cellsOf v) with
    | some (x, []) => some x
    | _ => none) none

def decs (t : Ty) : Nat → List AV → Option (List t.den)
  | 0, [] => some []
  | 0, _ => none
  | n + 1, cs => match t.dec cs with
    | some (x, r) => match decs t n r with
      | some l => some (x :: l)
      | none => none
    | none => none

/-- Several values: arguments, results. -/
@[reducible] def Tup : List Ty → Type
  | [] => Unit
  | t :: ts => t.den × Tup ts
def decArgs : (ts : List Ty) → List AV → Option (Tup ts)
  | [], [] => some ()
  | t :: ts, v :: vs => match t.decV v with
    | some x => match decArgs ts vs with
      | some y => some (x, y)
      | none => none
    | none => none
  | _, _ => none
def encVals : (ts : List Ty) → Tup ts → List AV
  | [], _ => []
  | t :: ts, x => t.val x.1 :: encVals ts x.2
/-- What a call hands back. -/
def resVal : List AV → AV
  | [v] => v
  | vs => .tup vs

/-- A function's contract: values in, values out. -/
structure Entry where
  ts : List Ty
  rs : List Ty
  f : Tup ts → Option (Tup rs)

/-- Constants. -/
def const1 : Value → AV
  | .int k n => .int k n
  | .bool b => .bool b
  | .string s => .str s
  | .pointer none => .nilp
  | .slice none 0 0 => .nils
  | .map none => .nilmap
  | .nilFunc => .nilfn
  | .nilIface => .nili
  | _ => .undef
def ofConst : Value → AV
  | .agg cs => .agg (cs.toList.map const1)
  | v => const1 v

def tyOf (P : Program) : Nat → TypeId → Option Ty
  | 0, _ => none
  | d + 1, t => match P.underlying t with
    | some .bool => some .bool
    | some (.int k) => some (.int k)
    | some .string => some .str
    | some (.slice e) => match tyOf P d e with
      | some t => some (.slice t)
      | none => none
    | some (.struct fs) =>
      match (fs.toList.map fun f => tyOf P d f.type).foldr (fun x acc => match x, acc with
        | some t, some (some u) => some (some (Ty.pair t u))
        | some t, some none => some (some t)
        | _, _ => none) (some none) with
      | some (some t) => some (.agg t)
      | some none => some (.agg .nil)
      | none => none
    | some (.array n e) => match tyOf P d e with
      | some t => match (List.replicate n t).foldr (fun t acc => match acc with
          | some u => some (Ty.pair t u)
          | none => some t) none with
        | some t => some (.agg t)
        | none => some (.agg .nil)
      | none => none
    | _ => none

def sizeT (P : Program) (t : TypeId) : Nat :=
  match P.info? t with
  | some i => i.size
  | none => 0
def sizeIs (P : Program) (t : TypeId) (n : Nat) : Bool :=
  match P.info? t with
  | some i => Nat.beq n i.size
  | none => false
def bytesT (P : Program) (t : TypeId) : Nat :=
  match P.info? t with
  | some i => i.bytes
  | none => 0
def zeroT (P : Program) (t : TypeId) : Option AV :=
  match P.info? t with
  | some i => match i.zero with
    | some v => some (ofConst v)
    | none => none
  | none => none

/-- Is it a struct or an array? -/
def kindT (P : Program) (t : TypeId) : Option Bool :=
  match P.underlying t with
  | some (.struct _) => some true
  | some (.array _ _) => some true
  | some _ => some false
  | none => none
/-- Part of a row of cells, as a value of type t. -/
def partV (P : Program) (t : TypeId) (cs : List AV) (o : Nat) : Option AV :=
  match kindT P t with
  | some true => match P.info? t with
    | some i => br (Nat.ble (o + i.size) cs.length) (some (.agg ((cs.drop o).take i.size))) none
    | none => none
  | some false => cs[o]?
  | none => none
def splice (cs : List AV) (o : Nat) (new : List AV) : List AV := cs.take o ++ (new ++ cs.drop (o + new.length))
/-- Its cells are known. -/
def good : AV → Bool
  | .undef => false
  | .tup _ => false
  | _ => true
def fillV (place : Nat → Option (Nat × Nat)) (cells : List AV) : List (Nat × AV) → Option (List AV)
  | [] => some cells
  | (i, v) :: rest => match place i with
    | none => none
    | some (off, size) => br ((good v).and ((Nat.beq (cellsOf v).length size).and (Nat.ble (off + (cellsOf v).length) cells.length)))
      (fillV place (splice cells off (cellsOf v)) rest) none

/-- No row of cells hides in it. -/
def oneCell : AV → Bool
  | .undef => false
  | .agg _ => false
  | .tup _ => false
  | _ => true

/-- Slices that are read as they are now. -/
def borrow1 (hp : Hp) : AV → AV
  | .own b g => match hp b with
    | .arr t l g' => br (Nat.beq g g') (.vals t l) .undef
    | _ => .undef
  | .sref b off len g _ => match hp b with
    | .arr t l g' => br (Nat.beq g g') (.vals t ((l.drop off).take len)) .undef
    | _ => .undef
  | v => v
def borrow (hp : Hp) : AV → AV
  | .agg cs => .agg (cs.map (borrow1 hp))
  | v => borrow1 hp v
def borrowed1 : AV → Bool
  | .own _ _ => true
  | .sref _ _ _ _ _ => true
  | _ => false
def borrowed : AV → Bool
  | .agg cs => cs.any borrowed1
  | v => borrowed1 v

/-- Slices that are done with: what fills a block is read for good, and the block is given up. -/
def frees1 : AV → List Nat
  | .own b _ => [b]
  | .sref b _ _ _ _ => [b]
  | _ => []
def frees : AV → List Nat
  | .agg cs => cs.flatMap frees1
  | .tup vs => vs.flatMap fun
    | .agg cs => cs.flatMap frees1
    | v => frees1 v
  | v => frees1 v
def freezeV (hp : Hp) : AV → AV
  | .tup vs => .tup (vs.map (borrow hp))
  | v => borrow hp v
def dropB (hp : Hp) : List Nat → Hp
  | [] => hp
  | b :: bs => upd (dropB hp bs) b .gone

abbrev KO (R : Type) := AV → Hp → Nat → List Nat → Option R

section ops
variable {R : Type} (P : Program)

def maxElems : Nat := 4294967296

def newBlk (e : TypeId) (cs : List AV) (hp : Hp) (nb n : Nat) (κ : KO R) : Option R :=
  match P.underlying e with
  | some (.array len e') => br (Nat.ble len 8) (κ (.ptr nb 0 0 0) (upd hp nb (.box cs)) n []) (match tyOf P 8 e' with
    | some t => match decs t len cs with
      | some l => κ (.ptr nb 0 0 0) (upd hp nb (.arr t l 0)) n []
      | none => κ (.ptr nb 0 0 0) (upd hp nb (.box cs)) n []
    | none => κ (.ptr nb 0 0 0) (upd hp nb (.box cs)) n [])
  | _ => κ (.ptr nb 0 0 0) (upd hp nb (.box cs)) n []

def loadO (t : TypeId) (a : AV) (hp : Hp) (n : Nat) (κ : KO R) : Option R :=
  match a with
  | .cptr cs => match partV P t cs 0 with
    | some v => κ v hp n []
    | none => none
  | .ptr b i o g => match hp b with
    | .box cs => br (Nat.beq i 0) (match partV P t cs o with
      | some v => κ v hp n []
      | none => none) none
    | .arr ty l g' => br (Nat.beq g g') (l[i]?.bind fun x => match partV P t (ty.enc x) o with
      | some v => κ v hp n []
      | none => none) none
    | _ => none
  | _ => none

def storeO (t : TypeId) (a v : AV) (hp : Hp) (n : Nat) (κ : KO R) : Option R :=
  br (sizeIs P t (cellsOf v).length) (match a with
  | .ptr b i o g => match hp b with
    | .box cs => br ((Nat.beq i 0).and ((Nat.ble (o + (cellsOf v).length) cs.length).and ((cellsOf v).all oneCell)))
      (κ .undef (upd hp b (.box (splice cs o (cellsOf v)))) n [b]) none
    | .arr ty l g' => br (Nat.beq g g') (l[i]?.bind fun x => br ((good v).and (Nat.ble (o + (cellsOf v).length) ty.size))
        (match ty.dec (splice (ty.enc x) o (cellsOf v)) with
        | some (y, []) => κ .undef (upd hp b (.arr ty (l.set i y) g')) n [b]
        | _ => none) none) none
    | _ => none
  | _ => none) none

def fieldO (t : TypeId) (x : AV) (f : Nat) : Option Nat :=
  match P.underlying t with
  | some (.struct fs) => match fs[f]? with
    | some fd => br (Nat.beq (sizeT P fd.type) 0) none (some fd.offset)
    | none => none
  | _ => none
def fieldType (t : TypeId) (f : Nat) : TypeId :=
  match P.underlying t with
  | some (.struct fs) => match fs[f]? with
    | some fd => fd.type
    | none => 0
  | _ => 0

def inRange (i : Int) (n : Nat) : Bool := (decide (0 ≤ i)).and (decide (i < (n : Int)))

def indexAddrO (t : TypeId) (x ix : AV) (hp : Hp) (n : Nat) (κ : KO R) : Option R :=
  match ix with
  | .int _ i => match P.underlying t with
    | some (.slice e) => match x with
      | .vals ty l => br ((sizeIs P e ty.size).and (decide (0 ≤ i))) (l[i.toNat]?.bind fun x => κ (.cptr (ty.enc x)) hp n []) none
      | .lits m sz cs => br ((sizeIs P e sz).and (inRange i m)) (κ (.cptr ((cs.drop (i.toNat * sz)).take sz)) hp n []) none
      | .own b g => match hp b with
        | .arr ty l g' => br ((Nat.beq g g').and (sizeIs P e ty.size)) (br (inRange i l.length) (κ (.ptr b i.toNat 0 g) hp n []) none) none
        | _ => none
      | .sref b off len g _ => match hp b with
        | .arr ty _ g' => br ((Nat.beq g g').and (sizeIs P e ty.size)) (br (inRange i len) (κ (.ptr b (off + i.toNat) 0 g) hp n []) none) none
        | _ => none
      | _ => none
    | some (.array len e) => match x with
      | .ptr b i' o g => match hp b with
        | .arr ty _ g' => br ((Nat.beq i' 0).and (Nat.beq o 0)) (br ((Nat.beq g g').and (sizeIs P e ty.size)) (br (inRange i len) (κ (.ptr b i.toNat 0 g) hp n []) none) none) none
        | .box _ => br ((Nat.beq i' 0).and (inRange i len)) (match P.info? e with
          | some ie => κ (.ptr b 0 (o + i.toNat * ie.size) g) hp n []
          | none => none) none
        | _ => none
      | .cptr cs => br (inRange i len) (match P.info? e with
        | some ie => κ (.cptr (cs.drop (i.toNat * ie.size))) hp n []
        | none => none) none
      | _ => none
    | _ => none
  | _ => none

def boundO (x : Option AV) (dflt : Nat) (κ : Nat → Option R) : Option R :=
  match x with
  | none => κ dflt
  | some (.int _ i) => br (decide (0 ≤ i)) (κ i.toNat) none
  | _ => none

def sliceO (t : TypeId) (x : AV) (lo hi mx : Option AV) (hp : Hp) (n : Nat) (κ : KO R) : Option R :=
  match P.underlying t, x with
  | some .string, .str s => match mx with
    | some _ => none
    | none => boundO lo 0 fun l => boundO hi s.size fun h =>
      br ((Nat.ble l h).and (Nat.ble h s.size)) (κ (.str (s.extract l h)) hp n []) none
  | some (.slice e), .vals ty l => br (sizeIs P e ty.size) (match mx with
    | some _ => none
    | none => match lo, hi with
      | none, none => κ (.vals ty l) hp n []
      | some (.int _ i), none => br ((decide (0 ≤ i)).and (decide (i ≤ (l.length : Int)))) (κ (.vals ty (l.drop i.toNat)) hp n []) none
      | none, some (.int _ j) => br ((decide (0 ≤ j)).and (decide (j ≤ (l.length : Int)))) (κ (.vals ty (l.take j.toNat)) hp n []) none
      | some (.int _ i), some (.int _ j) => br ((decide (0 ≤ i)).and ((decide (i ≤ j)).and (decide (j ≤ (l.length : Int)))))
          (κ (.vals ty ((l.drop i.toNat).take (j.toNat - i.toNat))) hp n []) none
      | _, _ => none) none
  | some (.slice e), .own b g => match hp b with
    | .arr ty l g' => br ((Nat.beq g g').and (sizeIs P e ty.size)) (boundO lo 0 fun i => boundO hi l.length fun j =>
        br ((Nat.ble i j).and (Nat.ble j l.length)) (match mx with
          | none => κ (.sref b i (j - i) g false) hp n []
          | some (.int _ m) => match hi with
            | some _ => br (decide (m = (j : Int))) (κ (.sref b i (j - i) g true) hp n []) none
            | none => none
          | _ => none) none) none
    | _ => none
  | some (.array len e), .ptr b 0 0 g => match hp b with
    | .arr ty l g' => br ((Nat.beq g g').and ((Nat.beq len l.length).and (sizeIs P e ty.size))) (boundO lo 0 fun i => boundO hi len fun j =>
        br ((Nat.ble i j).and (Nat.ble j len)) (match mx with
          | none => κ (.sref b i (j - i) g false) hp n []
          | some _ => none) none) none
    | _ => none
  | _, _ => none

/-- What a slice holds, as a list of type t. -/
def listOf (t : Ty) (x : AV) (hp : Hp) : Option (List t.den) :=
  match x with
  | .nils => some []
  | .vals t' l => castL t' t l
  | .own b g => match hp b with
    | .arr t' l g' => br (Nat.beq g g') (castL t' t l) none
    | _ => none
  | .sref b off len g _ => match hp b with
    | .arr t' l g' => br (Nat.beq g g') (match castL t' t l with
      | some l => some ((l.drop off).take len)
      | none => none) none
    | _ => none
  | _ => none
def blockOf : AV → Option Nat
  | .own b _ => some b
  | .sref b _ _ _ _ => some b
  | _ => none

/-- Do rows of elements of type e have t's cells, and can they grow? -/
def rowOk (e : TypeId) (t : Ty) : Bool :=
  match P.info? e with
  | some i => (Nat.ble i.bytes 16384).and ((Nat.beq i.size t.size).and (match i.zero with
    | some z => Nat.beq z.cells.size i.size
    | none => false))
  | none => false

def appendO (e : TypeId) (s x : AV) (hp : Hp) (nb n : Nat) (κ : KO R) : Option R :=
  match s with
  | .nils => match tyOf P 8 e with
    | some t => br (rowOk P e t) (match listOf t x hp with
      | some l' => br (Nat.ble l'.length maxElems) (κ (.own nb 0) (upd hp nb (.arr t l' 0)) n []) none
      | none => none) none
    | none => none
  | .own b g => match hp b with
    | .arr t l g' => br ((Nat.beq g g').and (rowOk P e t)) (match listOf t x hp with
      | some l' => br (match blockOf x with
          | some b' => Nat.beq b b'
          | none => false) none
        (br (Nat.ble (l.length + l'.length) maxElems) (κ (.own b (g' + 1)) (upd hp b (.arr t (l ++ l') (g' + 1))) n [b]) none)
      | none => none) none
    | _ => none
  | .sref b off len g true => match hp b with
    | .arr t l g' => br ((Nat.beq g g').and ((rowOk P e t).and (Nat.ble (off + len) l.length))) (match listOf t x hp with
      | some l' => br (Nat.ble 1 l'.length) (br (Nat.ble (len + l'.length) maxElems)
          (κ (.own nb 0) (upd hp nb (.arr t ((l.drop off).take len ++ l') 0)) n []) none) (κ (.sref b off len g true) hp n [])
      | none => none) none
    | _ => none
  | _ => none

def spliceL {α : Type} (l : List α) (o : Nat) (new : List α) : List α := l.take o ++ (new ++ l.drop (o + new.length))

def copyO (e : TypeId) (d x : AV) (hp : Hp) (n : Nat) (κ : KO R) : Option R :=
  match d with
  | .own b g => match hp b with
    | .arr t l g' => br ((Nat.beq g g').and (sizeIs P e t.size)) (match listOf t x hp with
      | some l' => κ (.int .i64 (min l'.length l.length : Nat)) (upd hp b (.arr t (spliceL l 0 (l'.take (min l'.length l.length))) g')) n [b]
      | none => none) none
    | _ => none
  | .sref b off len g _ => match hp b with
    | .arr t l g' => br ((Nat.beq g g').and (sizeIs P e t.size)) (match listOf t x hp with
      | some l' => κ (.int .i64 (min l'.length len : Nat)) (upd hp b (.arr t (spliceL l off (l'.take (min l'.length len))) g')) n [b]
      | none => none) none
    | _ => none
  | _ => none

def lenO (t : TypeId) (x : AV) (hp : Hp) : Option Int :=
  match P.underlying t, x with
  | some .string, .str s => some s.size
  | some (.array n _), _ => some n
  | some (.slice _), .vals _ l => some l.length
  | some (.slice _), .nils => some 0
  | some (.slice _), .lits n _ _ => some n
  | some (.slice _), .own b g => match hp b with
    | .arr _ l g' => br (Nat.beq g g') (some (l.length : Int)) none
    | _ => none
  | some (.slice _), .sref _ _ len _ _ => some len
  | some (.map _ _), .nilmap => some 0
  | some (.map _ _), .map b => match hp b with
    | .map _ _ es _ => some es.length
    | _ => none
  | _, _ => none

/-- Are two fields' worth of cells the same? -/
def eqFs (P : Program) (rec : TypeId → AV → AV → Option Bool) (cs ds : List AV) : List Field → Option Bool
  | [] => some true
  | f :: fs => br (f.name == "_") none (match partV P f.type cs f.offset with
    | some a => match partV P f.type ds f.offset with
      | some b => match rec f.type a b with
        | some e => match eqFs P rec cs ds fs with
          | some r => some (e.and r)
          | none => none
        | none => none
      | none => none
    | none => none)
/-- Are two values the same? -/
def eqV (P : Program) : Nat → TypeId → AV → AV → Option Bool
  | 0, _, _, _ => none
  | d + 1, t, x, y => match P.underlying t with
    | some .bool => match x, y with
      | .bool a, .bool b => some (bEq a b)
      | _, _ => none
    | some (.int _) => match x, y with
      | .int k a, .int k' b => br (kEq k k') (some (decide (a = b))) none
      | _, _ => none
    | some .string => match x, y with
      | .str a, .str b => some (decide (a = b))
      | _, _ => none
    | some (.struct fs) => match x, y with
      | .agg cs, .agg ds => br (P.stoodInHeld t) none (eqFs P (eqV P d) cs ds fs.toList)
      | _, _ => none
    | _ => none

def bl (a b : ByteArray) : Bool := Op.bytesLess a.toList b.toList
def bitsV (op : BinOp) (k : IntKind) (x y : Int) : Option Int :=
  let a := BitVec.ofInt k.bits x
  let b := BitVec.ofInt k.bits y
  match op with
  | .and => some (k.wrap (a &&& b).toNat)
  | .or => some (k.wrap (a ||| b).toNat)
  | .xor => some (k.wrap (a ^^^ b).toNat)
  | .andNot => some (k.wrap (a &&& ~~~b).toNat)
  | _ => none

/-- Comparison with nil. -/
def nilEq (t : TypeId) (x y : AV) (cst : Bool) : Option Bool :=
  match P.underlying t, x, y with
  | some (.pointer _), .nilp, .nilp => some true
  | some (.pointer _), .ptr _ _ _ _, .nilp => some false
  | some (.pointer _), .nilp, .ptr _ _ _ _ => some false
  | some (.pointer _), .cptr _, .nilp => some false
  | some (.slice _), .nils, .nils => some true
  | some (.map _ _), .nilmap, .nilmap => some true
  | some (.map _ _), .map _, .nilmap => some false
  | some (.map _ _), .nilmap, .map _ => some false
  | some (.func _ _ _), .nilfn, .nilfn => some true
  | some (.func _ _ _), .fn _ _ _, .nilfn => some false
  | some (.interface _), .nili, .nili => br cst (some true) none
  | some (.interface _), .iface _ _, .nili => some false
  | some (.interface _), .nili, .iface _ _ => some false
  | _, _, _ => none

def binO (op : BinOp) (t : TypeId) (x y : AV) (cst : Bool) (κ : AV → Option R) : Option R :=
  match x, y with
  | .int k a, .int k' b => match op with
    | .shl => br (decide (b < 0)) none (κ (.int k (k.wrap (a * 2 ^ (min b.toNat k.bits)))))
    | .shr => br (decide (b < 0)) none (κ (.int k (a.fdiv (2 ^ (min b.toNat k.bits)))))
    | _ => br (kEq k k') (match op with
      | .add => κ (.int k (k.wrap (a + b)))
      | .sub => κ (.int k (k.wrap (a - b)))
      | .mul => κ (.int k (k.wrap (a * b)))
      | .quo => br (decide (b = 0)) none (κ (.int k (k.wrap (a.tdiv b))))
      | .rem => br (decide (b = 0)) none (κ (.int k (a.tmod b)))
      | .eql => κ (.bool (decide (a = b)))
      | .neq => κ (.bool (!decide (a = b)))
      | .lss => κ (.bool (decide (a < b)))
      | .leq => κ (.bool (decide (a ≤ b)))
      | .gtr => κ (.bool (decide (b < a)))
      | .geq => κ (.bool (decide (b ≤ a)))
      | _ => match bitsV op k a b with
        | some n => κ (.int k n)
        | none => none) none
  | .str a, .str b => match op with
    | .add => br (Nat.ble (a.size + b.size) 140737488355328) (κ (.str (a ++ b))) none
    | .eql => κ (.bool (decide (a = b)))
    | .neq => κ (.bool (!decide (a = b)))
    | .lss => κ (.bool (bl a b))
    | .leq => κ (.bool ((bl a b).or (decide (a = b))))
    | .gtr => κ (.bool (!(bl a b).or (decide (a = b))))
    | .geq => κ (.bool (!bl a b))
    | _ => none
  | .bool a, .bool b => match P.underlying t with
    | some .bool => match op with
      | .eql => κ (.bool (bEq a b))
      | .neq => κ (.bool (!bEq a b))
      | _ => none
    | _ => none
  | .agg cs, .agg ds => br (P.eqGuardType P.depth t) none (match eqV P 9 t (.agg cs) (.agg ds) with
    | some e => match op with
      | .eql => κ (.bool e)
      | .neq => κ (.bool (!e))
      | _ => none
    | none => none)
  | _, _ =>
    match nilEq P t x y cst with
    | some e => match op with
      | .eql => κ (.bool e)
      | .neq => κ (.bool (!e))
      | _ => none
    | none => none

def unO (op : UnOp) (x : AV) (κ : AV → Option R) : Option R :=
  match op, x with
  | .not, .bool b => κ (.bool (!b))
  | .neg, .int k n => κ (.int k (k.wrap (0 - n)))
  | .xor, .int k n => match bitsV .xor k (br k.signed (-1) k.max) n with
    | some m => κ (.int k m)
    | none => none
  | _, _ => none

def bytesOf (s : ByteArray) : List Int := s.data.toList.map fun b => (b.toNat : Int)
def ofBytes (l : List Int) : ByteArray := ⟨(l.map fun n => UInt8.ofNat n.toNat).toArray⟩

def convO (src dst : TypeId) (x : AV) (hp : Hp) (κ : AV → Option R) : Option R :=
  match P.underlying src with
  | none => none
  | some sd => match P.underlying dst, x with
    | some (.int k), .int _ m => κ (.int k (k.wrap m))
    | some .string, .str s => κ (.str s)
    | some .string, .int _ m => κ (.str (Utf8.encode m))
    | some .string, v => match sd with
      | .slice e => match P.underlying e with
        | some (.int .u8) => match listOf (.int .u8) v hp with
          | some l => κ (.str (ofBytes l))
          | none => none
        | _ => none
      | _ => none
    | _, _ => none

def mget (kt : Ty) {β : Type} (es : List (kt.den × β)) (k : kt.den) : Option β :=
  match es with
  | [] => none
  | e :: es => br (kt.keq k e.1) (some e.2) (mget kt es k)
def mset (kt : Ty) {β : Type} (es : List (kt.den × β)) (k : kt.den) (v : β) : List (kt.den × β) :=
  match es with
  | [] => [(k, v)]
  | e :: es => br (kt.keq k e.1) ((k, v) :: es) (e :: mset kt es k v)
def mdel (kt : Ty) {β : Type} (es : List (kt.den × β)) (k : kt.den) : List (kt.den × β) :=
  match es with
  | [] => []
  | e :: es => br (kt.keq k e.1) es (e :: mdel kt es k)
def mpos (kt : Ty) {β : Type} (es : List (kt.den × β)) (k : kt.den) : Nat :=
  match es with
  | [] => 0
  | e :: es => br (kt.keq k e.1) 0 (mpos kt es k + 1)

def keyOk (kT : TypeId) (kt : Ty) : Bool := match P.underlying kT, kt with
  | some .string, .str => true
  | some (.int k), .int k' => kEq k k'
  | _, _ => false
def keyV (kT : TypeId) (ix : AV) : Bool := match P.underlying kT, ix with
  | some .string, .str _ => true
  | some (.int k), .int k' _ => kEq k k'
  | _, _ => false
def lookupO (t : TypeId) (m ix : AV) (ok : Bool) (hp : Hp) (n : Nat) (κ : KO R) : Option R :=
  match P.underlying t with
  | some (.map kT e) => match zeroT P e with
    | some z => match m with
      | .map b => match hp b with
        | .map kt vt es _ => br (keyOk P kT kt) (match kt.decV ix with
          | some k => match vt.decV z with
            | some z0 => κ (br ok (.tup [vt.val ((mget kt es k).getD z0), .bool (mget kt es k).isSome]) (vt.val ((mget kt es k).getD z0))) hp n []
            | none => none
          | none => none) none
        | _ => none
      | .nilmap => br (keyV P kT ix) (κ (br ok (.tup [z, .bool false]) z) hp n []) none
      | _ => none
    | none => none
  | _ => none

def makeMapO (t : TypeId) (res : Option AV) (hp : Hp) (nb n : Nat) (κ : KO R) : Option R :=
  match res with
  | some _ => none
  | none => match P.underlying t with
    | some (.map k e) => match tyOf P 8 k, tyOf P 8 e with
      | some kt, some vt => κ (.map nb) (upd hp nb (.map kt vt [] 0)) n []
      | _, _ => none
    | _ => none

def mapUpdateO (t : TypeId) (m k v : AV) (hp : Hp) (n : Nat) (κ : KO R) : Option R :=
  match P.underlying t with
  | some (.map kT e) => match m with
    | .map b => match hp b with
      | .map kt vt es g => br (keyOk P kT kt) (match kt.decV k with
        | some k => match vt.decV v with
          | some v => κ .undef (upd hp b (.map kt vt (mset kt es k v) (g + 1))) n [b]
          | none => none
        | none => none) none
      | _ => none
    | _ => none
  | _ => none

def mapEntryO (m k : AV) (hp : Hp) (n : Nat) (κ : KO R) : Option R :=
  match m with
  | .map b => match hp b with
    | .map kt vt es g => match kt.decV k with
      | some k => κ (.tup [vt.val ((mget kt es k).getD vt.zero), .stamp b (mpos kt es k) (g + 1)])
          (upd hp b (.map kt vt (mset kt es k ((mget kt es k).getD vt.zero)) (g + 1))) n [b]
      | none => none
    | _ => none
  | _ => none

def entryStoreO (m s v : AV) (hp : Hp) (n : Nat) (κ : KO R) : Option R :=
  match m, s with
  | .map b, .stamp b' i g' => br (Nat.beq b b') (match hp b with
    | .map kt vt es g => br (Nat.beq g g') (match vt.decV v with
      | some y => κ .undef (upd hp b (.map kt vt (es.modify i fun e => (e.1, y)) (g + 1))) n [b]
      | none => none) none
    | _ => none) none
  | _, _ => none

def deleteO (t : TypeId) (m k : AV) (hp : Hp) (n : Nat) (κ : KO R) : Option R :=
  match P.underlying t with
  | some (.map kT e) => match m with
    | .nilmap => br (keyV P kT k) (κ (.tup []) hp n []) none
    | .map b => match hp b with
      | .map kt vt es g => br (keyOk P kT kt) (match kt.decV k with
        | some k => κ (.tup []) (upd hp b (.map kt vt (mdel kt es k) (g + 1))) n [b]
        | none => none) none
      | _ => none
    | _ => none
  | _ => none
def clearO (m : AV) (hp : Hp) (n : Nat) (κ : KO R) : Option R :=
  match m with
  | .nilmap => κ (.tup []) hp n []
  | .map b => match hp b with
    | .map kt vt es g => κ (.tup []) (upd hp b (.map kt vt [] (g + 1))) n [b]
    | _ => none
  | _ => none

def intsOf : List AV → Option (List Int)
  | [] => some []
  | .int .i64 n :: r => match intsOf r with
    | some l => some (n :: l)
    | none => none
  | _ => none

def parts (ρ : Operand → AV) (ps : Array (Nat × Operand)) : List (Nat × AV) := ps.toList.map fun p => (p.1, ρ p.2)

def placesOf : List Field → Option (List (Nat × Nat))
  | [] => some []
  | f :: fs => match P.info? f.type with
    | some i => match placesOf fs with
      | some r => some ((f.offset, i.size) :: r)
      | none => none
    | none => none
def buildO (t : TypeId) (ps : List (Nat × AV)) : Option AV :=
  match zeroT P t with
  | some z => match P.underlying t with
    | some (.struct fs) => match placesOf P fs.toList with
      | some places => match fillV (fun i => places[i]?) (cellsOf z) ps with
        | some cs => some (.agg cs)
        | none => none
      | none => none
    | some (.array _ e) => match P.info? e with
      | some ie => match fillV (fun i => some (i * ie.size, ie.size)) (cellsOf z) ps with
        | some cs => some (.agg cs)
        | none => none
      | none => none
    | _ => none
  | none => none

def repCells (cs : List AV) : Nat → List AV
  | 0 => []
  | n + 1 => cs ++ repCells cs n

def buildSliceO (t : TypeId) (len : Nat) (ps : List (Nat × AV)) (hp : Hp) (nb n : Nat) (κ : KO R) : Option R :=
  match P.underlying t with
  | some (.slice e) => match P.info? e with
    | some ie => match ie.zero with
      | some z => br ((Nat.ble (len * ie.size) 16777216).and ((Nat.beq z.cells.size ie.size).and (Nat.ble 1 (len * ie.size)))) (match fillV (fun i => some (i * ie.size, ie.size)) (repCells (cellsOf (ofConst z)) len) ps with
        | some cs => match tyOf P 8 e with
          | some ty => match decs ty len cs with
            | some l => κ (.own nb 0) (upd hp nb (.arr ty l 0)) n []
            | none => κ (.lits len ie.size cs) hp n []
          | none => κ (.lits len ie.size cs) hp n []
        | none => none)
        (br ((Nat.beq len 0).and (match ps with
          | [] => true
          | _ :: _ => false)) (match tyOf P 8 e with
          | some ty => κ (.own nb 0) (upd hp nb (.arr ty [] 0)) n []
          | none => none) none)
      | none => none
    | none => none
  | _ => none

def makeSliceO (t : TypeId) (len cap : AV) (hp : Hp) (nb n : Nat) (κ : KO R) : Option R :=
  match P.underlying t, len, cap with
  | some (.slice e), .int .i64 l, .int .i64 c => match tyOf P 8 e, zeroT P e with
    | some ty, some z => match ty.dec (cellsOf z) with
      | some (x, []) => br ((rowOk P e ty).and ((decide (0 ≤ l)).and ((decide (l ≤ c)).and (decide (c ≤ 4294967296)))))
        (κ (.own nb 0) (upd hp nb (.arr ty (List.replicate l.toNat x) 0)) n []) none
      | _ => none
    | _, _ => none
  | _, _, _ => none

def rangeO (t : TypeId) (x : AV) (hp : Hp) (nb n : Nat) (κ : KO R) : Option R :=
  match P.underlying t, x with
  | some .string, .str s => κ (.ptr nb 0 0 0) (upd hp nb (.siter s 0)) n []
  | _, _ => none
def nextO (it : AV) (hp : Hp) (n : Nat) (κ : KO R) : Option R :=
  match it with
  | .ptr b 0 0 0 => match hp b with
    | .siter s pos => br (Nat.blt pos s.size)
        (κ (.tup [.bool true, .int .i64 pos, .int .i32 (Utf8.decode s pos).1]) (upd hp b (.siter s (pos + (Utf8.decode s pos).2))) n [b])
        (κ (.tup [.bool false]) hp n [])
    | _ => none
  | _ => none

end ops

/-- What is told to the interpreter of one function, beside its code: regions' operations whose slice is done with, or whose nil slice begins a block; operations that write in a region that draws its order (lw: to a block that the region itself made; bd: loads of what is read for good; jo: calls that hand back a new row); slots whose row is read for good from a region on (fz); whether what is handed back stays as it is. -/
structure Hints where
  freeze : Nat → List Nat := fun _ => []
  thaw : Nat → List Nat := fun _ => []
  wr : Nat → List Nat := fun _ => []
  lw : Nat → List Nat := fun _ => []
  bd : Nat → List Nat := fun _ => []
  jo : Nat → List Nat := fun _ => []
  fz : Nat → List Nat := fun _ => []
  keep : Bool := false

structure St where
  nt : Nat
  tm : Nat → AV
  hp : Hp
  n : Nat
  dirty : List Nat

inductive Ex where
  | normal | exit (id : Nat) | ret

abbrev KC (R : Type) := Ex → St → Option R

/-- A loop's contract: from what stands at its head to what stands behind it. -/
inductive LoopEntry (R : Type) where
  | unroll (n : Nat)
  | run (f : St → KC R → Option R)

/-- A call that is walked into. -/
abbrev Inl (R : Type) := FuncId → List AV → Hp → Nat → (AV → Hp → Nat → List Nat → Option R) → Option R

def evalO (tm : Nat → AV) : Operand → AV
  | .tmp t => tm t
  | .const v => ofConst v
  | .func f => .fn (.func f) [] []
  | .global _ => .undef

section interp
variable {R : Type} (P : Program) (E : FuncId → Option Entry) (inl : Inl R)

def enterable (f : FuncId) : Bool :=
  match P.funcs[f]? with
  | some fn => (!(fn.name == "runtime.NumGoroutine")).and fn.body.isSome
  | none => false

def callO (f : FuncId) (args : List AV) (hp : Hp) (n : Nat) (κ : KO R) : Option R :=
  br (enterable P f) (match E f with
  | some e => br (args.any borrowed)
    (br (e.rs.all Ty.flat) (match decArgs e.ts (args.map (borrow hp)) with
      | some x => (e.f x).bind fun r => κ (resVal (encVals e.rs r)) hp n []
      | none => none) none)
    (match decArgs e.ts args with
    | some x => (e.f x).bind fun r => κ (resVal (encVals e.rs r)) hp n []
    | none => none)
  | none => inl f args hp n κ) none

def elemT (t : TypeId) : TypeId := match P.underlying t with
  | some (.slice e) => e
  | _ => 0

def builtinO (b : Builtin) (argTypes : Array TypeId) (args : List AV) (hp : Hp) (nb n : Nat) (κ : KO R) : Option R :=
  match b, args with
  | .len, [x] => match argTypes[0]? with
    | some t => match lenO P t x hp with
      | some m => κ (.int .i64 m) hp n []
      | none => none
    | none => none
  | .append, [s, x] => match argTypes[0]?, argTypes[1]? with
    | some t, some u => match P.underlying t, P.underlying u with
      | some (.slice e), some (.slice _) => appendO P e s x hp nb n κ
      | _, _ => none
    | _, _ => none
  | .max, .int k a :: r => match k, intsOf r with
    | .i64, some l => κ (.int .i64 (l.foldl max a)) hp n []
    | _, _ => none
  | .min, .int k a :: r => match k, intsOf r with
    | .i64, some l => κ (.int .i64 (l.foldl min a)) hp n []
    | _, _ => none
  | .delete, [m, k] => match argTypes[0]? with
    | some t => deleteO P t m k hp n κ
    | none => none
  | _, _ => none

def isConst : Operand → Bool
  | .const _ => true
  | _ => false

def aop (o : Oper) (ρ : Operand → AV) (hp : Hp) (nb n : Nat) (κ : KO R) : Option R :=
  match o.op with
  | .move x => κ (ρ x) hp n []
  | .assign x => κ (ρ x) hp n []
  | .pick c a b => match ρ c with
    | .bool t => br t (κ (ρ a) hp n []) (κ (ρ b) hp n [])
    | _ => none
  | .alloc e => match zeroT P e with
    | some z => newBlk P e (cellsOf z) hp nb n κ
    | none => none
  | .box e x => br (good (ρ x)) (newBlk P e (cellsOf (ρ x)) hp nb n κ) none
  | .build t ps => match buildO P t (parts ρ ps) with
    | some v => κ v hp n []
    | none => none
  | .buildSlice t len ps => buildSliceO P t len (parts ρ ps) hp nb n κ
  | .load t a => loadO P t (ρ a) hp n κ
  | .store t a x => storeO P t (ρ a) (ρ x) hp n κ
  | .nilCheck x => match ρ x with
    | .ptr b i o g => κ (.ptr b i o g) hp n []
    | .cptr cs => κ (.cptr cs) hp n []
    | .iface t v => κ (.iface t v) hp n []
    | .fn (.func f) a b => κ (.fn (.func f) a b) hp n []
    | _ => none
  | .binOp op t x y _ => binO P op t (ρ x) (ρ y) ((isConst x).or (isConst y)) fun v => κ v hp n []
  | .unOp op _ x => unO op (ρ x) fun v => κ v hp n []
  | .convert s d x => convO P s d (ρ x) hp fun v => κ v hp n []
  | .makeInterface t x => match P.underlying t with
    | some (.interface _) => none
    | some _ => κ (.iface t (ρ x)) hp n []
    | none => none
  | .makeFunc f first caps => κ (.fn f (first.toList.map ρ) (caps.toList.map ρ)) hp n []
  | .makeSlice t l c => makeSliceO P t (ρ l) (ρ c) hp nb n κ
  | .slice t x lo hi mx => sliceO P t (ρ x) (lo.map ρ) (hi.map ρ) (mx.map ρ) hp n κ
  | .fieldAddr t x f => match fieldO P t (ρ x) f with
    | some off => match ρ x with
      | .ptr b i o g => κ (.ptr b i (o + off) g) hp n []
      | .cptr cs => κ (.cptr (cs.drop off)) hp n []
      | _ => none
    | none => none
  | .field t x f => match P.underlying t with
    | some (.struct fs) => match fs[f]? with
      | some fd => match ρ x with
        | .agg cs => match partV P fd.type cs fd.offset with
          | some v => κ v hp n []
          | none => none
        | _ => none
      | none => none
    | _ => none
  | .indexAddr t x ix => indexAddrO P t (ρ x) (ρ ix) hp n κ
  | .index t x ix => match P.underlying t, ρ x, ρ ix with
    | some .string, .str s, .int _ i => br (decide (0 ≤ i)) ((s.data.toList[i.toNat]?).bind fun b => κ (.int .u8 (b.toNat : Int)) hp n []) none
    | some (.array len e), .agg cs, .int _ i => br (inRange i len) (match P.info? e with
      | some ie => match partV P e cs (i.toNat * ie.size) with
        | some v => κ v hp n []
        | none => none
      | none => none) none
    | _, _, _ => none
  | .range t x => rangeO P t (ρ x) hp nb n κ
  | .makeMap t res => makeMapO P t (res.map ρ) hp nb n κ
  | .lookup t x ix ok => lookupO P t (ρ x) (ρ ix) ok hp n κ
  | .mapUpdate t m k v => mapUpdateO P t (ρ m) (ρ k) (ρ v) hp n κ
  | .next x s => br s (nextO (ρ x) hp n κ) none
  | .extract t i => match ρ t with
    | .tup vs => match vs[i]? with
      | some v => κ v hp n []
      | none => none
    | _ => none
  | .typeAssert x _ t ok => match P.underlying t, ρ x with
    | some (.interface _), _ => none
    | some _, .iface t' v => br (Nat.beq t' t) (κ (br ok (.tup [v, .bool true]) v) hp n [])
        (br ok (match zeroT P t with
          | some z => κ (.tup [z, .bool false]) hp n []
          | none => none) none)
    | _, _ => none
  | .call c => match c.callee with
    | .builtin b => builtinO P b c.argTypes (c.args.toList.map ρ) hp nb n κ
    | .value f => match ρ f with
      | .fn (.func f) first caps => callO P E inl f ((first ++ c.args.toList.map ρ) ++ caps) hp n κ
      | _ => none
    | _ => none
  | _ => none

/-- A nil slice among a box's cells. -/
def nilCell (P : Program) (cs : List AV) : List Field → Option (Nat × TypeId)
  | [] => none
  | fd :: fs => match P.underlying fd.type, cs[fd.offset]? with
    | some (.slice e), some .nils => some (fd.offset, e)
    | _, _ => nilCell P cs fs
def nilIn (P : Program) (t : TypeId) (cs : List AV) : Option (Nat × Ty) :=
  match P.underlying t with
  | some (.pointer e) => match P.underlying e with
    | some (.struct fs) => match nilCell P cs fs.toList with
      | some (c, e) => match tyOf P 8 e with
        | some ty => some (c, ty)
        | none => none
      | none => none
    | _ => none
  | _ => none
def thawB (b c nb : Nat) (ty : Ty) (v : AV) (cs : List AV) (hp : Hp) (n : Nat) (κ : KO R) : Option R :=
  match cs[c]? with
  | some .nils => κ v (upd (upd hp nb (.arr ty [] 0)) b (.box (cs.set c (.own nb 0)))) n [b]
  | _ => κ v hp n []
/-- A nil slice that begins a block. -/
def thawO (t : TypeId) (v : AV) (hp : Hp) (nb n : Nat) (κ : KO R) : Option R :=
  match v with
  | .nils => match tyOf P 8 (elemT P t) with
    | some ty => κ (.own nb 0) (upd hp nb (.arr ty [] 0)) n []
    | none => none
  | .ptr b i o g => match hp b with
    | .box cs => match nilIn P t cs with
      | some (c, ty) => thawB b c nb ty (.ptr b i o g) cs hp n κ
      | none => κ (.ptr b i o g) hp n []
    | _ => κ (.ptr b i o g) hp n []
  | v => κ v hp n []
/-- An operation, with the hint that its nil slice begins a block. -/
def aopT (thaw : Bool) (o : Oper) (ρ : Operand → AV) (hp : Hp) (nb n : Nat) (κ : KO R) : Option R :=
  br thaw (match o.op with
    | .assign x => thawO P o.type (ρ x) hp nb n κ
    | .move x => thawO P o.type (ρ x) hp nb n κ
    | _ => none)
  (aop P E inl o ρ hp nb n κ)

/-- Is what is to be given up there? -/
def there1 (hp : Hp) : AV → Bool
  | .own b g => match hp b with
    | .arr _ _ g' => Nat.beq g g'
    | _ => false
  | .sref b _ _ g _ => match hp b with
    | .arr _ _ g' => Nat.beq g g'
    | _ => false
  | _ => true
def there (hp : Hp) : AV → Bool
  | .agg cs => cs.all (there1 hp)
  | .tup vs => vs.all fun
    | .agg cs => cs.all (there1 hp)
    | v => there1 hp v
  | v => there1 hp v
/-- Behind an operation: a slice that is done with. -/
def post (freeze : Bool) (κ : KO R) : KO R := fun v hp n d =>
  br freeze (match v with
    | .ptr b i o g => match hp b with
      | .box cs => br ((Nat.beq i 0).and (Nat.beq o 0)) (κ (.cptr cs) (dropB hp [b]) n ([b] ++ d)) (κ (.ptr b i o g) hp n d)
      | _ => κ (.ptr b i o g) hp n d
    | v => br (there hp v) (κ (freezeV hp v) (dropB hp (frees v)) n (frees v ++ d)) none) (κ v hp n d)

def setDst (dst : Option Tmp) (tm : Nat → AV) (v : AV) : Nat → AV :=
  match dst with
  | some d => upd tm d v
  | none => tm

/-- Ancestors of each operation, as bits. -/
def ancs : List Oper → List Nat → List Nat
  | [], acc => acc
  | o :: os, acc => ancs os (acc ++ [o.after.toList.foldl (fun s e => br ((Region.binds .any e).and (Nat.blt e.on acc.length)) (s ||| (2 ^ e.on ||| (acc[e.on]?).getD 0)) s) 0])

/-- Does an operation leave the heap out of account? -/
def heapless (o : Oper) : Bool :=
  match o.op with
  | .move _ => true
  | .assign _ => true
  | .pick _ _ _ => true
  | .build _ _ => true
  | .nilCheck _ => true
  | .binOp _ _ _ _ _ => true
  | .unOp _ _ _ => true
  | .makeInterface _ _ => true
  | .makeFunc _ _ _ => true
  | .fieldAddr _ _ _ => true
  | .field _ _ _ => true
  | .index _ _ _ => true
  | .extract _ _ => true
  | _ => false

def tmpsOf (os : Array Operand) : List Nat := os.toList.filterMap fun
  | .tmp t => some t
  | _ => none
/-- The slots that an operation names. -/
def namesOf (ops : List Oper) (o : Oper) : List Nat :=
  o.dst.toList ++ (tmpsOf o.op.operands ++ (match o.guard with
    | some (g, _) => ((ops[g]?).bind (·.dst)).toList
    | none => []))
/-- Is i an ancestor of j, or j of i? -/
def ordered (an : List Nat) (i j : Nat) : Bool := br (Nat.blt i j) (((an[j]?).getD 0).testBit i) (((an[i]?).getD 0).testBit j)
/-- Whoever names a slot is ordered with all that write it. -/
def tmpsOk (ops : List Oper) (an : List Nat) : Bool :=
  (List.range ops.length).all fun j => match ops[j]? with
    | some o => (namesOf ops o).all fun t => (List.range ops.length).all fun i => (Nat.beq i j).or (match ops[i]? with
      | some p => match p.dst with
        | some d => (!Nat.beq d t).or (ordered an i j)
        | none => true
      | none => true)
    | none => true

def memN (l : List Nat) (j : Nat) : Bool := l.any (Nat.beq j)

/-- Does an operation leave the heap out of account, by itself or by a hint? -/
def blind (bd : List Nat) (o : Oper) (j : Nat) : Bool := (heapless o).or (memN bd j)
/-- Operation j is ordered with all that look at the heap. -/
def barrier (wr bd : List Nat) (ops : List Oper) (an : List Nat) (j : Nat) : Bool :=
  (List.range ops.length).all fun i => (Nat.beq i j).or (((match ops[i]? with
    | some o => blind bd o i
    | none => true).and (memN wr i).not).or (ordered an i j))

/-- Operation j is ordered with all that may look at the block that operation i made. -/
def barrierAt (bd : List Nat) (ops : List Oper) (an : List Nat) (j i : Nat) : Bool :=
  (List.range ops.length).all fun k => (Nat.beq k j).or ((match ops[k]? with
    | some o => blind bd o k
    | none => true).or (((((an[k]?).getD 0).testBit i).not).or (ordered an k j)))
/-- May operation j write block b, that the region made? -/
def lwOk (bd : List Nat) (ops : List Oper) (an : List Nat) (base j b : Nat) : Bool :=
  (Nat.ble base b).and ((((an[j]?).getD 0).testBit (b - base)).and (barrierAt bd ops an j (b - base)))

/-- Whoever must come up ahead stands ahead in the text. -/
def edgesOk (ops : List Oper) : Bool :=
  (List.range ops.length).all fun j => match ops[j]? with
    | some o => o.after.toList.all fun e => (Region.binds .any e).not.or (Nat.blt e.on j)
    | none => true

/-- The heap as operation j may see it: what operations that need not be ahead of it made is hidden. -/
def hideFor (hp : Hp) (base : Nat) (anj : Nat) : Nat → Hp
  | 0 => hp
  | i + 1 => br (anj.testBit i) (hideFor hp base anj i) (upd (hideFor hp base anj i) (base + i) .gone)
def dstOk (nt : Nat) : Option Tmp → Bool
  | some d => Nat.blt d nt
  | none => true

/-- A row that a call made, as the operation's own block. -/
def joinOwn (nb n : Nat) (v : AV) (hp : Hp) (d : List Nat) (κ : Blk → Option R) : Option R :=
  match v with
  | .own b k => match hp b with
    | .arr t l k' => br ((Nat.beq k k').and ((Nat.ble n b).and (d.all fun x => (Nat.beq x nb).or (Nat.ble n x)))) (κ (.arr t l 0)) none
    | _ => none
  | _ => none
/-- A load of what is read for good. -/
def loadC (o : Oper) (ρ : Operand → AV) (κ : AV → Option R) : Option R :=
  match o.op with
  | .load t a => match ρ a with
    | .cptr cs => match partV P t cs 0 with
      | some v => κ v
      | none => none
    | _ => none
  | _ => none
def stepOp (H : Hints) (id : Nat) (ops : List Oper) (an : List Nat) (draw : Bool) (base j : Nat) (o : Oper) (st : St) (κ : St → Option R) : Option R :=
  br (dstOk st.nt o.dst) (br draw
    (br (memN (H.bd id) j)
      (loadC P o (evalO st.tm) fun v => κ { st with tm := setDst o.dst st.tm v, hp := upd st.hp (base + j) .gone })
    (br (memN (H.jo id) j)
      (br (heapless o) none (aopT P E inl (memN (H.thaw id) j) o (evalO st.tm) (hideFor st.hp base ((an[j]?).getD 0) ops.length) (base + j) (st.n + j * 4096) (post false fun v hp' n' d =>
        joinOwn (base + j) (st.n + j * 4096) v hp' d fun blk => κ { st with tm := setDst o.dst st.tm (.own (base + j) 0), hp := upd st.hp (base + j) blk })))
    (br (memN (H.lw id) j)
      (br (heapless o) none (aopT P E inl (memN (H.thaw id) j) o (evalO st.tm) (hideFor st.hp base ((an[j]?).getD 0) ops.length) (base + j) (st.n + j * 4096) (post (memN (H.freeze id) j) fun v hp' n' d =>
        match d with
        | [b] => br ((Nat.beq n' (st.n + j * 4096)).and (lwOk (H.bd id) ops an base j b)) (κ { st with tm := setDst o.dst st.tm v, hp := upd st.hp b (hp' b), dirty := [b] ++ st.dirty }) none
        | _ => none)))
    (br (memN (H.wr id) j)
      (br (barrier (H.wr id) (H.bd id) ops an j)
        (aopT P E inl (memN (H.thaw id) j) o (evalO st.tm) (hideFor st.hp base (2 ^ j - 1) ops.length) (base + j) (st.n + j * 4096) (post (memN (H.freeze id) j) fun v hp' n' d =>
          br (Nat.ble n' (st.n + (j + 1) * 4096)) (κ { st with tm := setDst o.dst st.tm v, hp := hp', dirty := d ++ st.dirty }) none)) none)
      (br ((heapless o).and ((memN (H.thaw id) j).or (memN (H.freeze id) j))) none
      (aopT P E inl (memN (H.thaw id) j) o (evalO st.tm) (hideFor st.hp base ((an[j]?).getD 0) ops.length) (base + j) (st.n + j * 4096) (post (memN (H.freeze id) j) fun v hp' n' d =>
        br (d.all (Nat.beq (base + j))) (br (Nat.beq n' (st.n + j * 4096)) (κ { st with tm := setDst o.dst st.tm v, hp := upd st.hp (base + j) (hp' (base + j)) }) none) none)))))))
    (aopT P E inl (memN (H.thaw id) j) o (evalO st.tm) st.hp (base + j) st.n (post (memN (H.freeze id) j) fun v hp' n' d =>
      κ { st with tm := setDst o.dst st.tm v, hp := hp', n := n', dirty := d ++ st.dirty }))) none

def runOps (H : Hints) (id : Nat) (ops : List Oper) (an : List Nat) (draw : Bool) (base : Nat) : List Oper → Nat → St → (St → Option R) → Option R
  | [], _, st, κ => κ st
  | o :: os, j, st, κ => br (dstOk st.nt o.dst) (match o.guard with
    | none => stepOp P E inl H id ops an draw base j o st fun st' => runOps H id ops an draw base os (j + 1) st' κ
    | some (g, want) => match (ops[g]?).bind (·.dst) with
      | some t => match st.tm t with
        | .bool b => br b
          (br want (stepOp P E inl H id ops an draw base j o { st with tm := upd st.tm t (.bool true) } fun st' => runOps H id ops an draw base os (j + 1) st' κ)
            (runOps H id ops an draw base os (j + 1) { st with tm := setDst o.dst (upd st.tm t (.bool true)) (.tup []) } κ))
          (br want (runOps H id ops an draw base os (j + 1) { st with tm := setDst o.dst (upd st.tm t (.bool false)) (.tup []) } κ)
            (stepOp P E inl H id ops an draw base j o { st with tm := upd st.tm t (.bool false) } fun st' => runOps H id ops an draw base os (j + 1) st' κ))
        | .tup [] => runOps H id ops an draw base os (j + 1) { st with tm := setDst o.dst st.tm (.tup []) } κ
        | _ => none
      | none => none) none

def regionO (H : Hints) (id : Nat) (ops : List Oper) (draw : Bool) (st : St) (κ : KC R) : Option R :=
  br draw
    (br ((edgesOk ops).and (tmpsOk ops (ancs ops []))) (runOps P E inl H id ops (ancs ops []) true st.n ops 0 { st with n := st.n + ops.length } fun st' => κ .normal { st' with n := st'.n + ops.length * 4096 }) none)
    (runOps P E inl H id ops [] false st.n ops 0 { st with n := st.n + ops.length } fun st' => κ .normal st')

/-- Slots whose row is read for good from here on. -/
def fzO (l : List Nat) (st : St) (κ : St → Option R) : Option R :=
  match l with
  | [] => κ st
  | s :: l => br (there st.hp (st.tm s)) (fzO l { st with tm := upd st.tm s (freezeV st.hp (st.tm s)), hp := dropB st.hp (frees (st.tm s)), dirty := frees (st.tm s) ++ st.dirty } κ) none

def iterU (body : St → KC R → Option R) : Nat → St → KC R → Option R
  | 0, _, _ => none
  | n + 1, st, κ => body st fun e st' => match e with
    | .normal => iterU body n st' κ
    | e => κ e st'

def firstR : Code → Nat
  | .region id _ _ => id
  | .seq a _ => firstR a
  | .block _ c => firstR c
  | .loop c => firstR c
  | .scope c => firstR c
  | _ => 0

/-- The code. -/
noncomputable def code (H : Hints) (LH : Nat → Option (LoopEntry R)) (c : Code) : St → KC R → Option R :=
  Code.rec (motive := fun _ => St → KC R → Option R)
    (fun st κ => κ .normal st)
    (fun id ops draw st κ => fzO (H.fz id) st fun st1 => regionO P E inl H id ops.toList draw st1 κ)
    (fun _ _ iha ihb st κ => iha st fun e st' => match e with
      | .normal => ihb st' κ
      | e => κ e st')
    (fun c _ _ iha ihb st κ => match c with
      | .tmp t => match st.tm t with
        | .bool b => br b (iha { st with tm := upd st.tm t (.bool true) } κ) (ihb { st with tm := upd st.tm t (.bool false) } κ)
        | _ => none
      | .const (.bool b) => br b (iha st κ) (ihb st κ)
      | _ => none)
    (fun id _ ih st κ => ih st fun e st' => match e with
      | .exit i => br (Nat.beq i id) (κ .normal st') (κ (.exit i) st')
      | e => κ e st')
    (fun body ih st κ => match LH (firstR body) with
      | some (.unroll n) => iterU ih n st κ
      | some (.run f) => f st κ
      | none => none)
    (fun _ _ _ _ _ _ _ _ => none)
    (fun id st κ => κ (.exit id) st)
    (fun _ _ _ _ => none)
    (fun _ st κ => κ .normal st)
    (fun _ _ _ => none)
    (fun st κ => κ .ret st)
    (fun _ _ _ => none)
    c

def resTmps : List ResultVar → Option (List Nat)
  | [] => some []
  | .tmp t :: r => match resTmps r with
    | some l => some (t :: l)
    | none => none
  | _ => none
def resCells (P : Program) (tm : Nat → AV) (hp : Hp) : List ResultVar → Option (List AV)
  | [] => some []
  | .tmp t :: r => match resCells P tm hp r with
    | some l => some (tm t :: l)
    | none => none
  | .cell a t :: r => match tm a with
    | .ptr b 0 o 0 => match hp b with
      | .box cs => match partV P t cs o with
        | some v => match resCells P tm hp r with
          | some l => some (v :: l)
          | none => none
        | none => none
      | _ => none
    | _ => none

/-- A function's body, from its arguments to what it hands back. -/
noncomputable def funO (H : Hints) (LH : Nat → Option (LoopEntry R)) (fn : Func) (args : List AV) (hp : Hp) (n : Nat) (κ : AV → Hp → Nat → List Nat → Option R) : Option R :=
  match fn.body with
  | some c => code P E inl H LH c { nt := max args.length fn.ntmps, tm := fun i => (args[i]?).getD .undef, hp := hp, n := n, dirty := [] } fun e st' =>
    match e with
    | .exit _ => none
    | _ => match resCells P st'.tm st'.hp fn.results.toList with
      | some vs => br H.keep (κ (resVal vs) st'.hp st'.n st'.dirty) (br (there st'.hp (resVal vs))
        (κ (freezeV st'.hp (resVal vs)) (dropB st'.hp (frees (resVal vs))) st'.n (frees (resVal vs) ++ st'.dirty)) none)
      | none => none
  | none => none

end interp

/-- Calls that are walked into, d deep. -/
noncomputable def inlD {R : Type} (P : Program) (E : FuncId → Option Entry) (HN : FuncId → Hints) (LH : FuncId → Nat → Option (LoopEntry R)) : Nat → Inl R
  | 0 => fun _ _ _ _ _ => none
  | d + 1 => fun f args hp n κ => match P.funcs[f]? with
    | some fn => funO P E (inlD P E HN LH d) (HN f) (LH f) fn args hp n κ
    | none => none
end Go.VI
