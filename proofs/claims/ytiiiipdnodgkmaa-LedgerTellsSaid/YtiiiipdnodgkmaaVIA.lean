/- An interpreter of the model's code on abstract values, proved right: part VIA. -/
import Derived.Orders
import Derived.KernelRfl
import Derived.WalkKit
import Derived.Laws.MakeOwn
import Derived.Laws.BytesString
import Derived.Great.BuildSlice
section
/- The abstract interpreter: typed values, a small local heap, and the model's Code run on them, in continuation style. -/
namespace Go.VI

/-- Codes of types. -/
inductive Ty where
  | int (k : IntKind) | bool | str | f64
  | slice (t : Ty)
  | pair (a b : Ty)
  | agg (t : Ty)
  | nil

@[reducible] def Ty.den : Ty → Type
  | .int _ => Int
  | .bool => Bool
  | .str => ByteArray
  | .f64 => Nat
  | .slice t => List t.den
  | .pair a b => a.den × b.den
  | .agg t => t.den
  | .nil => Unit

def Ty.size : Ty → Nat
  | .int _ => 1
  | .bool => 1
  | .str => 1
  | .f64 => 1
  | .slice _ => 1
  | .pair a b => a.size + b.size
  | .agg t => t.size
  | .nil => 0

set_option linter.unusedVariables false
/-- Two ways. -/
def br {α : Sort _} (b : Bool) (x y : α) : α :=
  match b with
  | true => x
  | false => y
def bEq (a b : Bool) : Bool := br a b (!b)
def kTag : IntKind → Nat
  | .i8 => 0 | .i16 => 1 | .i32 => 2 | .i64 => 3 | .u8 => 4 | .u16 => 5 | .u32 => 6 | .u64 => 7
def kEq (a b : IntKind) : Bool := Nat.beq (kTag a) (kTag b)
theorem kEq_eq {a b : IntKind} (h : kEq a b = true) : a = b := by cases a <;> cases b <;> first | rfl | (revert h; decide)

def Ty.beq : Ty → Ty → Bool
  | .int a, .int b => kEq a b
  | .bool, .bool => true
  | .str, .str => true
  | .f64, .f64 => true
  | .slice a, .slice b => a.beq b
  | .pair a b, .pair c d => (a.beq c).and (b.beq d)
  | .agg a, .agg b => a.beq b
  | .nil, .nil => true
  | _, _ => false
theorem Ty.eq_of_beq : ∀ {a b : Ty}, a.beq b = true → a = b
  | .int a, .int b, h => by rw [kEq_eq (a := a) (b := b) h]
  | .bool, .bool, _ => rfl
  | .str, .str, _ => rfl
  | .f64, .f64, _ => rfl
  | .slice a, .slice b, h => by rw [Ty.eq_of_beq (a := a) (b := b) h]
  | .pair a b, .pair c d, h => by
    have h : ((a.beq c) && (b.beq d)) = true := h
    rw [Bool.and_eq_true] at h
    rw [Ty.eq_of_beq h.1, Ty.eq_of_beq h.2]
  | .agg a, .agg b, h => by rw [Ty.eq_of_beq (a := a) (b := b) h]
  | .nil, .nil, _ => rfl
  | .int _, .bool, h | .int _, .str, h | .int _, .f64, h | .int _, .slice _, h | .int _, .pair _ _, h | .int _, .agg _, h | .int _, .nil, h => nomatch h
  | .bool, .int _, h | .bool, .str, h | .bool, .f64, h | .bool, .slice _, h | .bool, .pair _ _, h | .bool, .agg _, h | .bool, .nil, h => nomatch h
  | .str, .int _, h | .str, .bool, h | .str, .f64, h | .str, .slice _, h | .str, .pair _ _, h | .str, .agg _, h | .str, .nil, h => nomatch h
  | .f64, .int _, h | .f64, .bool, h | .f64, .str, h | .f64, .slice _, h | .f64, .pair _ _, h | .f64, .agg _, h | .f64, .nil, h => nomatch h
  | .slice _, .int _, h | .slice _, .bool, h | .slice _, .str, h | .slice _, .f64, h | .slice _, .pair _ _, h | .slice _, .agg _, h | .slice _, .nil, h => nomatch h
  | .pair _ _, .int _, h | .pair _ _, .bool, h | .pair _ _, .str, h | .pair _ _, .f64, h | .pair _ _, .slice _, h | .pair _ _, .agg _, h | .pair _ _, .nil, h => nomatch h
  | .agg _, .int _, h | .agg _, .bool, h | .agg _, .str, h | .agg _, .f64, h | .agg _, .slice _, h | .agg _, .pair _ _, h | .agg _, .nil, h => nomatch h
  | .nil, .int _, h | .nil, .bool, h | .nil, .str, h | .nil, .f64, h | .nil, .slice _, h | .nil, .pair _ _, h | .nil, .agg _, h => nomatch h

/-- No slice inside. -/
def Ty.flat : Ty → Bool
  | .slice _ => false
  | .pair a b => a.flat.and b.flat
  | .agg t => t.flat
  | _ => true

def Ty.zero : (t : Ty) → t.den
  | .int _ => (0 : Int)
  | .bool => false
  | .str => ByteArray.empty
  | .f64 => (0 : Nat)
  | .slice _ => []
  | .pair a b => (a.zero, b.zero)
  | .agg t => t.zero
  | .nil => ()

/-- Are two keys the same? -/
def Ty.keq : (t : Ty) → t.den → t.den → Bool
  | .int _, a, b => decide ((a : Int) = b)
  | .bool, a, b => bEq a b
  | .str, a, b => decide ((a : ByteArray) = b)
  | .f64, _, _ => false
  | .slice _, _, _ => false
  | .pair s t, a, b => (s.keq a.1 b.1).and (t.keq a.2 b.2)
  | .agg t, a, b => t.keq a b
  | .nil, _, _ => true

/-- Abstract values. -/
inductive AV where
  | undef
  | int (k : IntKind) (n : Int)
  | bool (b : Bool)
  | str (s : ByteArray)
  | flt (b : Nat)
  | vals (t : Ty) (l : List t.den)
  | nils
  | lits (n esz : Nat) (cs : List AV)
  | own (b g : Nat)
  | sref (b off len g : Nat) (lim : Bool)
  | ptr (b i o g : Nat)
  | cptr (cs : List AV)
  | nilp
  | map (b : Nat)
  | nilmap
  | stamp (b i g : Nat)
  | fn (f : Fn) (first caps : List AV)
  | nilfn
  | iface (t : TypeId) (v : AV)
  | nili
  | agg (cs : List AV)
  | tup (vs : List AV)
instance : Inhabited AV := ⟨.undef⟩

/-- What lies in a block. -/
inductive Blk where
  | gone
  | box (cs : List AV)
  | arr (t : Ty) (l : List t.den) (g : Nat)
  | map (kt vt : Ty) (es : List (kt.den × vt.den)) (g : Nat)
  | siter (s : ByteArray) (pos : Nat)

abbrev Hp := Nat → Blk
def upd {α : Type} (f : Nat → α) (i : Nat) (v : α) : Nat → α := fun j => br (Nat.beq j i) v (f j)

/-- A value's cells, and the value. -/
def Ty.enc : (t : Ty) → t.den → List AV
  | .int k, n => [.int k n]
  | .bool, b => [.bool b]
  | .str, s => [.str s]
  | .f64, b => [.flt b]
  | .slice t, l => [.vals t l]
  | .pair a b, x => a.enc x.1 ++ b.enc x.2
  | .agg t, x => t.enc x
  | .nil, _ => []
def Ty.val : (t : Ty) → t.den → AV
  | .agg t, x => .agg (t.enc x)
  | .int k, n => .int k n
  | .bool, b => .bool b
  | .str, s => .str s
  | .f64, b => .flt b
  | .slice t, l => .vals t l
  | .pair a b, x => .agg ((Ty.pair a b).enc x)
  | .nil, _ => .agg []

def castL (a b : Ty) (l : List a.den) : Option (List b.den) :=
  match h : a.beq b with
  | true => some (Ty.eq_of_beq h ▸ l)
  | false => none

def Ty.dec : (t : Ty) → List AV → Option (t.den × List AV)
  | .int k, c :: r => match c with
    | .int k' n => br (kEq k k') (some (n, r)) none
    | _ => none
  | .bool, c :: r => match c with
    | .bool b => some (b, r)
    | _ => none
  | .str, c :: r => match c with
    | .str s => some (s, r)
    | _ => none
  | .f64, c :: r => match c with
    | .flt b => some (b, r)
    | _ => none
  | .slice t, c :: r => match c with
    | .vals t' l => match castL t' t l with
      | some l => some (l, r)
      | none => none
    | .nils => some ([], r)
    | _ => none
  | .pair a b, cs => match a.dec cs with
    | some (x, r) => match b.dec r with
      | some (y, r) => some ((x, y), r)
      | none => none
    | none => none
  | .agg t, cs => t.dec cs
  | .nil, cs => some ((), cs)
  | .int _, [] => none
  | .bool, [] => none
  | .str, [] => none
  | .f64, [] => none
  | .slice _, [] => none

def cellsOf : AV → List AV
  | .agg cs => cs
  | v => [v]

def isAggV : AV → Bool
  | .agg _ => true
  | _ => false
def Ty.isAgg : Ty → Bool
  | .agg _ => true
  | .pair _ _ => true
  | .nil => true
  | _ => false

/-- A whole value of a type. -/
def Ty.decV (t : Ty) (v : AV) : Option t.den :=
  br (bEq t.isAgg (isAggV v)) (match t.dec (cellsOf v) with
    | some (x, []) => some x
    | _ => none) none

def decs (t : Ty) : Nat → List AV → Option (List t.den)
  | 0, [] => some []
  | 0, _ => none
  | n + 1, cs => match t.dec cs with
    | some (x, r) => match decs t n r with
      | some l => some (x :: l)
      | none => none
    | none => none

/-- Several values: arguments, results. -/
@[reducible] def Tup : List Ty → Type
  | [] => Unit
  | t :: ts => t.den × Tup ts
def decArgs : (ts : List Ty) → List AV → Option (Tup ts)
  | [], [] => some ()
  | t :: ts, v :: vs => match t.decV v with
    | some x => match decArgs ts vs with
      | some y => some (x, y)
      | none => none
    | none => none
  | _, _ => none
def encVals : (ts : List Ty) → Tup ts → List AV
  | [], _ => []
  | t :: ts, x => t.val x.1 :: encVals ts x.2
/-- What a call hands back. -/
def resVal : List AV → AV
  | [v] => v
  | vs => .tup vs

/-- A function's contract: values in, values out. -/
structure Entry where
  ts : List Ty
  rs : List Ty
  f : Tup ts → Option (Tup rs)

/-- Constants. -/
def const1 : Value → AV
  | .int k n => .int k n
  | .bool b => .bool b
  | .string s => .str s
  | .float .f64 b => .flt b
  | .pointer none => .nilp
  | .slice none 0 0 => .nils
  | .map none => .nilmap
  | .nilFunc => .nilfn
  | .nilIface => .nili
  | _ => .undef
def ofConst : Value → AV
  | .agg cs => .agg (cs.toList.map const1)
  | v => const1 v

def tyOf (P : Program) : Nat → TypeId → Option Ty
  | 0, _ => none
  | d + 1, t => match P.underlying t with
    | some .bool => some .bool
    | some (.int k) => some (.int k)
    | some .string => some .str
    | some (.float .f64) => some .f64
    | some (.slice e) => match tyOf P d e with
      | some t => some (.slice t)
      | none => none
    | some (.struct fs) =>
      match (fs.toList.map fun f => tyOf P d f.type).foldr (fun x acc => match x, acc with
        | some t, some (some u) => some (some (Ty.pair t u))
        | some t, some none => some (some t)
        | _, _ => none) (some none) with
      | some (some t) => some (.agg t)
      | some none => some (.agg .nil)
      | none => none
    | some (.array n e) => match tyOf P d e with
      | some t => match (List.replicate n t).foldr (fun t acc => match acc with
          | some u => some (Ty.pair t u)
          | none => some t) none with
        | some t => some (.agg t)
        | none => some (.agg .nil)
      | none => none
    | _ => none

def sizeT (P : Program) (t : TypeId) : Nat :=
  match P.info? t with
  | some i => i.size
  | none => 0
def sizeIs (P : Program) (t : TypeId) (n : Nat) : Bool :=
  match P.info? t with
  | some i => Nat.beq n i.size
  | none => false
def bytesT (P : Program) (t : TypeId) : Nat :=
  match P.info? t with
  | some i => i.bytes
  | none => 0
def zeroT (P : Program) (t : TypeId) : Option AV :=
  match P.info? t with
  | some i => match i.zero with
    | some v => some (ofConst v)
    | none => none
  | none => none

/-- Is it a struct or an array? -/
def kindT (P : Program) (t : TypeId) : Option Bool :=
  match P.underlying t with
  | some (.struct _) => some true
  | some (.array _ _) => some true
  | some _ => some false
  | none => none
/-- Part of a row of cells, as a value of type t. -/
def partV (P : Program) (t : TypeId) (cs : List AV) (o : Nat) : Option AV :=
  match kindT P t with
  | some true => match P.info? t with
    | some i => br (Nat.ble (o + i.size) cs.length) (some (.agg ((cs.drop o).take i.size))) none
    | none => none
  | some false => cs[o]?
  | none => none
def splice (cs : List AV) (o : Nat) (new : List AV) : List AV := cs.take o ++ (new ++ cs.drop (o + new.length))
/-- Its cells are known. -/
def good : AV → Bool
  | .undef => false
  | .tup _ => false
  | _ => true
def fillV (place : Nat → Option (Nat × Nat)) (cells : List AV) : List (Nat × AV) → Option (List AV)
  | [] => some cells
  | (i, v) :: rest => match place i with
    | none => none
    | some (off, size) => br ((good v).and ((Nat.beq (cellsOf v).length size).and (Nat.ble (off + (cellsOf v).length) cells.length)))
      (fillV place (splice cells off (cellsOf v)) rest) none

/-- No row of cells hides in it. -/
def oneCell : AV → Bool
  | .undef => false
  | .agg _ => false
  | .tup _ => false
  | _ => true

/-- Slices that are read as they are now. -/
def borrow1 (hp : Hp) : AV → AV
  | .own b g => match hp b with
    | .arr t l g' => br (Nat.beq g g') (.vals t l) .undef
    | _ => .undef
  | .sref b off len g _ => match hp b with
    | .arr t l g' => br (Nat.beq g g') (.vals t ((l.drop off).take len)) .undef
    | _ => .undef
  | v => v
def borrow (hp : Hp) : AV → AV
  | .agg cs => .agg (cs.map (borrow1 hp))
  | v => borrow1 hp v
def borrowed1 : AV → Bool
  | .own _ _ => true
  | .sref _ _ _ _ _ => true
  | _ => false
def borrowed : AV → Bool
  | .agg cs => cs.any borrowed1
  | v => borrowed1 v

/-- Slices that are done with: what fills a block is read for good, and the block is given up. -/
def frees1 : AV → List Nat
  | .own b _ => [b]
  | .sref b _ _ _ _ => [b]
  | _ => []
def frees : AV → List Nat
  | .agg cs => cs.flatMap frees1
  | .tup vs => vs.flatMap fun
    | .agg cs => cs.flatMap frees1
    | v => frees1 v
  | v => frees1 v
def freezeV (hp : Hp) : AV → AV
  | .tup vs => .tup (vs.map (borrow hp))
  | v => borrow hp v
def dropB (hp : Hp) : List Nat → Hp
  | [] => hp
  | b :: bs => upd (dropB hp bs) b .gone

abbrev KO (R : Type) := AV → Hp → Nat → List Nat → Option R

section ops
variable {R : Type} (P : Program)

def maxElems : Nat := 4294967296

def newBlk (e : TypeId) (cs : List AV) (hp : Hp) (nb n : Nat) (κ : KO R) : Option R :=
  match P.underlying e with
  | some (.array len e') => br (Nat.ble len 8) (κ (.ptr nb 0 0 0) (upd hp nb (.box cs)) n []) (match tyOf P 8 e' with
    | some t => match decs t len cs with
      | some l => κ (.ptr nb 0 0 0) (upd hp nb (.arr t l 0)) n []
      | none => κ (.ptr nb 0 0 0) (upd hp nb (.box cs)) n []
    | none => κ (.ptr nb 0 0 0) (upd hp nb (.box cs)) n [])
  | _ => κ (.ptr nb 0 0 0) (upd hp nb (.box cs)) n []

def loadO (t : TypeId) (a : AV) (hp : Hp) (n : Nat) (κ : KO R) : Option R :=
  match a with
  | .cptr cs => match partV P t cs 0 with
    | some v => κ v hp n []
    | none => none
  | .ptr b i o g => match hp b with
    | .box cs => br (Nat.beq i 0) (match partV P t cs o with
      | some v => κ v hp n []
      | none => none) none
    | .arr ty l g' => br (Nat.beq g g') (l[i]?.bind fun x => match partV P t (ty.enc x) o with
      | some v => κ v hp n []
      | none => none) none
    | _ => none
  | _ => none

def storeO (t : TypeId) (a v : AV) (hp : Hp) (n : Nat) (κ : KO R) : Option R :=
  br (sizeIs P t (cellsOf v).length) (match a with
  | .ptr b i o g => match hp b with
    | .box cs => br ((Nat.beq i 0).and ((Nat.ble (o + (cellsOf v).length) cs.length).and ((cellsOf v).all oneCell)))
      (κ .undef (upd hp b (.box (splice cs o (cellsOf v)))) n [b]) none
    | .arr ty l g' => br (Nat.beq g g') (l[i]?.bind fun x => br ((good v).and (Nat.ble (o + (cellsOf v).length) ty.size))
        (match ty.dec (splice (ty.enc x) o (cellsOf v)) with
        | some (y, []) => κ .undef (upd hp b (.arr ty (l.set i y) g')) n [b]
        | _ => none) none) none
    | _ => none
  | _ => none) none

def fieldO (t : TypeId) (x : AV) (f : Nat) : Option Nat :=
  match P.underlying t with
  | some (.struct fs) => match fs[f]? with
    | some fd => br (Nat.beq (sizeT P fd.type) 0) none (some fd.offset)
    | none => none
  | _ => none
def fieldType (t : TypeId) (f : Nat) : TypeId :=
  match P.underlying t with
  | some (.struct fs) => match fs[f]? with
    | some fd => fd.type
    | none => 0
  | _ => 0

def inRange (i : Int) (n : Nat) : Bool := (decide (0 ≤ i)).and (decide (i < (n : Int)))

/-- By cases, from j on, k of them. -/
def ways (f : Nat → Option R) (i : Int) : Nat → Nat → Option R
  | _, 0 => none
  | j, k + 1 => br (decide (i = (j : Int))) (f j) (ways f i (j + 1) k)

def indexAddrO (t : TypeId) (x ix : AV) (hp : Hp) (n : Nat) (κ : KO R) : Option R :=
  match ix with
  | .int _ i => match P.underlying t with
    | some (.slice e) => match x with
      | .vals ty l => br ((sizeIs P e ty.size).and (decide (0 ≤ i))) (l[i.toNat]?.bind fun x => κ (.cptr (ty.enc x)) hp n []) none
      | .lits m sz cs => br ((sizeIs P e sz).and (inRange i m)) (κ (.cptr ((cs.drop (i.toNat * sz)).take sz)) hp n []) none
      | .own b g => match hp b with
        | .arr ty l g' => br ((Nat.beq g g').and (sizeIs P e ty.size)) (br (inRange i l.length) (κ (.ptr b i.toNat 0 g) hp n []) none) none
        | _ => none
      | .sref b off len g _ => match hp b with
        | .arr ty _ g' => br ((Nat.beq g g').and (sizeIs P e ty.size)) (br (inRange i len) (κ (.ptr b (off + i.toNat) 0 g) hp n []) none) none
        | _ => none
      | _ => none
    | some (.array len e) => match x with
      | .ptr b i' o g => match hp b with
        | .arr ty _ g' => br ((Nat.beq i' 0).and (Nat.beq o 0)) (br ((Nat.beq g g').and (sizeIs P e ty.size)) (br (inRange i len) (κ (.ptr b i.toNat 0 g) hp n []) none) none) none
        | .box _ => br (Nat.beq i' 0) (match P.info? e with
          | some ie => ways (fun j => κ (.ptr b 0 (o + j * ie.size) g) hp n []) i 0 len
          | none => none) none
        | _ => none
      | .cptr cs => br (inRange i len) (match P.info? e with
        | some ie => κ (.cptr (cs.drop (i.toNat * ie.size))) hp n []
        | none => none) none
      | _ => none
    | _ => none
  | _ => none

def boundO (x : Option AV) (dflt : Nat) (κ : Nat → Option R) : Option R :=
  match x with
  | none => κ dflt
  | some (.int _ i) => br (decide (0 ≤ i)) (κ i.toNat) none
  | _ => none

def sliceO (t : TypeId) (x : AV) (lo hi mx : Option AV) (hp : Hp) (n : Nat) (κ : KO R) : Option R :=
  match P.underlying t, x with
  | some .string, .str s => match mx with
    | some _ => none
    | none => boundO lo 0 fun l => boundO hi s.size fun h =>
      br ((Nat.ble l h).and (Nat.ble h s.size)) (κ (.str (s.extract l h)) hp n []) none
  | some (.slice e), .vals ty l => br (sizeIs P e ty.size) (match mx with
    | some _ => none
    | none => match lo, hi with
      | none, none => κ (.vals ty l) hp n []
      | some (.int _ i), none => br ((decide (0 ≤ i)).and (decide (i ≤ (l.length : Int)))) (κ (.vals ty (l.drop i.toNat)) hp n []) none
      | none, some (.int _ j) => br ((decide (0 ≤ j)).and (decide (j ≤ (l.length : Int)))) (κ (.vals ty (l.take j.toNat)) hp n []) none
      | some (.int _ i), some (.int _ j) => br ((decide (0 ≤ i)).and ((decide (i ≤ j)).and (decide (j ≤ (l.length : Int)))))
          (κ (.vals ty ((l.drop i.toNat).take (j.toNat - i.toNat))) hp n []) none
      | _, _ => none) none
  | some (.slice e), .own b g => match hp b with
    | .arr ty l g' => br ((Nat.beq g g').and (sizeIs P e ty.size)) (boundO lo 0 fun i => boundO hi l.length fun j =>
        br ((Nat.ble i j).and (Nat.ble j l.length)) (match mx with
          | none => κ (.sref b i (j - i) g false) hp n []
          | some (.int _ m) => match hi with
            | some _ => br (decide (m = (j : Int))) (κ (.sref b i (j - i) g true) hp n []) none
            | none => none
          | _ => none) none) none
    | _ => none
  | some (.array len e), .ptr b 0 0 g => match hp b with
    | .arr ty l g' => br ((Nat.beq g g').and ((Nat.beq len l.length).and (sizeIs P e ty.size))) (boundO lo 0 fun i => boundO hi len fun j =>
        br ((Nat.ble i j).and (Nat.ble j len)) (match mx with
          | none => κ (.sref b i (j - i) g false) hp n []
          | some _ => none) none) none
    | _ => none
  | _, _ => none

/-- What a slice holds, as a list of type t. -/
def listOf (t : Ty) (x : AV) (hp : Hp) : Option (List t.den) :=
  match x with
  | .nils => some []
  | .vals t' l => castL t' t l
  | .own b g => match hp b with
    | .arr t' l g' => br (Nat.beq g g') (castL t' t l) none
    | _ => none
  | .sref b off len g _ => match hp b with
    | .arr t' l g' => br (Nat.beq g g') (match castL t' t l with
      | some l => some ((l.drop off).take len)
      | none => none) none
    | _ => none
  | _ => none
def blockOf : AV → Option Nat
  | .own b _ => some b
  | .sref b _ _ _ _ => some b
  | _ => none

/-- Do rows of elements of type e have t's cells, and can they grow? -/
def rowOk (e : TypeId) (t : Ty) : Bool :=
  match P.info? e with
  | some i => (Nat.ble i.bytes 16384).and ((Nat.beq i.size t.size).and (match i.zero with
    | some z => Nat.beq z.cells.size i.size
    | none => false))
  | none => false

def appendO (e : TypeId) (s x : AV) (hp : Hp) (nb n : Nat) (κ : KO R) : Option R :=
  match s with
  | .nils => match tyOf P 8 e with
    | some t => br (rowOk P e t) (match listOf t x hp with
      | some l' => br (Nat.ble l'.length maxElems) (κ (.own nb 0) (upd hp nb (.arr t l' 0)) n []) none
      | none => none) none
    | none => none
  | .own b g => match hp b with
    | .arr t l g' => br ((Nat.beq g g').and (rowOk P e t)) (match listOf t x hp with
      | some l' => br (match blockOf x with
          | some b' => Nat.beq b b'
          | none => false) none
        (br (Nat.ble (l.length + l'.length) maxElems) (κ (.own b (g' + 1)) (upd hp b (.arr t (l ++ l') (g' + 1))) n [b]) none)
      | none => none) none
    | _ => none
  | .sref b off len g true => match hp b with
    | .arr t l g' => br ((Nat.beq g g').and ((rowOk P e t).and (Nat.ble (off + len) l.length))) (match listOf t x hp with
      | some l' => br (Nat.ble 1 l'.length) (br (Nat.ble (len + l'.length) maxElems)
          (κ (.own nb 0) (upd hp nb (.arr t ((l.drop off).take len ++ l') 0)) n []) none)
        (br (Nat.beq off 0) (κ (.own nb 0) (upd (upd hp b .gone) nb (.arr t (l.take len) 0)) n [b]) (κ (.sref b off len g true) hp n []))
      | none => none) none
    | _ => none
  | _ => none

def spliceL {α : Type} (l : List α) (o : Nat) (new : List α) : List α := l.take o ++ (new ++ l.drop (o + new.length))

def copyO (e : TypeId) (d x : AV) (hp : Hp) (n : Nat) (κ : KO R) : Option R :=
  match d with
  | .own b g => match hp b with
    | .arr t l g' => br ((Nat.beq g g').and (sizeIs P e t.size)) (match listOf t x hp with
      | some l' => κ (.int .i64 (min l'.length l.length : Nat)) (upd hp b (.arr t (spliceL l 0 (l'.take (min l'.length l.length))) g')) n [b]
      | none => none) none
    | _ => none
  | .sref b off len g _ => match hp b with
    | .arr t l g' => br ((Nat.beq g g').and (sizeIs P e t.size)) (match listOf t x hp with
      | some l' => κ (.int .i64 (min l'.length len : Nat)) (upd hp b (.arr t (spliceL l off (l'.take (min l'.length len))) g')) n [b]
      | none => none) none
    | _ => none
  | _ => none

def lenO (t : TypeId) (x : AV) (hp : Hp) : Option Int :=
  match P.underlying t, x with
  | some .string, .str s => some s.size
  | some (.array n _), _ => some n
  | some (.slice _), .vals _ l => some l.length
  | some (.slice _), .nils => some 0
  | some (.slice _), .lits n _ _ => some n
  | some (.slice _), .own b g => match hp b with
    | .arr _ l g' => br (Nat.beq g g') (some (l.length : Int)) none
    | _ => none
  | some (.slice _), .sref _ _ len _ _ => some len
  | some (.map _ _), .nilmap => some 0
  | some (.map _ _), .map b => match hp b with
    | .map _ _ es _ => some es.length
    | _ => none
  | _, _ => none

/-- Are two fields' worth of cells the same? -/
def eqFs (P : Program) (rec : TypeId → AV → AV → Option Bool) (cs ds : List AV) : List Field → Option Bool
  | [] => some true
  | f :: fs => br (f.name == "_") none (match partV P f.type cs f.offset with
    | some a => match partV P f.type ds f.offset with
      | some b => match rec f.type a b with
        | some e => match eqFs P rec cs ds fs with
          | some r => some (e.and r)
          | none => none
        | none => none
      | none => none
    | none => none)
/-- Are two values the same? -/
def eqV (P : Program) : Nat → TypeId → AV → AV → Option Bool
  | 0, _, _, _ => none
  | d + 1, t, x, y => match P.underlying t with
    | some .bool => match x, y with
      | .bool a, .bool b => some (bEq a b)
      | _, _ => none
    | some (.int _) => match x, y with
      | .int k a, .int k' b => br (kEq k k') (some (decide (a = b))) none
      | _, _ => none
    | some .string => match x, y with
      | .str a, .str b => some (decide (a = b))
      | _, _ => none
    | some (.struct fs) => match x, y with
      | .agg cs, .agg ds => br (P.stoodInHeld t) none (eqFs P (eqV P d) cs ds fs.toList)
      | _, _ => none
    | _ => none

def bl (a b : ByteArray) : Bool := Op.bytesLess a.toList b.toList
def bitsV (op : BinOp) (k : IntKind) (x y : Int) : Option Int :=
  let a := BitVec.ofInt k.bits x
  let b := BitVec.ofInt k.bits y
  match op with
  | .and => some (k.wrap (a &&& b).toNat)
  | .or => some (k.wrap (a ||| b).toNat)
  | .xor => some (k.wrap (a ^^^ b).toNat)
  | .andNot => some (k.wrap (a &&& ~~~b).toNat)
  | _ => none

/-- Comparison with nil. -/
def nilEq (t : TypeId) (x y : AV) (cst : Bool) : Option Bool :=
  match P.underlying t, x, y with
  | some (.pointer _), .nilp, .nilp => some true
  | some (.pointer _), .ptr _ _ _ _, .nilp => some false
  | some (.pointer _), .nilp, .ptr _ _ _ _ => some false
  | some (.pointer _), .cptr _, .nilp => some false
  | some (.slice _), .nils, .nils => some true
  | some (.map _ _), .nilmap, .nilmap => some true
  | some (.map _ _), .map _, .nilmap => some false
  | some (.map _ _), .nilmap, .map _ => some false
  | some (.func _ _ _), .nilfn, .nilfn => some true
  | some (.func _ _ _), .fn _ _ _, .nilfn => some false
  | some (.interface _), .nili, .nili => br cst (some true) none
  | some (.interface _), .iface _ _, .nili => some false
  | some (.interface _), .nili, .iface _ _ => some false
  | _, _, _ => none

def fDiv (a b : Nat) : Option Nat := FloatKind.f64.format.div a b
def fOf (n : Int) : Nat := FloatKind.f64.nearest n
def fEq (a b : Nat) : Bool := FloatKind.f64.format.order a b == some .eq
def fLt (a b : Nat) : Bool := FloatKind.f64.format.order a b == some .lt
def binO (op : BinOp) (t : TypeId) (x y : AV) (cst : Bool) (κ : AV → Option R) : Option R :=
  match x, y with
  | .int k a, .int k' b => match op with
    | .shl => br (decide (b < 0)) none (κ (.int k (k.wrap (a * 2 ^ (min b.toNat k.bits)))))
    | .shr => br (decide (b < 0)) none (κ (.int k (a.fdiv (2 ^ (min b.toNat k.bits)))))
    | _ => br (kEq k k') (match op with
      | .add => κ (.int k (k.wrap (a + b)))
      | .sub => κ (.int k (k.wrap (a - b)))
      | .mul => κ (.int k (k.wrap (a * b)))
      | .quo => br (decide (b = 0)) none (κ (.int k (k.wrap (a.tdiv b))))
      | .rem => br (decide (b = 0)) none (κ (.int k (a.tmod b)))
      | .eql => κ (.bool (decide (a = b)))
      | .neq => κ (.bool (!decide (a = b)))
      | .lss => κ (.bool (decide (a < b)))
      | .leq => κ (.bool (decide (a ≤ b)))
      | .gtr => κ (.bool (decide (b < a)))
      | .geq => κ (.bool (decide (b ≤ a)))
      | _ => match bitsV op k a b with
        | some n => κ (.int k n)
        | none => none) none
  | .str a, .str b => match op with
    | .add => br (Nat.ble (a.size + b.size) 140737488355328) (κ (.str (a ++ b))) none
    | .eql => κ (.bool (decide (a = b)))
    | .neq => κ (.bool (!decide (a = b)))
    | .lss => κ (.bool (bl a b))
    | .leq => κ (.bool ((bl a b).or (decide (a = b))))
    | .gtr => κ (.bool (!(bl a b).or (decide (a = b))))
    | .geq => κ (.bool (!bl a b))
    | _ => none
  | .flt a, .flt b => match op with
    | .quo => (fDiv a b).bind fun r => κ (.flt r)
    | .eql => κ (.bool (fEq a b))
    | .neq => κ (.bool (!fEq a b))
    | .lss => κ (.bool (fLt a b))
    | _ => none
  | .bool a, .bool b => match P.underlying t with
    | some .bool => match op with
      | .eql => κ (.bool (bEq a b))
      | .neq => κ (.bool (!bEq a b))
      | _ => none
    | _ => none
  | .agg cs, .agg ds => br (P.eqGuardType P.depth t) none (match eqV P 9 t (.agg cs) (.agg ds) with
    | some e => match op with
      | .eql => κ (.bool e)
      | .neq => κ (.bool (!e))
      | _ => none
    | none => none)
  | _, _ =>
    match nilEq P t x y cst with
    | some e => match op with
      | .eql => κ (.bool e)
      | .neq => κ (.bool (!e))
      | _ => none
    | none => none

def unO (op : UnOp) (x : AV) (κ : AV → Option R) : Option R :=
  match op, x with
  | .not, .bool b => κ (.bool (!b))
  | .neg, .int k n => κ (.int k (k.wrap (0 - n)))
  | .xor, .int k n => match bitsV .xor k (br k.signed (-1) k.max) n with
    | some m => κ (.int k m)
    | none => none
  | _, _ => none

def bytesOf (s : ByteArray) : List Int := s.data.toList.map fun b => (b.toNat : Int)
def ofBytes (l : List Int) : ByteArray := ⟨(l.map fun n => UInt8.ofNat n.toNat).toArray⟩

def convO (src dst : TypeId) (x : AV) (hp : Hp) (κ : AV → Option R) : Option R :=
  match P.underlying src with
  | none => none
  | some sd => match P.underlying dst, x with
    | some (.int k), .int _ m => κ (.int k (k.wrap m))
    | some (.float .f64), .int _ m => κ (.flt (fOf m))
    | some .string, .str s => κ (.str s)
    | some .string, .int _ m => κ (.str (Utf8.encode m))
    | some .string, v => match sd with
      | .slice e => match P.underlying e with
        | some (.int .u8) => match listOf (.int .u8) v hp with
          | some l => κ (.str (ofBytes l))
          | none => none
        | _ => none
      | _ => none
    | _, _ => none

def mget (kt : Ty) {β : Type} (es : List (kt.den × β)) (k : kt.den) : Option β :=
  match es with
  | [] => none
  | e :: es => br (kt.keq k e.1) (some e.2) (mget kt es k)
def mset (kt : Ty) {β : Type} (es : List (kt.den × β)) (k : kt.den) (v : β) : List (kt.den × β) :=
  match es with
  | [] => [(k, v)]
  | e :: es => br (kt.keq k e.1) ((k, v) :: es) (e :: mset kt es k v)
def mdel (kt : Ty) {β : Type} (es : List (kt.den × β)) (k : kt.den) : List (kt.den × β) :=
  match es with
  | [] => []
  | e :: es => br (kt.keq k e.1) es (e :: mdel kt es k)
def mpos (kt : Ty) {β : Type} (es : List (kt.den × β)) (k : kt.den) : Nat :=
  match es with
  | [] => 0
  | e :: es => br (kt.keq k e.1) 0 (mpos kt es k + 1)

def keyOk (kT : TypeId) (kt : Ty) : Bool := match P.underlying kT, kt with
  | some .string, .str => true
  | some (.int k), .int k' => kEq k k'
  | _, _ => false
def keyV (kT : TypeId) (ix : AV) : Bool := match P.underlying kT, ix with
  | some .string, .str _ => true
  | some (.int k), .int k' _ => kEq k k'
  | _, _ => false
def lookupO (t : TypeId) (m ix : AV) (ok : Bool) (hp : Hp) (n : Nat) (κ : KO R) : Option R :=
  match P.underlying t with
  | some (.map kT e) => match zeroT P e with
    | some z => match m with
      | .map b => match hp b with
        | .map kt vt es _ => br (keyOk P kT kt) (match kt.decV ix with
          | some k => match vt.decV z with
            | some z0 => κ (br ok (.tup [vt.val ((mget kt es k).getD z0), .bool (mget kt es k).isSome]) (vt.val ((mget kt es k).getD z0))) hp n []
            | none => none
          | none => none) none
        | _ => none
      | .nilmap => br (keyV P kT ix) (κ (br ok (.tup [z, .bool false]) z) hp n []) none
      | _ => none
    | none => none
  | _ => none

def makeMapO (t : TypeId) (res : Option AV) (hp : Hp) (nb n : Nat) (κ : KO R) : Option R :=
  match res with
  | some _ => none
  | none => match P.underlying t with
    | some (.map k e) => match tyOf P 8 k, tyOf P 8 e with
      | some kt, some vt => κ (.map nb) (upd hp nb (.map kt vt [] 0)) n []
      | _, _ => none
    | _ => none

def mapUpdateO (t : TypeId) (m k v : AV) (hp : Hp) (n : Nat) (κ : KO R) : Option R :=
  match P.underlying t with
  | some (.map kT e) => match m with
    | .map b => match hp b with
      | .map kt vt es g => br (keyOk P kT kt) (match kt.decV k with
        | some k => match vt.decV v with
          | some v => κ .undef (upd hp b (.map kt vt (mset kt es k v) (g + 1))) n [b]
          | none => none
        | none => none) none
      | _ => none
    | _ => none
  | _ => none

def mapEntryO (m k : AV) (hp : Hp) (n : Nat) (κ : KO R) : Option R :=
  match m with
  | .map b => match hp b with
    | .map kt vt es g => match kt.decV k with
      | some k => κ (.tup [vt.val ((mget kt es k).getD vt.zero), .stamp b (mpos kt es k) (g + 1)])
          (upd hp b (.map kt vt (mset kt es k ((mget kt es k).getD vt.zero)) (g + 1))) n [b]
      | none => none
    | _ => none
  | _ => none

def entryStoreO (m s v : AV) (hp : Hp) (n : Nat) (κ : KO R) : Option R :=
  match m, s with
  | .map b, .stamp b' i g' => br (Nat.beq b b') (match hp b with
    | .map kt vt es g => br (Nat.beq g g') (match vt.decV v with
      | some y => κ .undef (upd hp b (.map kt vt (es.modify i fun e => (e.1, y)) (g + 1))) n [b]
      | none => none) none
    | _ => none) none
  | _, _ => none

def deleteO (t : TypeId) (m k : AV) (hp : Hp) (n : Nat) (κ : KO R) : Option R :=
  match P.underlying t with
  | some (.map kT e) => match m with
    | .nilmap => br (keyV P kT k) (κ (.tup []) hp n []) none
    | .map b => match hp b with
      | .map kt vt es g => br (keyOk P kT kt) (match kt.decV k with
        | some k => κ (.tup []) (upd hp b (.map kt vt (mdel kt es k) (g + 1))) n [b]
        | none => none) none
      | _ => none
    | _ => none
  | _ => none
def clearO (t : TypeId) (m : AV) (hp : Hp) (n : Nat) (κ : KO R) : Option R :=
  match P.underlying t with
  | some (.map kT _) => match m with
    | .nilmap => κ (.tup []) hp n []
    | .map b => match hp b with
      | .map kt vt _ g => br (keyOk P kT kt) (κ (.tup []) (upd hp b (.map kt vt [] (g + 1))) n [b]) none
      | _ => none
    | _ => none
  | _ => none

def intsOf (k : IntKind) : List AV → Option (List Int)
  | [] => some []
  | .int k' n :: r => br (kEq k' k) (match intsOf k r with
    | some l => some (n :: l)
    | none => none) none
  | _ => none

def parts (ρ : Operand → AV) (ps : Array (Nat × Operand)) : List (Nat × AV) := ps.toList.map fun p => (p.1, ρ p.2)

def placesOf : List Field → Option (List (Nat × Nat))
  | [] => some []
  | f :: fs => match P.info? f.type with
    | some i => match placesOf fs with
      | some r => some ((f.offset, i.size) :: r)
      | none => none
    | none => none
def buildO (t : TypeId) (ps : List (Nat × AV)) : Option AV :=
  match zeroT P t with
  | some z => match P.underlying t with
    | some (.struct fs) => match placesOf P fs.toList with
      | some places => match fillV (fun i => places[i]?) (cellsOf z) ps with
        | some cs => some (.agg cs)
        | none => none
      | none => none
    | some (.array _ e) => match P.info? e with
      | some ie => match fillV (fun i => some (i * ie.size, ie.size)) (cellsOf z) ps with
        | some cs => some (.agg cs)
        | none => none
      | none => none
    | _ => none
  | none => none

def repCells (cs : List AV) : Nat → List AV
  | 0 => []
  | n + 1 => cs ++ repCells cs n

def buildSliceO (t : TypeId) (len : Nat) (ps : List (Nat × AV)) (hp : Hp) (nb n : Nat) (κ : KO R) : Option R :=
  match P.underlying t with
  | some (.slice e) => match P.info? e with
    | some ie => match ie.zero with
      | some z => br ((Nat.ble (len * ie.size) 16777216).and ((Nat.beq z.cells.size ie.size).and (Nat.ble 1 (len * ie.size)))) (match fillV (fun i => some (i * ie.size, ie.size)) (repCells (cellsOf (ofConst z)) len) ps with
        | some cs => match tyOf P 8 e with
          | some ty => match decs ty len cs with
            | some l => κ (.own nb 0) (upd hp nb (.arr ty l 0)) n []
            | none => κ (.lits len ie.size cs) hp n []
          | none => κ (.lits len ie.size cs) hp n []
        | none => none)
        (br ((Nat.beq len 0).and (match ps with
          | [] => true
          | _ :: _ => false)) (match tyOf P 8 e with
          | some ty => κ (.own nb 0) (upd hp nb (.arr ty [] 0)) n []
          | none => none) none)
      | none => none
    | none => none
  | _ => none

def makeSliceO (t : TypeId) (len cap : AV) (hp : Hp) (nb n : Nat) (κ : KO R) : Option R :=
  match P.underlying t, len, cap with
  | some (.slice e), .int .i64 l, .int .i64 c => match tyOf P 8 e, zeroT P e with
    | some ty, some z => match ty.dec (cellsOf z) with
      | some (x, []) => br ((rowOk P e ty).and ((decide (0 ≤ l)).and ((decide (l ≤ c)).and (decide (c ≤ 4294967296)))))
        (κ (.own nb 0) (upd hp nb (.arr ty (List.replicate l.toNat x) 0)) n []) none
      | _ => none
    | _, _ => none
  | _, _, _ => none

def rangeO (t : TypeId) (x : AV) (hp : Hp) (nb n : Nat) (κ : KO R) : Option R :=
  match P.underlying t, x with
  | some .string, .str s => κ (.ptr nb 0 0 0) (upd hp nb (.siter s 0)) n []
  | _, _ => none
def nextO (it : AV) (hp : Hp) (n : Nat) (κ : KO R) : Option R :=
  match it with
  | .ptr b 0 0 0 => match hp b with
    | .siter s pos => br (Nat.blt pos s.size)
        (κ (.tup [.bool true, .int .i64 pos, .int .i32 (Utf8.decode s pos).1]) (upd hp b (.siter s (pos + (Utf8.decode s pos).2))) n [b])
        (κ (.tup [.bool false]) hp n [])
    | _ => none
  | _ => none

end ops

/-- What is told to the interpreter of one function, beside its code: regions' operations whose slice is done with, or whose nil slice begins a block; operations that write in a region that draws its order (lw: to a block that the region itself made; bd: loads of what is read for good; jo: calls that hand back a new row); slots whose row is read for good from a region on (fz); the next free number at a region (nb); calls that are walked in though there is a contract (wk); whether what is handed back stays as it is. -/
structure Hints where
  freeze : Nat → List Nat := fun _ => []
  thaw : Nat → List Nat := fun _ => []
  wr : Nat → List Nat := fun _ => []
  lw : Nat → List Nat := fun _ => []
  bd : Nat → List Nat := fun _ => []
  jo : Nat → List Nat := fun _ => []
  fz : Nat → List Nat := fun _ => []
  nb : Nat → Nat := fun _ => 0
  wk : Nat → List Nat := fun _ => []
  keep : Bool := false

structure St where
  nt : Nat
  tm : Nat → AV
  hp : Hp
  n : Nat
  dirty : List Nat

inductive Ex where
  | normal | exit (id : Nat) | ret

abbrev KC (R : Type) := Ex → St → Option R

/-- A loop's contract: from what stands at its head to what stands behind it. -/
inductive LoopEntry (R : Type) where
  | unroll (n : Nat)
  | run (f : St → KC R → Option R)

/-- A call that is walked into. -/
abbrev Inl (R : Type) := FuncId → List AV → Hp → Nat → (AV → Hp → Nat → List Nat → Option R) → Option R

def evalO (tm : Nat → AV) : Operand → AV
  | .tmp t => tm t
  | .const v => ofConst v
  | .func f => .fn (.func f) [] []
  | .global _ => .undef

section interp
variable {R : Type} (P : Program) (E : FuncId → Option Entry) (inl : Inl R)

def enterable (f : FuncId) : Bool :=
  match P.funcs[f]? with
  | some fn => (!(fn.name == "runtime.NumGoroutine")).and fn.body.isSome
  | none => false

def callO (f : FuncId) (args : List AV) (hp : Hp) (n : Nat) (κ : KO R) : Option R :=
  br (enterable P f) (match E f with
  | some e => br (args.any borrowed)
    (br (e.rs.all Ty.flat) (match decArgs e.ts (args.map (borrow hp)) with
      | some x => (e.f x).bind fun r => κ (resVal (encVals e.rs r)) hp n []
      | none => none) none)
    (match decArgs e.ts args with
    | some x => (e.f x).bind fun r => κ (resVal (encVals e.rs r)) hp n []
    | none => none)
  | none => inl f args hp n κ) none

def elemT (t : TypeId) : TypeId := match P.underlying t with
  | some (.slice e) => e
  | _ => 0

def builtinO (b : Builtin) (argTypes : Array TypeId) (args : List AV) (hp : Hp) (nb n : Nat) (κ : KO R) : Option R :=
  match b, args with
  | .len, [x] => match argTypes[0]? with
    | some t => match lenO P t x hp with
      | some m => κ (.int .i64 m) hp n []
      | none => none
    | none => none
  | .append, [s, x] => match argTypes[0]?, argTypes[1]? with
    | some t, some u => match P.underlying t, P.underlying u with
      | some (.slice e), some (.slice _) => appendO P e s x hp nb n κ
      | _, _ => none
    | _, _ => none
  | .max, .int k a :: r => match intsOf k r with
    | some l => κ (.int k (l.foldl max a)) hp n []
    | none => none
  | .min, .int k a :: r => match intsOf k r with
    | some l => κ (.int k (l.foldl min a)) hp n []
    | none => none
  | .delete, [m, k] => match argTypes[0]? with
    | some t => deleteO P t m k hp n κ
    | none => none
  | .clear, [m] => match argTypes[0]? with
    | some t => clearO P t m hp n κ
    | none => none
  | _, _ => none

def isConst : Operand → Bool
  | .const _ => true
  | _ => false

def aop (o : Oper) (ρ : Operand → AV) (hp : Hp) (nb n : Nat) (κ : KO R) : Option R :=
  match o.op with
  | .move x => κ (ρ x) hp n []
  | .assign x => κ (ρ x) hp n []
  | .pick c a b => match ρ c with
    | .bool t => br t (κ (ρ a) hp n []) (κ (ρ b) hp n [])
    | _ => none
  | .alloc e => match zeroT P e with
    | some z => newBlk P e (cellsOf z) hp nb n κ
    | none => none
  | .box e x => br (good (ρ x)) (newBlk P e (cellsOf (ρ x)) hp nb n κ) none
  | .build t ps => match buildO P t (parts ρ ps) with
    | some v => κ v hp n []
    | none => none
  | .buildSlice t len ps => buildSliceO P t len (parts ρ ps) hp nb n κ
  | .load t a => loadO P t (ρ a) hp n κ
  | .store t a x => storeO P t (ρ a) (ρ x) hp n κ
  | .nilCheck x => match ρ x with
    | .ptr b i o g => κ (.ptr b i o g) hp n []
    | .cptr cs => κ (.cptr cs) hp n []
    | .iface t v => κ (.iface t v) hp n []
    | .fn (.func f) a b => κ (.fn (.func f) a b) hp n []
    | _ => none
  | .binOp op t x y _ => binO P op t (ρ x) (ρ y) ((isConst x).or (isConst y)) fun v => κ v hp n []
  | .unOp op _ x => unO op (ρ x) fun v => κ v hp n []
  | .convert s d x => convO P s d (ρ x) hp fun v => κ v hp n []
  | .makeInterface t x => match P.underlying t with
    | some (.interface _) => none
    | some _ => κ (.iface t (ρ x)) hp n []
    | none => none
  | .makeFunc f first caps => κ (.fn f (first.toList.map ρ) (caps.toList.map ρ)) hp n []
  | .makeSlice t l c => makeSliceO P t (ρ l) (ρ c) hp nb n κ
  | .slice t x lo hi mx => sliceO P t (ρ x) (lo.map ρ) (hi.map ρ) (mx.map ρ) hp n κ
  | .fieldAddr t x f => match fieldO P t (ρ x) f with
    | some off => match ρ x with
      | .ptr b i o g => κ (.ptr b i (o + off) g) hp n []
      | .cptr cs => κ (.cptr (cs.drop off)) hp n []
      | _ => none
    | none => none
  | .field t x f => match P.underlying t with
    | some (.struct fs) => match fs[f]? with
      | some fd => match ρ x with
        | .agg cs => match partV P fd.type cs fd.offset with
          | some v => κ v hp n []
          | none => none
        | _ => none
      | none => none
    | _ => none
  | .indexAddr t x ix => indexAddrO P t (ρ x) (ρ ix) hp n κ
  | .index t x ix => match P.underlying t, ρ x, ρ ix with
    | some .string, .str s, .int _ i => br (decide (0 ≤ i)) ((s.data.toList[i.toNat]?).bind fun b => κ (.int .u8 (b.toNat : Int)) hp n []) none
    | some (.array len e), .agg cs, .int _ i => br (inRange i len) (match P.info? e with
      | some ie => match partV P e cs (i.toNat * ie.size) with
        | some v => κ v hp n []
        | none => none
      | none => none) none
    | _, _, _ => none
  | .range t x => rangeO P t (ρ x) hp nb n κ
  | .makeMap t res => makeMapO P t (res.map ρ) hp nb n κ
  | .lookup t x ix ok => lookupO P t (ρ x) (ρ ix) ok hp n κ
  | .mapUpdate t m k v => mapUpdateO P t (ρ m) (ρ k) (ρ v) hp n κ
  | .next x s => br s (nextO (ρ x) hp n κ) none
  | .extract t i => match ρ t with
    | .tup vs => match vs[i]? with
      | some v => κ v hp n []
      | none => none
    | _ => none
  | .typeAssert x _ t ok => match P.underlying t, ρ x with
    | some (.interface _), _ => none
    | some _, .iface t' v => br (Nat.beq t' t) (κ (br ok (.tup [v, .bool true]) v) hp n [])
        (br ok (match zeroT P t with
          | some z => κ (.tup [z, .bool false]) hp n []
          | none => none) none)
    | _, _ => none
  | .call c => match c.callee with
    | .builtin b => builtinO P b c.argTypes (c.args.toList.map ρ) hp nb n κ
    | .value f => match ρ f with
      | .fn (.func f) first caps => callO P E inl f ((first ++ c.args.toList.map ρ) ++ caps) hp n κ
      | _ => none
    | _ => none
  | _ => none

/-- A nil slice among a box's cells. -/
def nilCell (P : Program) (cs : List AV) : List Field → Option (Nat × TypeId)
  | [] => none
  | fd :: fs => match P.underlying fd.type, cs[fd.offset]? with
    | some (.slice e), some .nils => some (fd.offset, e)
    | _, _ => nilCell P cs fs
def nilIn (P : Program) (t : TypeId) (cs : List AV) : Option (Nat × Ty) :=
  match P.underlying t with
  | some (.pointer e) => match P.underlying e with
    | some (.struct fs) => match nilCell P cs fs.toList with
      | some (c, e) => match tyOf P 8 e with
        | some ty => some (c, ty)
        | none => none
      | none => none
    | _ => none
  | _ => none
def thawB (b c nb : Nat) (ty : Ty) (v : AV) (cs : List AV) (hp : Hp) (n : Nat) (κ : KO R) : Option R :=
  match cs[c]? with
  | some .nils => κ v (upd (upd hp nb (.arr ty [] 0)) b (.box (cs.set c (.own nb 0)))) n [b]
  | _ => κ v hp n []
/-- A nil slice that begins a block. -/
def thawO (t : TypeId) (v : AV) (hp : Hp) (nb n : Nat) (κ : KO R) : Option R :=
  match v with
  | .nils => match tyOf P 8 (elemT P t) with
    | some ty => κ (.own nb 0) (upd hp nb (.arr ty [] 0)) n []
    | none => none
  | .ptr b i o g => match hp b with
    | .box cs => match nilIn P t cs with
      | some (c, ty) => thawB b c nb ty (.ptr b i o g) cs hp n κ
      | none => κ (.ptr b i o g) hp n []
    | _ => κ (.ptr b i o g) hp n []
  | v => κ v hp n []
/-- A nil slice that is stored, and begins a block. -/
def thawS (t : TypeId) (a v : AV) (hp : Hp) (nb n : Nat) (κ : KO R) : Option R :=
  match v with
  | .nils => match tyOf P 8 (elemT P t) with
    | some ty => storeO P t a (.own nb 0) (upd hp nb (.arr ty [] 0)) n κ
    | none => none
  | _ => none
/-- An operation, with the hint that its nil slice begins a block. -/
def aopT (thaw : Bool) (o : Oper) (ρ : Operand → AV) (hp : Hp) (nb n : Nat) (κ : KO R) : Option R :=
  br thaw (match o.op with
    | .assign x => thawO P o.type (ρ x) hp nb n κ
    | .move x => thawO P o.type (ρ x) hp nb n κ
    | .store t a x => thawS P t (ρ a) (ρ x) hp nb n κ
    | _ => none)
  (aop P E inl o ρ hp nb n κ)

/-- Is what is to be given up there? -/
def there1 (hp : Hp) : AV → Bool
  | .own b g => match hp b with
    | .arr _ _ g' => Nat.beq g g'
    | _ => false
  | .sref b _ _ g _ => match hp b with
    | .arr _ _ g' => Nat.beq g g'
    | _ => false
  | _ => true
def there (hp : Hp) : AV → Bool
  | .agg cs => cs.all (there1 hp)
  | .tup vs => vs.all fun
    | .agg cs => cs.all (there1 hp)
    | v => there1 hp v
  | v => there1 hp v
/-- Behind an operation: a slice that is done with. -/
def post (freeze : Bool) (κ : KO R) : KO R := fun v hp n d =>
  br freeze (match v with
    | .ptr b i o g => match hp b with
      | .box cs => br ((Nat.beq i 0).and (Nat.beq o 0)) (κ (.cptr cs) (dropB hp [b]) n ([b] ++ d)) (κ (.ptr b i o g) hp n d)
      | _ => κ (.ptr b i o g) hp n d
    | v => br (there hp v) (κ (freezeV hp v) (dropB hp (frees v)) n (frees v ++ d)) none) (κ v hp n d)

def setDst (dst : Option Tmp) (tm : Nat → AV) (v : AV) : Nat → AV :=
  match dst with
  | some d => upd tm d v
  | none => tm

/-- Ancestors of each operation, as bits. -/
def ancs : List Oper → List Nat → List Nat
  | [], acc => acc
  | o :: os, acc => ancs os (acc ++ [o.after.toList.foldl (fun s e => br ((Region.binds .any e).and (Nat.blt e.on acc.length)) (s ||| (2 ^ e.on ||| (acc[e.on]?).getD 0)) s) 0])

/-- Does an operation leave the heap out of account? -/
def heapless (o : Oper) : Bool :=
  match o.op with
  | .move _ => true
  | .assign _ => true
  | .pick _ _ _ => true
  | .build _ _ => true
  | .nilCheck _ => true
  | .binOp _ _ _ _ _ => true
  | .unOp _ _ _ => true
  | .makeInterface _ _ => true
  | .makeFunc _ _ _ => true
  | .fieldAddr _ _ _ => true
  | .field _ _ _ => true
  | .index _ _ _ => true
  | .extract _ _ => true
  | _ => false

def tmpsOf (os : Array Operand) : List Nat := os.toList.filterMap fun
  | .tmp t => some t
  | _ => none
/-- The slots that an operation names. -/
def namesOf (ops : List Oper) (o : Oper) : List Nat :=
  o.dst.toList ++ (tmpsOf o.op.operands ++ (match o.guard with
    | some (g, _) => ((ops[g]?).bind (·.dst)).toList
    | none => []))
/-- Is i an ancestor of j, or j of i? -/
def ordered (an : List Nat) (i j : Nat) : Bool := br (Nat.blt i j) (((an[j]?).getD 0).testBit i) (((an[i]?).getD 0).testBit j)
/-- Whoever names a slot is ordered with all that write it. -/
def tmpsOk (ops : List Oper) (an : List Nat) : Bool :=
  (List.range ops.length).all fun j => match ops[j]? with
    | some o => (namesOf ops o).all fun t => (List.range ops.length).all fun i => (Nat.beq i j).or (match ops[i]? with
      | some p => match p.dst with
        | some d => (!Nat.beq d t).or (ordered an i j)
        | none => true
      | none => true)
    | none => true

def memN (l : List Nat) (j : Nat) : Bool := l.any (Nat.beq j)

/-- Does an operation leave the heap out of account, by itself or by a hint? -/
def blind (bd : List Nat) (o : Oper) (j : Nat) : Bool := (heapless o).or (memN bd j)
/-- Operation j is ordered with all that look at the heap. -/
def barrier (wr bd : List Nat) (ops : List Oper) (an : List Nat) (j : Nat) : Bool :=
  (List.range ops.length).all fun i => (Nat.beq i j).or (((match ops[i]? with
    | some o => blind bd o i
    | none => true).and (memN wr i).not).or (ordered an i j))

/-- Operation j is ordered with all that may look at the block that operation i made. -/
def barrierAt (bd : List Nat) (ops : List Oper) (an : List Nat) (j i : Nat) : Bool :=
  (List.range ops.length).all fun k => (Nat.beq k j).or ((match ops[k]? with
    | some o => blind bd o k
    | none => true).or (((((an[k]?).getD 0).testBit i).not).or (ordered an k j)))
/-- May operation j write block b, that the region made? -/
def lwOk (bd : List Nat) (ops : List Oper) (an : List Nat) (base j b : Nat) : Bool :=
  (Nat.ble base b).and ((((an[j]?).getD 0).testBit (b - base)).and (barrierAt bd ops an j (b - base)))

/-- Whoever must come up ahead stands ahead in the text. -/
def edgesOk (ops : List Oper) : Bool :=
  (List.range ops.length).all fun j => match ops[j]? with
    | some o => o.after.toList.all fun e => (Region.binds .any e).not.or (Nat.blt e.on j)
    | none => true

/-- The heap as operation j may see it: what operations that need not be ahead of it made is hidden. -/
def hideFor (hp : Hp) (base : Nat) (anj : Nat) (k : Nat) : Hp := fun b => br ((Nat.ble base b).and ((Nat.blt b (base + k)).and (anj.testBit (b - base)).not)) .gone (hp b)
def dstOk (nt : Nat) : Option Tmp → Bool
  | some d => Nat.blt d nt
  | none => true

/-- A row that a call made, as the operation's own block. -/
def joinOwn (nb n : Nat) (v : AV) (hp : Hp) (d : List Nat) (κ : Blk → Option R) : Option R :=
  match v with
  | .own b k => match hp b with
    | .arr t l k' => br ((Nat.beq k k').and ((Nat.ble n b).and (d.all fun x => (Nat.beq x nb).or (Nat.ble n x)))) (κ (.arr t l 0)) none
    | _ => none
  | _ => none
/-- An element's place in what is read for good. -/
def idxC (t : TypeId) (x ix : AV) (κ : AV → Option R) : Option R :=
  match ix with
  | .int _ i => match P.underlying t with
    | some (.slice e) => match x with
      | .vals ty l => br ((sizeIs P e ty.size).and (decide (0 ≤ i))) (l[i.toNat]?.bind fun x => κ (.cptr (ty.enc x))) none
      | _ => none
    | _ => none
  | _ => none
/-- A load of what is read for good. -/
def loadC (o : Oper) (ρ : Operand → AV) (κ : AV → Option R) : Option R :=
  match o.op with
  | .load t a => match ρ a with
    | .cptr cs => match partV P t cs 0 with
      | some v => κ v
      | none => none
    | _ => none
  | .indexAddr t x ix => idxC P t (ρ x) (ρ ix) κ
  | .convert s d x => match P.underlying s with
    | some _ => match P.underlying d, ρ x with
      | some (.int k), .int _ m => κ (.int k (k.wrap m))
      | some (.float .f64), .int _ m => κ (.flt (fOf m))
      | _, _ => none
    | none => none
  | .call c => match c.callee, c.args.toList.map ρ, c.argTypes[0]? with
    | .builtin .len, [.vals _ l], some t => match P.underlying t with
      | some (.slice _) => κ (.int .i64 l.length)
      | _ => none
    | _, _, _ => none
  | _ => none
/-- A call that is walked in, though there is a contract. -/
def selE (b : Bool) (E : FuncId → Option Entry) : FuncId → Option Entry := fun f => br b none (E f)
def stepOp (H : Hints) (id : Nat) (ops : List Oper) (an : List Nat) (draw : Bool) (base j : Nat) (o : Oper) (st : St) (κ : St → Option R) : Option R :=
  br (dstOk st.nt o.dst) (br draw
    (br (memN (H.bd id) j)
      (loadC P o (evalO st.tm) fun v => κ { st with tm := setDst o.dst st.tm v, hp := upd st.hp (base + j) .gone })
    (br (memN (H.jo id) j)
      (br (heapless o) none (aopT P E inl (memN (H.thaw id) j) o (evalO st.tm) (hideFor st.hp base ((an[j]?).getD 0) ops.length) (base + j) (st.n + j * 4096) (post false fun v hp' n' d =>
        joinOwn (base + j) (st.n + j * 4096) v hp' d fun blk => κ { st with tm := setDst o.dst st.tm (.own (base + j) 0), hp := upd st.hp (base + j) blk })))
    (br (memN (H.lw id) j)
      (br (heapless o) none (aopT P E inl (memN (H.thaw id) j) o (evalO st.tm) (hideFor st.hp base ((an[j]?).getD 0) ops.length) (base + j) (st.n + j * 4096) (post (memN (H.freeze id) j) fun v hp' n' d =>
        match d with
        | [b] => br ((Nat.beq n' (st.n + j * 4096)).and (lwOk (H.bd id) ops an base j b)) (κ { st with tm := setDst o.dst st.tm v, hp := upd st.hp b (hp' b), dirty := [b] ++ st.dirty }) none
        | _ => none)))
    (br (memN (H.wr id) j)
      (br (barrier (H.wr id) (H.bd id) ops an j)
        (aopT P E inl (memN (H.thaw id) j) o (evalO st.tm) (hideFor st.hp base (2 ^ j - 1) ops.length) (base + j) (st.n + j * 4096) (post (memN (H.freeze id) j) fun v hp' n' d =>
          br (Nat.ble n' (st.n + (j + 1) * 4096)) (κ { st with tm := setDst o.dst st.tm v, hp := hp', dirty := d ++ st.dirty }) none)) none)
      (br ((heapless o).and ((memN (H.thaw id) j).or (memN (H.freeze id) j))) none
      (aopT P E inl (memN (H.thaw id) j) o (evalO st.tm) (hideFor st.hp base ((an[j]?).getD 0) ops.length) (base + j) (st.n + j * 4096) (post (memN (H.freeze id) j) fun v hp' n' d =>
        br (d.all (Nat.beq (base + j))) (br (Nat.beq n' (st.n + j * 4096)) (κ { st with tm := setDst o.dst st.tm v, hp := upd st.hp (base + j) (hp' (base + j)) }) none) none)))))))
    (aopT P (selE (memN (H.wk id) j) E) inl (memN (H.thaw id) j) o (evalO st.tm) st.hp (base + j) st.n (post (memN (H.freeze id) j) fun v hp' n' d =>
      κ { st with tm := setDst o.dst st.tm v, hp := hp', n := n', dirty := d ++ st.dirty }))) none

def runOps (H : Hints) (id : Nat) (ops : List Oper) (an : List Nat) (draw : Bool) (base : Nat) : List Oper → Nat → St → (St → Option R) → Option R
  | [], _, st, κ => κ st
  | o :: os, j, st, κ => br (dstOk st.nt o.dst) (match o.guard with
    | none => stepOp P E inl H id ops an draw base j o st fun st' => runOps H id ops an draw base os (j + 1) st' κ
    | some (g, want) => match (ops[g]?).bind (·.dst) with
      | some t => match st.tm t with
        | .bool b => br b
          (br want (stepOp P E inl H id ops an draw base j o { st with tm := upd st.tm t (.bool true) } fun st' => runOps H id ops an draw base os (j + 1) st' κ)
            (runOps H id ops an draw base os (j + 1) { st with tm := setDst o.dst (upd st.tm t (.bool true)) (.tup []) } κ))
          (br want (runOps H id ops an draw base os (j + 1) { st with tm := setDst o.dst (upd st.tm t (.bool false)) (.tup []) } κ)
            (stepOp P E inl H id ops an draw base j o { st with tm := upd st.tm t (.bool false) } fun st' => runOps H id ops an draw base os (j + 1) st' κ))
        | .tup [] => runOps H id ops an draw base os (j + 1) { st with tm := setDst o.dst st.tm (.tup []) } κ
        | _ => none
      | none => none) none

def regionO (H : Hints) (id : Nat) (ops : List Oper) (draw : Bool) (st : St) (κ : KC R) : Option R :=
  br draw
    (br ((edgesOk ops).and (tmpsOk ops (ancs ops []))) (runOps P E inl H id ops (ancs ops []) true st.n ops 0 { st with n := st.n + ops.length } fun st' => κ .normal { st' with n := st'.n + ops.length * 4096 }) none)
    (runOps P E inl H id ops [] false st.n ops 0 { st with n := st.n + ops.length } fun st' => κ .normal st')

/-- A slot whose row, or whose box, is read for good from here on. -/
def fz1 (s : Nat) (st : St) (κ : St → Option R) : Option R :=
  match st.tm s with
  | .ptr b i o g => match st.hp b with
    | .box cs => br ((Nat.beq i 0).and (Nat.beq o 0)) (κ ⟨st.nt, upd st.tm s (.cptr cs), dropB st.hp [b], st.n, [b] ++ st.dirty⟩) (κ st)
    | _ => κ st
  | v => br (there st.hp v) (κ ⟨st.nt, upd st.tm s (freezeV st.hp v), dropB st.hp (frees v), st.n, frees v ++ st.dirty⟩) none
def fzO (l : List Nat) (st : St) (κ : St → Option R) : Option R :=
  match l with
  | [] => κ st
  | s :: l => fz1 s st fun st' => fzO l st' κ

/-- A region that sets the next free number: so that all ways to it meet it with the same one. -/
def nbO (k : Nat) (st : St) (κ : St → Option R) : Option R :=
  br (Nat.beq k 0) (κ st) (br (Nat.ble st.n k) (κ ⟨st.nt, st.tm, st.hp, k, st.dirty⟩) none)

def iterU (body : St → KC R → Option R) : Nat → St → KC R → Option R
  | 0, _, _ => none
  | n + 1, st, κ => body st fun e st' => match e with
    | .normal => iterU body n st' κ
    | e => κ e st'

def firstR : Code → Nat
  | .region id _ _ => id
  | .seq a _ => firstR a
  | .block _ c => firstR c
  | .loop c => firstR c
  | .scope c => firstR c
  | _ => 0

/-- The code. -/
noncomputable def code (H : Hints) (LH : Nat → Option (LoopEntry R)) (c : Code) : St → KC R → Option R :=
  Code.rec (motive := fun _ => St → KC R → Option R)
    (fun st κ => κ .normal st)
    (fun id ops draw st κ => nbO (H.nb id) st fun st0 => fzO (H.fz id) st0 fun st1 => regionO P E inl H id ops.toList draw st1 κ)
    (fun _ _ iha ihb st κ => iha st fun e st' => match e with
      | .normal => ihb st' κ
      | e => κ e st')
    (fun c _ _ iha ihb st κ => match c with
      | .tmp t => match st.tm t with
        | .bool b => br b (iha { st with tm := upd st.tm t (.bool true) } κ) (ihb { st with tm := upd st.tm t (.bool false) } κ)
        | _ => none
      | .const (.bool b) => br b (iha st κ) (ihb st κ)
      | _ => none)
    (fun id _ ih st κ => match LH (1000000 + id) with
      | some (.run f) => f st κ
      | _ => ih st fun e st' => match e with
        | .exit i => br (Nat.beq i id) (κ .normal st') (κ (.exit i) st')
        | e => κ e st')
    (fun body ih st κ => match LH (firstR body) with
      | some (.unroll n) => iterU ih n st κ
      | some (.run f) => f st κ
      | none => none)
    (fun _ _ _ _ _ _ _ _ => none)
    (fun id st κ => κ (.exit id) st)
    (fun _ _ _ _ => none)
    (fun _ st κ => κ .normal st)
    (fun _ _ _ => none)
    (fun st κ => κ .ret st)
    (fun _ _ _ => none)
    c

def resTmps : List ResultVar → Option (List Nat)
  | [] => some []
  | .tmp t :: r => match resTmps r with
    | some l => some (t :: l)
    | none => none
  | _ => none
def resCells (P : Program) (tm : Nat → AV) (hp : Hp) : List ResultVar → Option (List AV)
  | [] => some []
  | .tmp t :: r => match resCells P tm hp r with
    | some l => some (tm t :: l)
    | none => none
  | .cell a t :: r => match tm a with
    | .ptr b 0 o 0 => match hp b with
      | .box cs => match partV P t cs o with
        | some v => match resCells P tm hp r with
          | some l => some (v :: l)
          | none => none
        | none => none
      | _ => none
    | _ => none

/-- A function's body, from its arguments to what it hands back. -/
noncomputable def funO (H : Hints) (LH : Nat → Option (LoopEntry R)) (fn : Func) (args : List AV) (hp : Hp) (n : Nat) (κ : AV → Hp → Nat → List Nat → Option R) : Option R :=
  match fn.body with
  | some c => code P E inl H LH c { nt := max args.length fn.ntmps, tm := fun i => (args[i]?).getD .undef, hp := hp, n := n, dirty := [] } fun e st' =>
    match e with
    | .exit _ => none
    | _ => match resCells P st'.tm st'.hp fn.results.toList with
      | some vs => br H.keep (κ (resVal vs) st'.hp st'.n st'.dirty) (br (there st'.hp (resVal vs))
        (κ (freezeV st'.hp (resVal vs)) (dropB st'.hp (frees (resVal vs))) st'.n (frees (resVal vs) ++ st'.dirty)) none)
      | none => none
  | none => none

end interp

/-- Calls that are walked into, d deep. -/
noncomputable def inlD {R : Type} (P : Program) (E : FuncId → Option Entry) (HN : FuncId → Hints) (LH : FuncId → Nat → Option (LoopEntry R)) : Nat → Inl R
  | 0 => fun _ _ _ _ _ => none
  | d + 1 => fun f args hp n κ => match P.funcs[f]? with
    | some fn => funO P E (inlD P E HN LH d) (HN f) (LH f) fn args hp n κ
    | none => none
end Go.VI

end
section
/- What abstract values, blocks and states say of the model's memory; a step's effect on what is said. -/
namespace Go.VI
set_option linter.unusedVariables false

/-- Typed data, in cells, and in memory that is not written (blocks F). -/
def RelT (F : Nat → Prop) (w : World) : (t : Ty) → t.den → List Value → Prop
  | .int k, n, cs => cs = [.int k n]
  | .bool, b, cs => cs = [.bool b]
  | .str, s, cs => cs = [.string s]
  | .f64, b, cs => cs = [.float .f64 b]
  | .slice t, l, cs => ∃ a cap, cs = [.slice a l.length cap] ∧ l.length ≤ cap ∧
      ∀ i x, l[i]? = some x → ∃ ad, a = some ad ∧ F ad.block ∧ ∃ c, RelT F w t x c ∧ ∀ j v, c[j]? = some v → w.cell? (ad.add (i * t.size + j)) = some v
  | .pair a b, x, cs => ∃ c d, cs = c ++ d ∧ RelT F w a x.1 c ∧ RelT F w b x.2 d
  | .agg t, x, cs => RelT F w t x cs
  | .nil, _, cs => cs = []

theorem RelT.len {F : Nat → Prop} {w : World} : ∀ {t : Ty} {x : t.den} {cs : List Value}, RelT F w t x cs → cs.length = t.size
  | .int _, _, _, h => by rw [show _ = _ from h]; rfl
  | .bool, _, _, h => by rw [show _ = _ from h]; rfl
  | .str, _, _, h => by rw [show _ = _ from h]; rfl
  | .f64, _, _, h => by rw [show _ = _ from h]; rfl
  | .slice _, _, _, h => by obtain ⟨a, cap, rfl, _⟩ := h; rfl
  | .pair a b, _, _, h => by
    obtain ⟨c, d, rfl, h1, h2⟩ := h
    rw [List.length_append, RelT.len h1, RelT.len h2]; rfl
  | .agg t, x, cs, h => RelT.len (t := t) h
  | .nil, _, _, h => by rw [show _ = _ from h]; rfl

theorem cell?_congr {w w' : World} {a : Addr} (h : w'.heap[a.block]? = w.heap[a.block]?) : w'.cell? a = w.cell? a := by
  unfold World.cell?; rw [h]
theorem frozen?_congr {w w' : World} {a : Addr} (h : w'.heap[a.block]? = w.heap[a.block]?) : w'.frozen? a = w.frozen? a := by
  unfold World.frozen?; rw [h]
theorem add_block (a : Addr) (n : Nat) : (a.add n).block = a.block := by unfold Addr.add; split <;> rfl

theorem RelT.mono {F F' : Nat → Prop} {w w' : World} (hF : ∀ r, F r → F' r) (hw : ∀ r, F r → w'.heap[r]? = w.heap[r]?) :
    ∀ {t : Ty} {x : t.den} {cs : List Value}, RelT F w t x cs → RelT F' w' t x cs
  | .int _, _, _, h => h
  | .bool, _, _, h => h
  | .f64, _, _, h => h
  | .str, _, _, h => h
  | .slice t, l, cs, h => by
    obtain ⟨a, cap, e, hl, hc⟩ := h
    refine ⟨a, cap, e, hl, fun i x hx => ?_⟩
    obtain ⟨ad, ha, hb, c, hr, hcs⟩ := hc i x hx
    exact ⟨ad, ha, hF _ hb, c, RelT.mono hF hw hr, fun j v hj => by rw [← hcs j v hj]; exact cell?_congr (by rw [add_block]; exact hw _ hb)⟩
  | .pair a b, _, _, h => by
    obtain ⟨c, d, e, h1, h2⟩ := h
    exact ⟨c, d, e, RelT.mono hF hw h1, RelT.mono hF hw h2⟩
  | .agg t, x, cs, h => RelT.mono (t := t) hF hw h
  | .nil, _, _, h => h

/-- What kind of a block a number stands for. -/
inductive Kd where
  | none | dead
  | box
  | arr (t : Ty) (g len : Nat)
  | map (kt vt : Ty) (g : Nat)
  | siter
def kindOf : Blk → Kd
  | .gone => .dead
  | .box _ => .box
  | .arr t l g => .arr t g l.length
  | .map kt vt _ g => .map kt vt g
  | .siter _ _ => .siter

theorem kindOf_dead {b : Blk} (h : kindOf b = .dead) : b = .gone := by cases b <;> first | rfl | cases h
theorem kindOf_none {b : Blk} : kindOf b ≠ .none := by cases b <;> exact fun h => by cases h

/-- What is known of where memory lies: F: blocks that are not written any more; i: the block of a number (and its capacity); G: the numbers' kinds. -/
structure Gh where
  F : Nat → Prop
  i : Nat → Option (Nat × Nat)
  G : Nat → Kd

/-- An abstract value, and a value. -/
inductive RelV (g : Gh) (w : World) : AV → Value → Prop
  | undef (v) : RelV g w .undef v
  | int (k n) : RelV g w (.int k n) (.int k n)
  | bool (b) : RelV g w (.bool b) (.bool b)
  | str (s) : RelV g w (.str s) (.string s)
  | flt (b) : RelV g w (.flt b) (.float .f64 b)
  | vals (t l v) : RelT g.F w (.slice t) l [v] → RelV g w (.vals t l) v
  | nils : RelV g w .nils (.slice none 0 0)
  | lits (n sz cs a cap) (f : Nat → Value) : n ≤ cap → (n ≠ 0 → ∃ ad, a = some ad) → (∀ j c, cs[j]? = some c → ∃ ad, a = some ad ∧ g.F ad.block ∧ w.cell? (ad.add j) = some (f j)) →
      (∀ j c, cs[j]? = some c → RelV g w c (f j)) → RelV g w (.lits n sz cs) (.slice a n cap)
  | own (b k v) : g.G b ≠ .none → (∃ a n c, v = .slice a n c) → (∀ t k' n, g.G b = .arr t k' n → k ≤ k' ∧ (k = k' → ∃ a cap, v = .slice a n cap ∧ n ≤ cap ∧
      ((g.i b = none ∧ cap = 0) ∨ (∃ r, g.i b = some (r, cap) ∧ a = some ⟨r, 0, none⟩)))) → RelV g w (.own b k) v
  | sref (b off len k lim v) : g.G b ≠ .none → (∃ a cap, v = .slice a len cap) → (∀ t k' n, g.G b = .arr t k' n → k ≤ k' ∧ (k = k' → off + len ≤ n ∧ ∃ a cap, v = .slice a len cap ∧ len ≤ cap ∧ (lim = true → cap = len) ∧
      (len ≠ 0 → ∃ r c, g.i b = some (r, c) ∧ a = some ⟨r, off * t.size, none⟩))) → RelV g w (.sref b off len k lim) v
  | ptr (b i o k v) : g.G b ≠ .none → (∃ ad, v = .pointer (some ad)) → (∀ t k' n, g.G b = .arr t k' n → k ≤ k' ∧ (k = k' → ∃ r c, g.i b = some (r, c) ∧ v = .pointer (some ⟨r, i * t.size + o, none⟩))) →
      (g.G b = .box → i = 0 → ∃ r c, g.i b = some (r, c) ∧ v = .pointer (some ⟨r, o, none⟩)) →
      (g.G b = .siter → o = 0 → ∃ r c, g.i b = some (r, c) ∧ v = .pointer (some ⟨r, 0, none⟩)) → RelV g w (.ptr b i o k) v
  | cptr (cs ad) (f : Nat → Value) : (∀ j c, cs[j]? = some c → g.F ad.block ∧ w.cell? (ad.add j) = some (f j)) → (∀ j c, cs[j]? = some c → RelV g w c (f j)) → RelV g w (.cptr cs) (.pointer (some ad))
  | nilp : RelV g w .nilp (.pointer none)
  | map (b v) : g.G b ≠ .none → (∃ r, v = .map (some r)) → (∀ kt vt k, g.G b = .map kt vt k → ∃ r c, g.i b = some (r, c) ∧ v = .map (some r)) → RelV g w (.map b) v
  | nilmap : RelV g w .nilmap (.map none)
  | stamp (b i k v) : g.G b ≠ .none → (∃ n, v = .int .i64 n) → (∀ kt vt k', g.G b = .map kt vt k' → k ≤ k' ∧ (k = k' → ∃ r c es clock e, g.i b = some (r, c) ∧ w.heap[r]? = some (.map es clock) ∧ es[i]? = some e ∧ v = .int .i64 e.born)) → RelV g w (.stamp b i k) v
  | fn (f xs ys vs us) (fx fy : Nat → Value) : vs.size = xs.length → us.size = ys.length → (∀ j c, xs[j]? = some c → vs[j]? = some (fx j)) → (∀ j c, xs[j]? = some c → RelV g w c (fx j)) →
      (∀ j c, ys[j]? = some c → us[j]? = some (fy j)) → (∀ j c, ys[j]? = some c → RelV g w c (fy j)) → RelV g w (.fn f xs ys) (.func f vs us)
  | nilfn : RelV g w .nilfn .nilFunc
  | iface (t c v) : RelV g w c v → RelV g w (.iface t c) (.iface t v)
  | nili : RelV g w .nili .nilIface
  | agg (cs vs) (f : Nat → Value) : vs.size = cs.length → (∀ j c, cs[j]? = some c → vs[j]? = some (f j)) → (∀ j c, cs[j]? = some c → RelV g w c (f j)) → RelV g w (.agg cs) (.agg vs)
  | tup (cs vs) (f : Nat → Value) : vs.size = cs.length → (∀ j c, cs[j]? = some c → vs[j]? = some (f j)) → (∀ j c, cs[j]? = some c → RelV g w c (f j)) → RelV g w (.tup cs) (.tuple vs)

/-- Cells, one by one. -/
def RelC (g : Gh) (w : World) (cs : List AV) (vs : List Value) : Prop := vs.length = cs.length ∧ ∀ (j : Nat) (c : AV) (v : Value), cs[j]? = some c → vs[j]? = some v → RelV g w c v

/-- A block's contents. -/
def RelB (g : Gh) (w : World) (b : Nat) : Blk → Prop
  | .gone => True
  | .box cs => ∃ r c vs e, g.i b = some (r, c) ∧ w.heap[r]? = some (.cells vs e (0, 0)) ∧ RelC g w cs vs.toList
  | .arr t l _ => (g.i b = none ∧ l = []) ∨ ∃ r cap vs e, g.i b = some (r, cap) ∧ w.heap[r]? = some (.cells vs e (0, 0)) ∧ l.length ≤ cap ∧ cap * t.size ≤ vs.size ∧
      ∀ i x, l[i]? = some x → ∃ c, RelT g.F w t x c ∧ ∀ j v, c[j]? = some v → vs[i * t.size + j]? = some v
  | .map kt vt es _ => ∃ (r c : Nat) (ms : Array MapEntry) (clock : Nat), g.i b = some (r, c) ∧ w.heap[r]? = some (.map ms clock) ∧ ms.size = es.length ∧
      (∀ (i : Nat) (e : kt.den × vt.den) (m : MapEntry), es[i]? = some e → ms[i]? = some m → RelT g.F w kt e.1 m.key.cells.toList ∧ RelT g.F w vt e.2 m.val.cells.toList ∧ (kt.isAgg = false → m.key.cells = #[m.key]) ∧ (kt.isAgg = true → m.key = .agg m.key.cells) ∧ (vt.isAgg = false → m.val.cells = #[m.val]) ∧ (vt.isAgg = true → m.val = .agg m.val.cells) ∧ m.born < clock) ∧
      (∀ (i j : Nat) (m m' : MapEntry), ms[i]? = some m → ms[j]? = some m' → m.born = m'.born → i = j)
  | .siter s pos => ∃ r c, g.i b = some (r, c) ∧ w.heap[r]? = some (.stringIter s pos)

/-- The heap. -/
structure HRel (g : Gh) (H : Hp) (w : World) : Prop where
  blk : ∀ b, RelB g w b (H b)
  kd : ∀ b, (∀ h : H b = .gone, False) → g.G b = kindOf (H b)
  inj : ∀ b b' r c c', g.i b = some (r, c) → g.i b' = some (r, c') → g.G b ≠ .none → g.G b ≠ .dead → g.G b' ≠ .none → g.G b' ≠ .dead → b = b'
  disj : ∀ b r c, g.i b = some (r, c) → g.G b ≠ .none → g.G b ≠ .dead → ¬ g.F r ∧ r < w.heap.size
  ex : ∀ r, g.F r → r < w.heap.size

/-- What is not memory is as it was. -/
structure Env (w w' : World) : Prop where
  os : w'.os = w.os
  tape : w'.tape = w.tape
  output : w'.output = w.output
theorem Env.refl (w : World) : Env w w := ⟨rfl, rfl, rfl⟩
theorem Env.trans {a b c : World} (h : Env a b) (h' : Env b c) : Env a c := ⟨h'.os.trans h.os, h'.tape.trans h.tape, h'.output.trans h.output⟩

/-- What a step does to what is known: blocks D may be written (they are seen), new ones may come. -/
structure Ext (g : Gh) (H : Hp) (w : World) (D : List Nat) (g' : Gh) (H' : Hp) (w' : World) : Prop where
  mono : ∀ r, g.F r → g'.F r
  more : ∀ r, g'.F r → g.F r ∨ (∃ b ∈ D, g.G b ≠ .none ∧ ∃ c, g.i b = some (r, c)) ∨ w.heap.size ≤ r
  size : w.heap.size ≤ w'.heap.size
  frame : ∀ r, r < w.heap.size → (∀ b ∈ D, g.G b ≠ .none → ∀ c, g.i b ≠ some (r, c)) → w'.heap[r]? = w.heap[r]?
  seen : ∀ b ∈ D, g.G b ≠ .none → H b ≠ .gone
  same : ∀ b, g.G b ≠ .none → b ∉ D → g'.G b = g.G b ∧ g'.i b = g.i b ∧ H' b = H b
  moved : ∀ b ∈ D, g.G b ≠ .none → ∀ r c, g'.i b = some (r, c) → (∃ c', g.i b = some (r, c')) ∨ w.heap.size ≤ r
  turn : ∀ b ∈ D, g.G b ≠ .none → g'.G b = .dead ∨ (g.G b = .box ∧ g'.G b = .box ∧ g'.i b = g.i b) ∨ (g.G b = .siter ∧ g'.G b = .siter ∧ g'.i b = g.i b) ∨
    (∃ t k n, g.G b = .arr t k n ∧ g'.G b = .arr t k n ∧ g'.i b = g.i b) ∨ (∃ t k n k' n', g.G b = .arr t k n ∧ g'.G b = .arr t k' n' ∧ k < k') ∨
    (∃ kt vt k k', g.G b = .map kt vt k ∧ g'.G b = .map kt vt k' ∧ k < k' ∧ g'.i b = g.i b)
  fresh : ∀ b r c, g.G b = .none → g'.G b ≠ .none → g'.i b = some (r, c) → w.heap.size ≤ r ∨ ∃ b' ∈ D, g.G b' ≠ .none ∧ ∃ c', g.i b' = some (r, c')
  env : Env w w'

theorem Ext.refl (g : Gh) (H : Hp) (w : World) : Ext g H w [] g H w :=
  ⟨fun _ h => h, fun _ h => .inl h, Nat.le_refl _, fun _ _ _ => rfl, (fun _ h => by cases h), fun _ _ _ => ⟨rfl, rfl, rfl⟩, (fun _ h => by cases h), (fun _ h => by cases h), fun b r c h h' _ => absurd h h', .refl w⟩

theorem Ext.live {g g' : Gh} {H H' : Hp} {w w' : World} {D : List Nat} (h : Ext g H w D g' H' w') {b : Nat} (hb : g.G b ≠ .none) : g'.G b ≠ .none := by
  by_cases hd : b ∈ D
  · rcases h.turn b hd hb with h | ⟨_, h, _⟩ | ⟨_, h, _⟩ | ⟨t, k, n, _, h, _⟩ | ⟨t, k, n, k', n', _, h, _⟩ | ⟨kt, vt, k, k', _, h, _⟩ <;> rw [h] <;> exact fun h => by cases h
  · rw [(h.same b hb hd).1]; exact hb

theorem Ext.keepF {g g' : Gh} {H H' : Hp} {w w' : World} {D : List Nat} (h : Ext g H w D g' H' w') (hr : HRel g H w) : ∀ r, g.F r → w'.heap[r]? = w.heap[r]? := by
  intro r hF
  refine h.frame r (hr.ex r hF) fun b hb h1 c hi => ?_
  have hs := h.seen b hb h1
  have hk := hr.kd b (fun e => hs e)
  have h2 : g.G b ≠ .dead := by rw [hk]; exact fun e => hs (kindOf_dead e)
  exact (hr.disj b r c hi h1 h2).1 hF

theorem RelV.step {g g' : Gh} {H H' : Hp} {w w' : World} {D : List Nat} (h : Ext g H w D g' H' w') (hr : HRel g H w) {x : AV} {v : Value} (hx : RelV g w x v) : RelV g' w' x v := by
  have hF := h.keepF hr
  induction hx with
  | undef v => exact .undef v
  | int k n => exact .int k n
  | bool b => exact .bool b
  | str s => exact .str s
  | flt b => exact .flt b
  | vals t l v ht => exact .vals t l v (ht.mono h.mono hF)
  | nils => exact .nils
  | lits n sz cs a cap f hn hz hc _ ih =>
    exact .lits n sz cs a cap f hn hz (fun j c hj => by
      obtain ⟨ad, ha, hb, hw⟩ := hc j c hj
      exact ⟨ad, ha, h.mono _ hb, by rw [← hw]; exact cell?_congr (by rw [add_block]; exact hF _ hb)⟩) ih
  | own b k v hn hs ha =>
    refine .own b k v (h.live hn) hs fun t k' n hG => ?_
    by_cases hd : b ∈ D
    · rcases h.turn b hd hn with e | ⟨_, e, _⟩ | ⟨_, e, _⟩ | ⟨t', k2, n', e0, e, ei⟩ | ⟨t', k2, n', k3, n3, e0, e, hlt⟩ | ⟨kt, vt, k, k', _, e, _⟩ <;> rw [e] at hG <;> cases hG
      · rw [ei]; exact ha _ _ _ e0
      · have := (ha _ _ _ e0).1
        exact ⟨by omega, fun e => by omega⟩
    · obtain ⟨e1, e2, _⟩ := h.same b hn hd
      rw [e1] at hG; rw [e2]; exact ha _ _ _ hG
  | sref b off len k lim v hn hs ha =>
    refine .sref b off len k lim v (h.live hn) hs fun t k' n hG => ?_
    by_cases hd : b ∈ D
    · rcases h.turn b hd hn with e | ⟨_, e, _⟩ | ⟨_, e, _⟩ | ⟨t', k2, n', e0, e, ei⟩ | ⟨t', k2, n', k3, n3, e0, e, hlt⟩ | ⟨kt, vt, k, k', _, e, _⟩ <;> rw [e] at hG <;> cases hG
      · rw [ei]; exact ha _ _ _ e0
      · have := (ha _ _ _ e0).1
        exact ⟨by omega, fun e => by omega⟩
    · obtain ⟨e1, e2, _⟩ := h.same b hn hd
      rw [e1] at hG; rw [e2]; exact ha _ _ _ hG
  | ptr b i o k v hn hp ha hb hi =>
    by_cases hd : b ∈ D
    · rcases h.turn b hd hn with e | ⟨e0, e, ei⟩ | ⟨e0, e, ei⟩ | ⟨t', k2, n', e0, e, ei⟩ | ⟨t', k2, n', k3, n3, e0, e, hlt⟩ | ⟨kt, vt, k4, k5, _, e, _⟩ <;> refine .ptr b i o k v (h.live hn) hp (fun t k' n hG => ?_) (fun hG => ?_) (fun hG => ?_) <;> rw [e] at hG <;> first | cases hG | skip
      · rw [ei]; exact hb e0
      · rw [ei]; exact hi e0
      · rw [ei]; exact ha _ _ _ e0
      · have := (ha _ _ _ e0).1
        exact ⟨by omega, fun e => by omega⟩
    · obtain ⟨e1, e2, _⟩ := h.same b hn hd
      refine .ptr b i o k v (h.live hn) hp (fun t k' n hG => ?_) (fun hG => ?_) (fun hG => ?_) <;> rw [e1] at hG <;> rw [e2]
      · exact ha _ _ _ hG
      · exact hb hG
      · exact hi hG
  | cptr cs ad f hc _ ih =>
    exact .cptr cs ad f (fun j c hj => by
      obtain ⟨hb, hw⟩ := hc j c hj
      exact ⟨h.mono _ hb, by rw [← hw]; exact cell?_congr (by rw [add_block]; exact hF _ hb)⟩) ih
  | nilp => exact .nilp
  | map b v hn hp ha =>
    refine .map b v (h.live hn) hp fun kt vt k hG => ?_
    by_cases hd : b ∈ D
    · rcases h.turn b hd hn with e | ⟨_, e, _⟩ | ⟨_, e, _⟩ | ⟨t', k2, n', e0, e, ei⟩ | ⟨t', k2, n', k3, n3, e0, e, hlt⟩ | ⟨kt', vt', k1, k', e0, e, _, ei⟩ <;> rw [e] at hG <;> cases hG
      rw [ei]; exact ha _ _ _ e0
    · obtain ⟨e1, e2, _⟩ := h.same b hn hd
      rw [e1] at hG; rw [e2]; exact ha _ _ _ hG
  | nilmap => exact .nilmap
  | stamp b i k v hn hp ha =>
    refine .stamp b i k v (h.live hn) hp fun kt vt k' hG => ?_
    by_cases hd : b ∈ D
    · rcases h.turn b hd hn with e | ⟨_, e, _⟩ | ⟨_, e, _⟩ | ⟨t', k2, n', e0, e, ei⟩ | ⟨t', k2, n', k3, n3, e0, e, hlt⟩ | ⟨kt', vt', k1, k2, e0, e, hlt, ei⟩ <;> rw [e] at hG <;> cases hG
      have := (ha _ _ _ e0).1
      exact ⟨by omega, fun e => by omega⟩
    · obtain ⟨e1, e2, _⟩ := h.same b hn hd
      rw [e1] at hG; rw [e2]
      obtain ⟨h1, h2⟩ := ha _ _ _ hG
      refine ⟨h1, fun e => ?_⟩
      obtain ⟨r, c, es, clock, m, hi, hw, hm, hv⟩ := h2 e
      refine ⟨r, c, es, clock, m, hi, ?_, hm, hv⟩
      rw [← hw]
      have hd1 := hr.disj b r c hi hn (by rw [hG]; exact fun h => by cases h)
      refine h.frame r hd1.2 fun b' hb' h3 c' hi' => ?_
      have hs := h.seen b' hb' h3
      have hk := hr.kd b' (fun e => hs e)
      have h4 : g.G b' ≠ .dead := by rw [hk]; exact fun e => hs (kindOf_dead e)
      have := hr.inj b b' r c c' hi hi' hn (by rw [hG]; exact fun h => by cases h) h3 h4
      exact hd (this ▸ hb')
  | fn f xs ys vs us fx fy h1 h2 h3 _ h5 _ ih1 ih2 => exact .fn f xs ys vs us fx fy h1 h2 h3 ih1 h5 ih2
  | nilfn => exact .nilfn
  | iface t c v _ ih => exact .iface t c v ih
  | nili => exact .nili
  | agg cs vs f h1 h2 _ ih => exact .agg cs vs f h1 h2 ih
  | tup cs vs f h1 h2 _ ih => exact .tup cs vs f h1 h2 ih

end Go.VI

end
section
/- How the heap's relation goes on: a new block, a block written, a block that moves, blocks that are done with. -/
namespace Go.VI
set_option linter.unusedVariables false

theorem upd_same {α : Type} (f : Nat → α) (i : Nat) (v : α) : upd f i v i = v := by
  unfold upd
  rw [show Nat.beq i i = true from Nat.beq_refl i]; rfl
theorem upd_ne {α : Type} (f : Nat → α) {i j : Nat} (v : α) (h : j ≠ i) : upd f i v j = f j := by
  unfold upd
  rw [show Nat.beq j i = false from by
    cases e : Nat.beq j i with
    | false => rfl
    | true => exact absurd (Nat.eq_of_beq_eq_true e) h]; rfl

theorem br_some {α : Type} {b : Bool} {x y : Option α} {r : α} (h : br b x y = some r) : (b = true ∧ x = some r) ∨ (b = false ∧ y = some r) := by
  cases b
  · exact .inr ⟨rfl, h⟩
  · exact .inl ⟨rfl, h⟩
theorem br_none {α : Type} {b : Bool} {x : Option α} {r : α} (h : br b x none = some r) : b = true ∧ x = some r := by
  cases b
  · cases h
  · exact ⟨rfl, h⟩
theorem none_br {α : Type} {b : Bool} {x : Option α} {r : α} (h : br b none x = some r) : b = false ∧ x = some r := by
  cases b
  · exact ⟨rfl, h⟩
  · cases h

/-- Is a block of the heap in use? -/
theorem live_of {g : Gh} {H : Hp} {w : World} (hr : HRel g H w) {b : Nat} (h : H b ≠ .gone) : g.G b ≠ .none ∧ g.G b ≠ .dead := by
  have hk := hr.kd b (fun e => h e)
  exact ⟨by rw [hk]; exact kindOf_none, by rw [hk]; exact fun e => h (kindOf_dead e)⟩

/-- A block's memory that is not written stays. -/
theorem Ext.off {g g' : Gh} {H H' : Hp} {w w' : World} {D : List Nat} (h : Ext g H w D g' H' w') (hr : HRel g H w) {b r c : Nat} (hn : g.G b ≠ .none) (hd : g.G b ≠ .dead) (hb : b ∉ D) (hi : g.i b = some (r, c)) :
    w'.heap[r]? = w.heap[r]? := by
  refine h.frame r (hr.disj b r c hi hn hd).2 fun b' hb' h3 c' hi' => ?_
  obtain ⟨_, h4⟩ := live_of hr (h.seen b' hb' h3)
  have := hr.inj b b' r c c' hi hi' hn hd h3 h4
  exact hb (this ▸ hb')

theorem RelC.step {g g' : Gh} {H H' : Hp} {w w' : World} {D : List Nat} (h : Ext g H w D g' H' w') (hr : HRel g H w) {cs : List AV} {vs : List Value} (hc : RelC g w cs vs) : RelC g' w' cs vs :=
  ⟨hc.1, fun j c v h1 h2 => (hc.2 j c v h1 h2).step h hr⟩

theorem RelB.step {g g' : Gh} {H H' : Hp} {w w' : World} {D : List Nat} (h : Ext g H w D g' H' w') (hr : HRel g H w) {b : Nat} (hg : H b ≠ .gone) (hb : b ∉ D) : RelB g' w' b (H b) := by
  obtain ⟨hn, hd⟩ := live_of hr hg
  have hB := hr.blk b
  obtain ⟨_, ei, _⟩ := h.same b hn hb
  have hoff : ∀ r c, g.i b = some (r, c) → w'.heap[r]? = w.heap[r]? := fun r c hi => h.off hr hn hd hb hi
  cases hk : H b with
  | gone => exact trivial
  | box cs =>
    rw [hk] at hB
    obtain ⟨r, c, vs, e, h1, h2, h4⟩ := hB
    exact ⟨r, c, vs, e, by rw [ei, h1], by rw [hoff r c h1, h2], h4.step h hr⟩
  | arr t l k =>
    rw [hk] at hB
    rcases hB with ⟨h1, h2⟩ | ⟨r, cap, vs, e, h1, h2, h4, h5, h6⟩
    · exact .inl ⟨by rw [ei, h1], h2⟩
    · refine .inr ⟨r, cap, vs, e, by rw [ei, h1], by rw [hoff r cap h1, h2], h4, h5, fun i x hx => ?_⟩
      obtain ⟨c, hc, hv⟩ := h6 i x hx
      exact ⟨c, hc.mono h.mono (h.keepF hr), hv⟩
  | map kt vt es k =>
    rw [hk] at hB
    obtain ⟨r, c, ms, clock, h1, h2, h3, h4, h5⟩ := hB
    refine ⟨r, c, ms, clock, by rw [ei, h1], by rw [hoff r c h1, h2], h3, fun i e m he hm => ?_, h5⟩
    obtain ⟨a1, a2, a3⟩ := h4 i e m he hm
    exact ⟨a1.mono h.mono (h.keepF hr), a2.mono h.mono (h.keepF hr), a3⟩
  | siter s pos =>
    rw [hk] at hB
    obtain ⟨r, c, h1, h2⟩ := hB
    exact ⟨r, c, by rw [ei, h1], by rw [hoff r c h1, h2]⟩

/-- What comes of a step, and which numbers are new. -/
structure Went (g : Gh) (H : Hp) (w : World) (N : Nat → Prop) (v : AV) (H' : Hp) (D : List Nat) (u : Value) (w' : World) (g' : Gh) : Prop where
  ext : Ext g H w D g' H' w'
  rel : HRel g' H' w'
  val : RelV g' w' v u
  new : ∀ b, g.G b = .none → g'.G b ≠ .none → N b

theorem Went.same {g : Gh} {H : Hp} {w : World} {N : Nat → Prop} {v : AV} {u : Value} (hr : HRel g H w) (hv : RelV g w v u) : Went g H w N v H [] u w g :=
  ⟨.refl g H w, hr, hv, fun b h h' => absurd h h'⟩

/-- Only draws. -/
theorem HRel.heap {g : Gh} {H : Hp} {w w' : World} (h : w'.heap = w.heap) (hr : HRel g H w) (henv : Env w w' := by first | exact ⟨rfl, rfl, rfl⟩ | assumption) : Ext g H w [] g H w' ∧ HRel g H w' := by
  have he : Ext g H w [] g H w' := ⟨fun _ h => h, fun _ h => .inl h, by rw [h]; exact Nat.le_refl _, fun _ _ _ => by rw [h], (fun _ h => by cases h), fun _ _ _ => ⟨rfl, rfl, rfl⟩, (fun _ h => by cases h), (fun _ h => by cases h), fun b r c h h' _ => absurd h h', henv⟩
  refine ⟨he, fun b => ?_, hr.kd, hr.inj, fun b r c h1 h2 h3 => ?_, fun r hF => ?_⟩
  · by_cases hg : H b = .gone
    · rw [hg]; exact trivial
    · exact RelB.step he hr hg (fun h => by cases h)
  · rw [h]; exact hr.disj b r c h1 h2 h3
  · rw [h]; exact hr.ex r hF

/-- A new block of the heap, at the number nb. -/
def Gh.new (g : Gh) (nb : Nat) (k : Kd) (at_ : Option (Nat × Nat)) : Gh := ⟨g.F, upd g.i nb at_, upd g.G nb k⟩

theorem HRel.alloc {g : Gh} {H : Hp} {w w' : World} {nb cap : Nat} {o : Obj} {blk : Blk} (hr : HRel g H w) (hnb : g.G nb = .none) (hw : w'.heap = w.heap.push o) (hk : blk ≠ .gone)
    (hB : Ext g H w [] (g.new nb (kindOf blk) (some (w.heap.size, cap))) (upd H nb blk) w' → RelB (g.new nb (kindOf blk) (some (w.heap.size, cap))) w' nb blk) (henv : Env w w' := by first | exact ⟨rfl, rfl, rfl⟩ | assumption) :
    Ext g H w [] (g.new nb (kindOf blk) (some (w.heap.size, cap))) (upd H nb blk) w' ∧ HRel (g.new nb (kindOf blk) (some (w.heap.size, cap))) (upd H nb blk) w' ∧ (∀ b, g.G b = .none → (g.new nb (kindOf blk) (some (w.heap.size, cap))).G b ≠ .none → b = nb) := by
  have hne : ∀ b, g.G b ≠ .none → b ≠ nb := fun b hb e => hb (e ▸ hnb)
  have he : Ext g H w [] (g.new nb (kindOf blk) (some (w.heap.size, cap))) (upd H nb blk) w' := by
    refine ⟨fun _ h => h, fun _ h => .inl h, by rw [hw]; simp, fun r hlt _ => ?_, (fun _ h => by cases h), fun b hb _ => ?_, (fun _ h => by cases h), (fun _ h => by cases h), fun b r c h h' hi => ?_, henv⟩
    · rw [hw, Array.getElem?_push]
      rw [if_neg (by omega)]
    · exact ⟨upd_ne _ _ (hne b hb), upd_ne _ _ (hne b hb), upd_ne _ _ (hne b hb)⟩
    · by_cases e : b = nb
      · subst e
        have hi' : upd g.i b (some (w.heap.size, cap)) b = some (r, c) := hi
        rw [upd_same] at hi'
        cases hi'; exact .inl (Nat.le_refl _)
      · have h2 : upd g.G nb (kindOf blk) b ≠ .none := h'
        rw [upd_ne _ _ e] at h2
        exact absurd h h2
  refine ⟨he, ⟨fun b => ?_, fun b hb => ?_, fun b b' r c c' h1 h2 h3 h4 h5 h6 => ?_, fun b r c h1 h2 h3 => ?_, fun r hF => ?_⟩, fun b h h' => ?_⟩
  · by_cases e : b = nb
    · subst e; rw [upd_same]; exact hB he
    · rw [upd_ne _ _ e]
      by_cases hg : H b = .gone
      · rw [hg]; exact trivial
      · exact RelB.step he hr hg (fun h => by cases h)
  · show upd g.G nb (kindOf blk) b = _
    by_cases e : b = nb
    · subst e; rw [upd_same, upd_same]
    · rw [upd_ne _ _ e, upd_ne _ _ e]
      exact hr.kd b (fun h => hb (by rw [upd_ne _ _ e]; exact h))
  · have h1' : upd g.i nb (some (w.heap.size, cap)) b = some (r, c) := h1
    have h2' : upd g.i nb (some (w.heap.size, cap)) b' = some (r, c') := h2
    have k3 : upd g.G nb (kindOf blk) b ≠ .none := h3
    have k4 : upd g.G nb (kindOf blk) b ≠ .dead := h4
    have k5 : upd g.G nb (kindOf blk) b' ≠ .none := h5
    have k6 : upd g.G nb (kindOf blk) b' ≠ .dead := h6
    by_cases e : b = nb
    · by_cases e' : b' = nb
      · rw [e, e']
      · subst e
        rw [upd_same] at h1'; rw [upd_ne _ _ e'] at h2' k5 k6
        cases h1'
        have := (hr.disj b' _ _ h2' k5 k6).2
        omega
    · by_cases e' : b' = nb
      · subst e'
        rw [upd_same] at h2'; rw [upd_ne _ _ e] at h1' k3 k4
        cases h2'
        have := (hr.disj b _ _ h1' k3 k4).2
        omega
      · rw [upd_ne _ _ e] at h1' k3 k4; rw [upd_ne _ _ e'] at h2' k5 k6
        exact hr.inj b b' r c c' h1' h2' k3 k4 k5 k6
  · have h1' : upd g.i nb (some (w.heap.size, cap)) b = some (r, c) := h1
    have k3 : upd g.G nb (kindOf blk) b ≠ .none := h2
    have k4 : upd g.G nb (kindOf blk) b ≠ .dead := h3
    show ¬ g.F r ∧ _
    rw [hw]; simp only [Array.size_push]
    by_cases e : b = nb
    · subst e
      rw [upd_same] at h1'; cases h1'
      exact ⟨fun hF => by have := hr.ex _ hF; omega, by omega⟩
    · rw [upd_ne _ _ e] at h1' k3 k4
      have := hr.disj b r c h1' k3 k4
      exact ⟨this.1, by omega⟩
  · have : g.F r := hF
    have := hr.ex r this
    rw [hw]; simp only [Array.size_push]; omega
  · have h' : upd g.G nb (kindOf blk) b ≠ .none := h'
    by_cases e : b = nb
    · exact e
    · rw [upd_ne _ _ e] at h'; exact absurd h h'

/-- A new block that has no memory yet. -/
theorem HRel.allocNil {g : Gh} {H : Hp} {w w' : World} {nb : Nat} {t : Ty} (hr : HRel g H w) (hnb : g.G nb = .none) (hw : w'.heap = w.heap) (henv : Env w w' := by first | exact ⟨rfl, rfl, rfl⟩ | assumption) :
    Ext g H w [] (g.new nb (.arr t 0 0) none) (upd H nb (.arr t [] 0)) w' ∧ HRel (g.new nb (.arr t 0 0) none) (upd H nb (.arr t [] 0)) w' ∧ (∀ b, g.G b = .none → (g.new nb (.arr t 0 0) none).G b ≠ .none → b = nb) := by
  have hne : ∀ b, g.G b ≠ .none → b ≠ nb := fun b hb e => hb (e ▸ hnb)
  have he : Ext g H w [] (g.new nb (.arr t 0 0) none) (upd H nb (.arr t [] 0)) w' := by
    refine ⟨fun _ h => h, fun _ h => .inl h, by rw [hw]; simp, fun r hlt _ => by rw [hw], (fun _ h => by cases h), fun b hb _ => ?_, (fun _ h => by cases h), (fun _ h => by cases h), fun b r c h h' hi => ?_, henv⟩
    · exact ⟨upd_ne _ _ (hne b hb), upd_ne _ _ (hne b hb), upd_ne _ _ (hne b hb)⟩
    · by_cases e : b = nb
      · subst e
        have hi' : upd g.i b none b = some (r, c) := hi
        rw [upd_same] at hi'
        cases hi'
      · have h2 : upd g.G nb (.arr t 0 0) b ≠ .none := h'
        rw [upd_ne _ _ e] at h2
        exact absurd h h2
  refine ⟨he, ⟨fun b => ?_, fun b hb => ?_, fun b b' r c c' h1 h2 h3 h4 h5 h6 => ?_, fun b r c h1 h2 h3 => ?_, fun r hF => ?_⟩, fun b h h' => ?_⟩
  · by_cases e : b = nb
    · subst e; rw [upd_same]; exact .inl ⟨upd_same _ _ _, rfl⟩
    · rw [upd_ne _ _ e]
      by_cases hg : H b = .gone
      · rw [hg]; exact trivial
      · exact RelB.step he hr hg (fun h => by cases h)
  · show upd g.G nb (.arr t 0 0) b = _
    by_cases e : b = nb
    · subst e; rw [upd_same, upd_same]; rfl
    · rw [upd_ne _ _ e, upd_ne _ _ e]
      exact hr.kd b (fun h => hb (by rw [upd_ne _ _ e]; exact h))
  · have h1' : upd g.i nb none b = some (r, c) := h1
    have h2' : upd g.i nb none b' = some (r, c') := h2
    have k3 : upd g.G nb (.arr t 0 0) b ≠ .none := h3
    have k4 : upd g.G nb (.arr t 0 0) b ≠ .dead := h4
    have k5 : upd g.G nb (.arr t 0 0) b' ≠ .none := h5
    have k6 : upd g.G nb (.arr t 0 0) b' ≠ .dead := h6
    by_cases e : b = nb
    · subst e; rw [upd_same] at h1'; cases h1'
    · by_cases e' : b' = nb
      · subst e'; rw [upd_same] at h2'; cases h2'
      · rw [upd_ne _ _ e] at h1' k3 k4; rw [upd_ne _ _ e'] at h2' k5 k6
        exact hr.inj b b' r c c' h1' h2' k3 k4 k5 k6
  · have h1' : upd g.i nb none b = some (r, c) := h1
    have k3 : upd g.G nb (.arr t 0 0) b ≠ .none := h2
    have k4 : upd g.G nb (.arr t 0 0) b ≠ .dead := h3
    show ¬ g.F r ∧ _
    rw [hw]
    by_cases e : b = nb
    · subst e; rw [upd_same] at h1'; cases h1'
    · rw [upd_ne _ _ e] at h1' k3 k4
      exact hr.disj b r c h1' k3 k4
  · have : g.F r := hF
    rw [hw]; exact hr.ex r this
  · have h' : upd g.G nb (.arr t 0 0) b ≠ .none := h'
    by_cases e : b = nb
    · exact e
    · rw [upd_ne _ _ e] at h'; exact absurd h h'

/-- Block b is written, where it lies. -/
theorem HRel.write {g : Gh} {H : Hp} {w w' : World} {b r c : Nat} {blk : Blk} (hr : HRel g H w) (hs : H b ≠ .gone) (hi : g.i b = some (r, c)) (hk : blk ≠ .gone)
    (hsz : w'.heap.size = w.heap.size) (hoff : ∀ r', r' ≠ r → w'.heap[r']? = w.heap[r']?)
    (hturn : (g.G b = .box ∧ kindOf blk = .box) ∨ (g.G b = .siter ∧ kindOf blk = .siter) ∨ (∃ t k n, g.G b = .arr t k n ∧ kindOf blk = .arr t k n) ∨ (∃ t k n k' n', g.G b = .arr t k n ∧ kindOf blk = .arr t k' n' ∧ k < k') ∨ (∃ kt vt k k', g.G b = .map kt vt k ∧ kindOf blk = .map kt vt k' ∧ k < k'))
    (hB : Ext g H w [b] ⟨g.F, g.i, upd g.G b (kindOf blk)⟩ (upd H b blk) w' → RelB ⟨g.F, g.i, upd g.G b (kindOf blk)⟩ w' b blk) (henv : Env w w' := by first | exact ⟨rfl, rfl, rfl⟩ | assumption) :
    Ext g H w [b] ⟨g.F, g.i, upd g.G b (kindOf blk)⟩ (upd H b blk) w' ∧ HRel ⟨g.F, g.i, upd g.G b (kindOf blk)⟩ (upd H b blk) w' ∧ (∀ b', g.G b' = .none → (⟨g.F, g.i, upd g.G b (kindOf blk)⟩ : Gh).G b' ≠ .none → False) := by
  obtain ⟨hn, hd⟩ := live_of hr hs
  have hG : ∀ b', (upd g.G b (kindOf blk) b' ≠ .none ∧ upd g.G b (kindOf blk) b' ≠ .dead) → g.G b' ≠ .none ∧ g.G b' ≠ .dead := fun b' h => by
    by_cases e : b' = b
    · subst e; exact ⟨hn, hd⟩
    · rw [upd_ne _ _ e] at h; exact h
  have he : Ext g H w [b] ⟨g.F, g.i, upd g.G b (kindOf blk)⟩ (upd H b blk) w' := by
    refine ⟨fun _ h => h, fun _ h => .inl h, by omega, fun r' _ h => ?_, fun b' hb' _ => ?_, fun b' hb' hm => ?_, fun b' hb' _ r' c' h => .inl ⟨c', h⟩, fun b' hb' _ => ?_, fun b' r' c' h h' hi' => ?_, henv⟩
    · refine hoff r' fun e => h b (List.mem_singleton.2 rfl) hn c ?_
      rw [e]; exact hi
    · rw [List.mem_singleton] at hb'; subst hb'; exact hs
    · have e : b' ≠ b := fun e => hm (List.mem_singleton.2 e)
      exact ⟨upd_ne _ _ e, rfl, upd_ne _ _ e⟩
    · rw [List.mem_singleton] at hb'; subst hb'
      have e0 : ∀ {k : Kd}, kindOf blk = k → upd g.G b' (kindOf blk) b' = k := fun h => (upd_same _ _ _).trans h
      rcases hturn with ⟨a1, a2⟩ | ⟨a1, a2⟩ | ⟨t, k, n, a1, a2⟩ | ⟨t, k, n, k', n', a1, a2, a3⟩ | ⟨kt, vt, k, k', a1, a2, a3⟩
      · exact .inr (.inl ⟨a1, e0 a2, rfl⟩)
      · exact .inr (.inr (.inl ⟨a1, e0 a2, rfl⟩))
      · exact .inr (.inr (.inr (.inl ⟨t, k, n, a1, e0 a2, rfl⟩)))
      · exact .inr (.inr (.inr (.inr (.inl ⟨t, k, n, k', n', a1, e0 a2, a3⟩))))
      · exact .inr (.inr (.inr (.inr (.inr ⟨kt, vt, k, k', a1, e0 a2, a3, rfl⟩))))
    · have h' : upd g.G b (kindOf blk) b' ≠ .none := h'
      by_cases e : b' = b
      · subst e; exact absurd h hn
      · rw [upd_ne _ _ e] at h'; exact absurd h h'
  refine ⟨he, ⟨fun b' => ?_, fun b' hb => ?_, fun b1 b2 r1 c1 c2 h1 h2 h3 h4 h5 h6 => ?_, fun b1 r1 c1 h1 h2 h3 => ?_, fun r' hF => ?_⟩, fun b' h h' => ?_⟩
  · by_cases e : b' = b
    · subst e; rw [upd_same]; exact hB he
    · rw [upd_ne _ _ e]
      by_cases hg : H b' = .gone
      · rw [hg]; exact trivial
      · exact RelB.step he hr hg (fun h => e (List.mem_singleton.1 h))
  · show upd g.G b (kindOf blk) b' = _
    by_cases e : b' = b
    · subst e; rw [upd_same, upd_same]
    · rw [upd_ne _ _ e, upd_ne _ _ e]
      exact hr.kd b' (fun h => hb (by rw [upd_ne _ _ e]; exact h))
  · obtain ⟨k3, k4⟩ := hG b1 ⟨h3, h4⟩
    obtain ⟨k5, k6⟩ := hG b2 ⟨h5, h6⟩
    exact hr.inj b1 b2 r1 c1 c2 h1 h2 k3 k4 k5 k6
  · obtain ⟨k3, k4⟩ := hG b1 ⟨h2, h3⟩
    have := hr.disj b1 r1 c1 h1 k3 k4
    exact ⟨this.1, by omega⟩
  · have : g.F r' := hF
    have := hr.ex r' this
    omega
  · have h' : upd g.G b (kindOf blk) b' ≠ .none := h'
    by_cases e : b' = b
    · subst e; exact hn h
    · rw [upd_ne _ _ e] at h'; exact h' h

/-- Row b moves to a new block. -/
theorem HRel.move {g : Gh} {H : Hp} {w w' : World} {b cap : Nat} {o : Obj} {t : Ty} {l l' : List t.den} {k k' : Nat} (hr : HRel g H w) (hs : H b = .arr t l k) (hw : w'.heap = w.heap.push o) (hlt : k < k')
    (hB : Ext g H w [b] ⟨g.F, upd g.i b (some (w.heap.size, cap)), upd g.G b (.arr t k' l'.length)⟩ (upd H b (.arr t l' k')) w' → RelB ⟨g.F, upd g.i b (some (w.heap.size, cap)), upd g.G b (.arr t k' l'.length)⟩ w' b (.arr t l' k')) (henv : Env w w' := by first | exact ⟨rfl, rfl, rfl⟩ | assumption) :
    Ext g H w [b] ⟨g.F, upd g.i b (some (w.heap.size, cap)), upd g.G b (.arr t k' l'.length)⟩ (upd H b (.arr t l' k')) w' ∧ HRel ⟨g.F, upd g.i b (some (w.heap.size, cap)), upd g.G b (.arr t k' l'.length)⟩ (upd H b (.arr t l' k')) w' ∧
      (∀ b', g.G b' = .none → (⟨g.F, upd g.i b (some (w.heap.size, cap)), upd g.G b (.arr t k' l'.length)⟩ : Gh).G b' ≠ .none → False) := by
  have hs' : H b ≠ .gone := by rw [hs]; exact fun h => by cases h
  obtain ⟨hn, hd⟩ := live_of hr hs'
  have hGb : g.G b = .arr t k l.length := by rw [hr.kd b (fun e => hs' e), hs]; rfl
  have hG : ∀ b', (upd g.G b (.arr t k' l'.length) b' ≠ .none ∧ upd g.G b (.arr t k' l'.length) b' ≠ .dead) → g.G b' ≠ .none ∧ g.G b' ≠ .dead := fun b' h => by
    by_cases e : b' = b
    · subst e; exact ⟨hn, hd⟩
    · rw [upd_ne _ _ e] at h; exact h
  have he : Ext g H w [b] ⟨g.F, upd g.i b (some (w.heap.size, cap)), upd g.G b (.arr t k' l'.length)⟩ (upd H b (.arr t l' k')) w' := by
    refine ⟨fun _ h => h, fun _ h => .inl h, by rw [hw]; simp, fun r' hlt' h => ?_, fun b' hb' _ => ?_, fun b' hb' hm => ?_, fun b' hb' _ r' c' h => ?_, fun b' hb' _ => ?_, fun b' r' c' h h' hi' => ?_, henv⟩
    · rw [hw, Array.getElem?_push, if_neg (by omega)]
    · rw [List.mem_singleton] at hb'; subst hb'; exact hs'
    · have e : b' ≠ b := fun e => hm (List.mem_singleton.2 e)
      exact ⟨upd_ne _ _ e, upd_ne _ _ e, upd_ne _ _ e⟩
    · rw [List.mem_singleton] at hb'; subst hb'
      have h : upd g.i b' (some (w.heap.size, cap)) b' = some (r', c') := h
      rw [upd_same] at h; cases h
      exact .inr (Nat.le_refl _)
    · rw [List.mem_singleton] at hb'; subst hb'
      exact .inr (.inr (.inr (.inr (.inl ⟨t, k, l.length, k', l'.length, hGb, upd_same _ _ _, hlt⟩))))
    · have h' : upd g.G b (.arr t k' l'.length) b' ≠ .none := h'
      by_cases e : b' = b
      · subst e; exact absurd h hn
      · rw [upd_ne _ _ e] at h'; exact absurd h h'
  refine ⟨he, ⟨fun b' => ?_, fun b' hb => ?_, fun b1 b2 r1 c1 c2 h1 h2 h3 h4 h5 h6 => ?_, fun b1 r1 c1 h1 h2 h3 => ?_, fun r' hF => ?_⟩, fun b' h h' => ?_⟩
  · by_cases e : b' = b
    · subst e; rw [upd_same]; exact hB he
    · rw [upd_ne _ _ e]
      by_cases hg : H b' = .gone
      · rw [hg]; exact trivial
      · exact RelB.step he hr hg (fun h => e (List.mem_singleton.1 h))
  · show upd g.G b (.arr t k' l'.length) b' = _
    by_cases e : b' = b
    · subst e; rw [upd_same, upd_same]; rfl
    · rw [upd_ne _ _ e, upd_ne _ _ e]
      exact hr.kd b' (fun h => hb (by rw [upd_ne _ _ e]; exact h))
  · obtain ⟨k3, k4⟩ := hG b1 ⟨h3, h4⟩
    obtain ⟨k5, k6⟩ := hG b2 ⟨h5, h6⟩
    have h1' : upd g.i b (some (w.heap.size, cap)) b1 = some (r1, c1) := h1
    have h2' : upd g.i b (some (w.heap.size, cap)) b2 = some (r1, c2) := h2
    by_cases e : b1 = b
    · by_cases e' : b2 = b
      · rw [e, e']
      · subst e
        rw [upd_same] at h1'; rw [upd_ne _ _ e'] at h2'
        cases h1'
        have := (hr.disj b2 _ _ h2' k5 k6).2
        omega
    · by_cases e' : b2 = b
      · subst e'
        rw [upd_same] at h2'; rw [upd_ne _ _ e] at h1'
        cases h2'
        have := (hr.disj b1 _ _ h1' k3 k4).2
        omega
      · rw [upd_ne _ _ e] at h1'; rw [upd_ne _ _ e'] at h2'
        exact hr.inj b1 b2 r1 c1 c2 h1' h2' k3 k4 k5 k6
  · obtain ⟨k3, k4⟩ := hG b1 ⟨h2, h3⟩
    have h1' : upd g.i b (some (w.heap.size, cap)) b1 = some (r1, c1) := h1
    show ¬ g.F r1 ∧ _
    rw [hw]; simp only [Array.size_push]
    by_cases e : b1 = b
    · subst e
      rw [upd_same] at h1'; cases h1'
      exact ⟨fun hF => by have := hr.ex _ hF; omega, by omega⟩
    · rw [upd_ne _ _ e] at h1'
      have := hr.disj b1 r1 c1 h1' k3 k4
      exact ⟨this.1, by omega⟩
  · have : g.F r' := hF
    have := hr.ex r' this
    rw [hw]; simp only [Array.size_push]; omega
  · have h' : upd g.G b (.arr t k' l'.length) b' ≠ .none := h'
    by_cases e : b' = b
    · subst e; exact hn h
    · rw [upd_ne _ _ e] at h'; exact h' h


/-- A row's start, under a new number: the old one is given up. -/
theorem HRel.reown {g : Gh} {H : Hp} {w : World} {nb b k : Nat} {t : Ty} {l l' : List t.den} {at' : Option (Nat × Nat)} (hr : HRel g H w) (hnb : g.G nb = .none) (hb : H b = .arr t l k)
    (hat : (at' = none ∧ l' = []) ∨ ∃ r cap c', g.i b = some (r, cap) ∧ at' = some (r, c') ∧ c' ≤ cap ∧ l'.length ≤ c' ∧ ∀ (i : Nat) (x : t.den), l'[i]? = some x → l[i]? = some x) :
    Ext g H w [b] ⟨g.F, upd g.i nb at', upd (upd g.G b .dead) nb (.arr t 0 l'.length)⟩ (upd (upd H b .gone) nb (.arr t l' 0)) w ∧ HRel ⟨g.F, upd g.i nb at', upd (upd g.G b .dead) nb (.arr t 0 l'.length)⟩ (upd (upd H b .gone) nb (.arr t l' 0)) w ∧
      ∀ b', g.G b' = .none → (upd (upd g.G b .dead) nb (.arr t 0 l'.length)) b' ≠ .none → b' = nb := by
  have hs : H b ≠ .gone := by rw [hb]; exact fun h => by cases h
  obtain ⟨hbn, hbd⟩ := live_of hr hs
  have hne : b ≠ nb := fun e => hbn (e ▸ hnb)
  have hne' : ∀ x, g.G x ≠ .none → x ≠ nb := fun x hx e => hx (e ▸ hnb)
  have gG : ∀ {x}, x ≠ nb → x ≠ b → upd (upd g.G b .dead) nb (.arr t 0 l'.length) x = g.G x := fun {x} h1 h2 => by rw [upd_ne _ _ h1, upd_ne _ _ h2]
  have gB : upd (upd g.G b .dead) nb (.arr t 0 l'.length) b = .dead := by rw [upd_ne _ _ hne, upd_same]
  have hH : ∀ {x}, x ≠ nb → x ≠ b → upd (upd H b .gone) nb (.arr t l' 0) x = H x := fun {x} h1 h2 => by rw [upd_ne _ _ h1, upd_ne _ _ h2]
  have he : Ext g H w [b] ⟨g.F, upd g.i nb at', upd (upd g.G b .dead) nb (.arr t 0 l'.length)⟩ (upd (upd H b .gone) nb (.arr t l' 0)) w := by
    refine ⟨fun _ h => h, fun _ h => .inl h, Nat.le_refl _, fun _ _ _ => rfl, fun x hx _ => by rw [List.mem_singleton.1 hx]; exact hs, fun x hx hxb => ?_, fun x hx hn r c hi => ?_, fun x hx hn => ?_, fun x r c h h' hi => ?_, .refl w⟩
    · have h1 : x ≠ b := fun e => hxb (by rw [e]; exact List.mem_singleton.2 rfl)
      exact ⟨gG (hne' x hx) h1, upd_ne _ _ (hne' x hx), hH (hne' x hx) h1⟩
    · have hi' : upd g.i nb at' x = some (r, c) := hi
      rw [upd_ne _ _ (hne' x hn)] at hi'
      exact .inl ⟨c, hi'⟩
    · rw [List.mem_singleton.1 hx]; exact .inl gB
    · by_cases e : x = nb
      · subst e
        have hi' : upd g.i x at' x = some (r, c) := hi
        rw [upd_same] at hi'
        rcases hat with ⟨e, _⟩ | ⟨r', cap, c', e1, e2, _⟩
        · rw [hi'] at e; cases e
        · rw [hi'] at e2; cases e2
          exact .inr ⟨b, List.mem_singleton.2 rfl, hbn, cap, e1⟩
      · have h2 : upd (upd g.G b .dead) nb (.arr t 0 l'.length) x ≠ .none := h'
        by_cases e2 : x = b
        · subst e2; exact absurd h hbn
        · rw [gG e e2] at h2; exact absurd h h2
  -- where a block that lives lay
  have src : ∀ x r c, upd g.i nb at' x = some (r, c) → upd (upd g.G b .dead) nb (.arr t 0 l'.length) x ≠ .none → upd (upd g.G b .dead) nb (.arr t 0 l'.length) x ≠ .dead → ∃ y c2, g.i y = some (r, c2) ∧ g.G y ≠ .none ∧ g.G y ≠ .dead ∧ ((x = nb ∧ y = b) ∨ (x = y ∧ x ≠ b ∧ x ≠ nb)) := by
    intro x r c hi h1 h2
    by_cases e : x = nb
    · subst e
      rw [upd_same] at hi
      rcases hat with ⟨e, _⟩ | ⟨r', cap, c', e1, e2, _⟩
      · rw [hi] at e; cases e
      · rw [hi] at e2; cases e2
        exact ⟨b, cap, e1, hbn, hbd, .inl ⟨rfl, rfl⟩⟩
    · by_cases e2 : x = b
      · subst e2; exact absurd gB h2
      · rw [upd_ne _ _ e] at hi
        rw [gG e e2] at h1 h2
        exact ⟨x, c, hi, h1, h2, .inr ⟨rfl, e2, e⟩⟩
  refine ⟨he, ⟨fun x => ?_, fun x hx => ?_, fun x x' r c c' h1 h2 h3 h4 h5 h6 => ?_, fun x r c h1 h2 h3 => ?_, hr.ex⟩, fun x h h' => ?_⟩
  · by_cases e : x = nb
    · subst e
      rw [upd_same]
      rcases hat with ⟨e1, e2⟩ | ⟨r', cap, c', e1, e2, e3, e4, e5⟩
      · exact .inl ⟨by show upd g.i x at' x = none; rw [upd_same, e1], e2⟩
      · have hB := hr.blk b
        rw [hb] at hB
        rcases hB with ⟨h1, _⟩ | ⟨r2, cap2, vs, e, h1, h2, h3, h4, h5⟩
        · rw [e1] at h1; cases h1
        · rw [e1] at h1; cases h1
          exact .inr ⟨_, c', vs, e, by show upd g.i x at' x = _; rw [upd_same, e2], h2, e4, Nat.le_trans (Nat.mul_le_mul_right _ e3) h4, fun i y hy => h5 i y (e5 i y hy)⟩
    · by_cases e2 : x = b
      · subst e2; rw [upd_ne _ _ e, upd_same]; exact trivial
      · rw [hH e e2]
        by_cases hg : H x = .gone
        · rw [hg]; exact trivial
        · exact RelB.step he hr hg fun h => e2 (List.mem_singleton.1 h)
  · show upd (upd g.G b .dead) nb (.arr t 0 l'.length) x = _
    by_cases e : x = nb
    · subst e; rw [upd_same, upd_same]; rfl
    · by_cases e2 : x = b
      · subst e2; exact (hx (by rw [upd_ne _ _ e, upd_same])).elim
      · rw [gG e e2, hH e e2]; exact hr.kd x fun h => hx (by rw [hH e e2]; exact h)
  · obtain ⟨y, c2, a1, a2, a3, a4⟩ := src x r c h1 h3 h4
    obtain ⟨y', c3, b1, b2, b3, b4⟩ := src x' r c' h2 h5 h6
    have := hr.inj y y' r c2 c3 a1 b1 a2 a3 b2 b3
    subst this
    rcases a4 with ⟨rfl, rfl⟩ | ⟨rfl, q1, q2⟩ <;> rcases b4 with ⟨rfl, q⟩ | ⟨rfl, q3, q4⟩
    · rfl
    · exact absurd rfl q3
    · exact absurd q q1
    · rfl
  · obtain ⟨y, c2, a1, a2, a3, _⟩ := src x r c h1 h2 h3
    exact hr.disj y r c2 a1 a2 a3
  · by_cases e : x = nb
    · exact e
    · by_cases e2 : x = b
      · subst e2; exact absurd h hbn
      · rw [gG e e2] at h'; exact absurd h h'

theorem Ext.trans {g g1 g2 : Gh} {H H1 H2 : Hp} {w w1 w2 : World} {D D1 : List Nat} (h : Ext g H w D g1 H1 w1) (h1 : Ext g1 H1 w1 D1 g2 H2 w2) (hr1 : HRel g1 H1 w1) : Ext g H w (D1 ++ D) g2 H2 w2 := by
  have back1 : ∀ b r c, g.G b ≠ .none → g1.i b = some (r, c) → (∃ c', g.i b = some (r, c')) ∨ w.heap.size ≤ r := by
    intro b r c hn hi
    by_cases hd : b ∈ D
    · exact h.moved b hd hn r c hi
    · rw [(h.same b hn hd).2.1] at hi
      exact .inl ⟨c, hi⟩
  have back : ∀ b r c, g1.G b ≠ .none → g1.i b = some (r, c) → (g.G b ≠ .none ∧ ∃ c', g.i b = some (r, c')) ∨ (∃ b' ∈ D, g.G b' ≠ .none ∧ ∃ c', g.i b' = some (r, c')) ∨ w.heap.size ≤ r := by
    intro b r c hb hi
    by_cases hn : g.G b = .none
    · rcases h.fresh b r c hn hb hi with e | e
      · exact .inr (.inr e)
      · exact .inr (.inl e)
    · rcases back1 b r c hn hi with e | e
      · exact .inl ⟨hn, e⟩
      · exact .inr (.inr e)
  refine ⟨fun r hF => h1.mono r (h.mono r hF), fun r hF => ?_, Nat.le_trans h.size h1.size, fun r hlt hd => ?_, fun b hb hn => ?_, fun b hn hd => ?_, fun b hb hn r c hi => ?_, fun b hb hn => ?_, fun b r c hn hb hi => ?_, h.env.trans h1.env⟩
  · rcases h1.more r hF with hF | ⟨b, hb, hn, c, hi⟩ | hle
    · rcases h.more r hF with hF | ⟨b, hb, hn, c, hi⟩ | hle
      · exact .inl hF
      · exact .inr (.inl ⟨b, List.mem_append.2 (.inr hb), hn, c, hi⟩)
      · exact .inr (.inr hle)
    · rcases back b r c hn hi with ⟨hn', c', hi'⟩ | ⟨b', hb', e⟩ | hle
      · exact .inr (.inl ⟨b, List.mem_append.2 (.inl hb), hn', c', hi'⟩)
      · exact .inr (.inl ⟨b', List.mem_append.2 (.inr hb'), e⟩)
      · exact .inr (.inr hle)
    · exact .inr (.inr (Nat.le_trans h.size hle))
  · rw [← h.frame r hlt (fun b hb hn c hi => hd b (List.mem_append.2 (.inr hb)) hn c hi)]
    refine h1.frame r (Nat.lt_of_lt_of_le hlt h.size) fun b hb hn c hi => ?_
    rcases back b r c hn hi with ⟨hn', c', hi'⟩ | ⟨b', hb', hn', c', hi'⟩ | hle
    · exact hd b (List.mem_append.2 (.inl hb)) hn' c' hi'
    · exact hd b' (List.mem_append.2 (.inr hb')) hn' c' hi'
    · omega
  · by_cases hD : b ∈ D
    · exact h.seen b hD hn
    · rcases List.mem_append.1 hb with hb | hb
      · have := h1.seen b hb (h.live hn)
        rw [(h.same b hn hD).2.2] at this; exact this
      · exact absurd hb hD
  · have e1 := h.same b hn (fun hb => hd (List.mem_append.2 (.inr hb)))
    have e2 := h1.same b (h.live hn) (fun hb => hd (List.mem_append.2 (.inl hb)))
    exact ⟨by rw [e2.1, e1.1], by rw [e2.2.1, e1.2.1], by rw [e2.2.2, e1.2.2]⟩
  · by_cases hD1 : b ∈ D1
    · rcases h1.moved b hD1 (h.live hn) r c hi with ⟨c', hi'⟩ | hle
      · exact back1 b r c' hn hi'
      · exact .inr (Nat.le_trans h.size hle)
    · rw [(h1.same b (h.live hn) hD1).2.1] at hi
      exact back1 b r c hn hi
  · by_cases hD : b ∈ D
    · by_cases hD1 : b ∈ D1
      · have t1 := h.turn b hD hn
        have t2 := h1.turn b hD1 (h.live hn)
        have hs := h1.seen b hD1 (h.live hn)
        have hk := hr1.kd b (fun e => hs e)
        have hnd : g1.G b ≠ .dead := by rw [hk]; exact fun e => hs (kindOf_dead e)
        rcases t2 with e | ⟨e0, e, ei⟩ | ⟨e0, e, ei⟩ | ⟨t', k2, n', e0, e, ei⟩ | ⟨t', k2, n', k3, n3, e0, e, hlt⟩ | ⟨kt, vt, k, k', e0, e, hlt, ei⟩
        · exact .inl e
        all_goals rcases t1 with f | ⟨f0, f, fi⟩ | ⟨f0, f, fi⟩ | ⟨t1, q2, m', f0, f, fi⟩ | ⟨t1, q2, m', q3, m3, f0, f, flt⟩ | ⟨kt1, vt1, q, q', f0, f, flt, fi⟩
        all_goals first
          | (exact absurd f hnd)
          | (rw [f] at e0; cases e0; done)
          | skip
        · exact .inr (.inl ⟨f0, e, by rw [ei, fi]⟩)
        · exact .inr (.inr (.inl ⟨f0, e, by rw [ei, fi]⟩))
        · rw [f] at e0; cases e0; exact .inr (.inr (.inr (.inl ⟨_, _, _, f0, e, by rw [ei, fi]⟩)))
        · rw [f] at e0; cases e0; exact .inr (.inr (.inr (.inr (.inl ⟨_, _, _, _, _, f0, e, flt⟩))))
        · rw [f] at e0; cases e0; exact .inr (.inr (.inr (.inr (.inl ⟨_, _, _, _, _, f0, e, hlt⟩))))
        · rw [f] at e0; cases e0; exact .inr (.inr (.inr (.inr (.inl ⟨_, _, _, _, _, f0, e, Nat.lt_trans flt hlt⟩))))
        · rw [f] at e0; cases e0; exact .inr (.inr (.inr (.inr (.inr ⟨_, _, _, _, f0, e, Nat.lt_trans flt hlt, by rw [ei, fi]⟩))))
      · have e2 := h1.same b (h.live hn) hD1
        have t1 := h.turn b hD hn
        rw [e2.1, e2.2.1]; exact t1
    · have hD1 : b ∈ D1 := by
        rcases List.mem_append.1 hb with hb | hb
        · exact hb
        · exact absurd hb hD
      have e1 := h.same b hn hD
      have t2 := h1.turn b hD1 (h.live hn)
      rw [e1.1, e1.2.1] at t2; exact t2
  · have up : (w.heap.size ≤ r ∨ ∃ b' ∈ D, g.G b' ≠ .none ∧ ∃ c', g.i b' = some (r, c')) → w.heap.size ≤ r ∨ ∃ b' ∈ D1 ++ D, g.G b' ≠ .none ∧ ∃ c', g.i b' = some (r, c') := fun e => e.imp id fun ⟨b', hb', e⟩ => ⟨b', List.mem_append.2 (.inr hb'), e⟩
    by_cases hn1 : g1.G b = .none
    · rcases h1.fresh b r c hn1 hb hi with e | ⟨b', hb', hn', c', hi'⟩
      · exact .inl (Nat.le_trans h.size e)
      · rcases back b' r c' hn' hi' with e | e | e
        · exact .inr ⟨b', List.mem_append.2 (.inl hb'), e⟩
        · exact up (.inr e)
        · exact .inl e
    · by_cases hD1 : b ∈ D1
      · rcases h1.moved b hD1 hn1 r c hi with ⟨c', hi'⟩ | hle
        · exact up (h.fresh b r c' hn hn1 hi')
        · exact .inl (Nat.le_trans h.size hle)
      · rw [(h1.same b hn1 hD1).2.1] at hi
        exact up (h.fresh b r c hn hn1 hi)

end Go.VI

end
section
/- Values: reading and writing typed data as abstract values. -/
namespace Go.VI
set_option linter.unusedVariables false
variable {g : Gh} {w : World}

theorem RelC.nil : RelC g w [] [] := ⟨rfl, fun j c v h => by simp at h⟩
theorem RelC.cons {c : AV} {v : Value} {cs : List AV} {vs : List Value} (h : RelV g w c v) (hs : RelC g w cs vs) : RelC g w (c :: cs) (v :: vs) := by
  refine ⟨by simp [hs.1], fun j c' v' h1 h2 => ?_⟩
  cases j with
  | zero => simp at h1 h2; rw [← h1, ← h2]; exact h
  | succ j => simp at h1 h2; exact hs.2 j c' v' h1 h2
theorem RelC.uncons {c : AV} {cs : List AV} {vs : List Value} (h : RelC g w (c :: cs) vs) : ∃ v r, vs = v :: r ∧ RelV g w c v ∧ RelC g w cs r := by
  cases vs with
  | nil => have := h.1; simp at this
  | cons v r => exact ⟨v, r, rfl, h.2 0 c v rfl rfl, ⟨by have := h.1; simpa using this, fun j c' v' h1 h2 => h.2 (j + 1) c' v' (by simpa using h1) (by simpa using h2)⟩⟩
theorem RelC.append {a b : List AV} {c d : List Value} (h : RelC g w a c) (h' : RelC g w b d) : RelC g w (a ++ b) (c ++ d) := by
  refine ⟨by simp [h.1, h'.1], fun j x v h1 h2 => ?_⟩
  have hl := h.1
  by_cases hj : j < a.length
  · rw [List.getElem?_append_left hj] at h1
    rw [List.getElem?_append_left (by omega)] at h2
    exact h.2 j x v h1 h2
  · rw [List.getElem?_append_right (by omega)] at h1 h2
    rw [hl] at h2
    exact h'.2 _ x v h1 h2
theorem RelC.take {a : List AV} {c : List Value} (h : RelC g w a c) (n : Nat) : RelC g w (a.take n) (c.take n) := by
  refine ⟨by simp [h.1], fun j x v h1 h2 => ?_⟩
  rw [List.getElem?_take] at h1 h2
  split at h1
  · rename_i hj; rw [if_pos hj] at h2; exact h.2 j x v h1 h2
  · cases h1
theorem RelC.drop {a : List AV} {c : List Value} (h : RelC g w a c) (n : Nat) : RelC g w (a.drop n) (c.drop n) := by
  refine ⟨by simp [h.1], fun j x v h1 h2 => ?_⟩
  rw [List.getElem?_drop] at h1 h2
  exact h.2 _ x v h1 h2
theorem RelC.get {a : List AV} {c : List Value} (h : RelC g w a c) {j : Nat} {x : AV} (hx : a[j]? = some x) : ∃ v, c[j]? = some v ∧ RelV g w x v := by
  have hj : j < c.length := by
    have := (List.getElem?_eq_some_iff.1 hx).1
    rw [h.1]; exact this
  exact ⟨c[j], List.getElem?_eq_getElem hj, h.2 j x _ hx (List.getElem?_eq_getElem hj)⟩
theorem RelC.splice {a n : List AV} {c m : List Value} (h : RelC g w a c) (h' : RelC g w n m) (o : Nat) : RelC g w (splice a o n) (c.take o ++ m ++ c.drop (o + m.length)) := by
  unfold VI.splice
  rw [List.append_assoc, h'.1]
  exact (h.take o).append (h'.append (h.drop _))

theorem RelV.shape {v : AV} {u : Value} (h : RelV g w v u) (hu : good v = true) (ha : isAggV v = false) : u.cells = #[u] := by
  cases h with
  | undef => cases hu
  | tup => cases hu
  | agg => cases ha
  | vals t l _ ht => obtain ⟨a, cap, e, _⟩ := ht; cases e; rfl
  | own b k _ _ hs => obtain ⟨a, n, c, rfl⟩ := hs; rfl
  | sref b off len k lim _ _ hs => obtain ⟨a, c, rfl⟩ := hs; rfl
  | ptr b i o k _ _ hs => obtain ⟨a, rfl⟩ := hs; rfl
  | map b _ _ hs => obtain ⟨a, rfl⟩ := hs; rfl
  | stamp b i k _ _ hs => obtain ⟨a, rfl⟩ := hs; rfl
  | _ => rfl
theorem RelV.isAgg {v : AV} {u : Value} (h : RelV g w v u) (ha : isAggV v = true) : u = .agg u.cells := by
  cases h <;> first | rfl | cases ha
theorem RelV.cells {v : AV} {u : Value} (h : RelV g w v u) (hu : good v = true) : RelC g w (cellsOf v) u.cells.toList := by
  by_cases ha : isAggV v = true
  · cases h <;> first
      | (rename_i cs vs f h1 h2 h3
         exact ⟨by simpa [cellsOf, Value.cells] using h1, fun j c v' a b => by
           have := h2 j c a
           have e : vs.toList[j]? = some v' := b
           rw [Array.getElem?_toList, this] at e
           cases e; exact h3 j c a⟩)
      | cases ha
  · have ha' : isAggV v = false := by simpa using ha
    rw [h.shape hu ha']
    have : cellsOf v = [v] := by cases v <;> first | rfl | cases ha'
    rw [this]
    exact RelC.cons h .nil
theorem RelV.ofAgg {cs : List AV} {vs : List Value} (h : RelC g w cs vs) : RelV g w (.agg cs) (.agg vs.toArray) :=
  .agg cs _ (fun j => (vs[j]?).getD Go.undef) (by simpa using h.1) (fun j c hj => by
    obtain ⟨v, hv, _⟩ := h.get hj
    simp [hv]) (fun j c hj => by
    obtain ⟨v, hv, hr⟩ := h.get hj
    simpa [hv] using hr)

theorem castL_some {a b : Ty} {l : List a.den} {l' : List b.den} (h : castL a b l = some l') : ∃ e : a = b, l' = e ▸ l := by
  unfold castL at h
  split at h
  · rename_i hb
    cases h
    exact ⟨Ty.eq_of_beq hb, rfl⟩
  · cases h

/-- What is read out of cells lies in them. -/
theorem dec_sound : ∀ (t : Ty) {cs r : List AV} {x : t.den} {vs : List Value}, t.dec cs = some (x, r) → RelC g w cs vs → ∃ v1 v2, vs = v1 ++ v2 ∧ RelT g.F w t x v1 ∧ RelC g w r v2
  | .int k, cs, r, x, vs, h, hc => by
    cases cs with
    | nil => simp [Ty.dec] at h
    | cons c cs =>
      obtain ⟨v, vr, rfl, hv, hr⟩ := hc.uncons
      cases c <;> simp only [Ty.dec] at h <;> first | cases h | skip
      obtain ⟨hk, h⟩ := br_none h
      cases h
      have := kEq_eq hk; subst this
      cases hv
      exact ⟨[_], vr, rfl, rfl, hr⟩
  | .f64, cs, r, x, vs, h, hc => by
    cases cs with
    | nil => simp [Ty.dec] at h
    | cons c cs =>
      obtain ⟨v, vr, rfl, hv, hr⟩ := hc.uncons
      cases c <;> simp only [Ty.dec] at h <;> first | cases h | skip
      cases hv
      exact ⟨[_], vr, rfl, rfl, hr⟩
  | .bool, cs, r, x, vs, h, hc => by
    cases cs with
    | nil => simp [Ty.dec] at h
    | cons c cs =>
      obtain ⟨v, vr, rfl, hv, hr⟩ := hc.uncons
      cases c <;> simp only [Ty.dec] at h <;> first | cases h | skip
      cases hv
      exact ⟨[_], vr, rfl, rfl, hr⟩
  | .str, cs, r, x, vs, h, hc => by
    cases cs with
    | nil => simp [Ty.dec] at h
    | cons c cs =>
      obtain ⟨v, vr, rfl, hv, hr⟩ := hc.uncons
      cases c <;> simp only [Ty.dec] at h <;> first | cases h | skip
      cases hv
      exact ⟨[_], vr, rfl, rfl, hr⟩
  | .slice t, cs, r, x, vs, h, hc => by
    cases cs with
    | nil => simp [Ty.dec] at h
    | cons c cs =>
      obtain ⟨v, vr, rfl, hv, hr⟩ := hc.uncons
      cases c <;> simp only [Ty.dec] at h <;> first | cases h | skip
      · split at h
        · rename_i l hl
          cases h
          obtain ⟨e, rfl⟩ := castL_some hl
          subst e
          cases hv with
          | vals _ _ _ ht => exact ⟨[_], vr, rfl, ht, hr⟩
        · cases h
      · cases hv
        exact ⟨[_], vr, rfl, ⟨none, 0, rfl, Nat.le_refl _, fun i x h => by simp at h⟩, hr⟩
  | .pair a b, cs, r, x, vs, h, hc => by
    simp only [Ty.dec] at h
    split at h
    · rename_i x1 r1 h1
      split at h
      · rename_i y r2 h2
        cases h
        obtain ⟨v1, v2, rfl, ht1, hr1⟩ := dec_sound a h1 hc
        obtain ⟨v3, v4, rfl, ht2, hr2⟩ := dec_sound b h2 hr1
        exact ⟨v1 ++ v3, v4, by rw [List.append_assoc], ⟨v1, v3, rfl, ht1, ht2⟩, hr2⟩
      · cases h
    · cases h
  | .agg t, cs, r, x, vs, h, hc => dec_sound t (show t.dec cs = some (x, r) from h) hc
  | .nil, cs, r, x, vs, h, hc => by
    simp only [Ty.dec] at h
    cases h
    exact ⟨[], vs, rfl, rfl, hc⟩

theorem enc_sound : ∀ (t : Ty) {x : t.den} {vs : List Value}, RelT g.F w t x vs → RelC g w (t.enc x) vs
  | .int k, x, vs, h => by rw [show vs = _ from h]; exact .cons (.int ..) .nil
  | .bool, x, vs, h => by rw [show vs = _ from h]; exact .cons (.bool ..) .nil
  | .f64, x, vs, h => by rw [show vs = _ from h]; exact .cons (.flt ..) .nil
  | .str, x, vs, h => by rw [show vs = _ from h]; exact .cons (.str ..) .nil
  | .slice t, x, vs, h => by
    have h' := h
    obtain ⟨a, cap, rfl, _⟩ := h
    exact .cons (.vals _ _ _ h') .nil
  | .pair a b, x, vs, h => by
    obtain ⟨c, d, rfl, h1, h2⟩ := h
    exact (enc_sound a h1).append (enc_sound b h2)
  | .agg t, x, vs, h => enc_sound t (show RelT g.F w t x vs from h)
  | .nil, x, vs, h => by rw [show vs = _ from h]; exact .nil

/-- A value that is typed data. -/
structure RelTV (F : Nat → Prop) (w : World) (t : Ty) (x : t.den) (u : Value) : Prop where
  rel : RelT F w t x u.cells.toList
  one : t.isAgg = false → u.cells = #[u]
  agg : t.isAgg = true → u = .agg u.cells

theorem decV_sound {t : Ty} {v : AV} {x : t.den} {u : Value} (h : t.decV v = some x) (hv : RelV g w v u) : RelTV g.F w t x u := by
  unfold Ty.decV at h
  obtain ⟨hb, h⟩ := br_none h
  split at h
  · rename_i y hd
    cases h
    have hgood : good v = true := by
      cases v <;> first | rfl | skip
      · exfalso
        have : cellsOf AV.undef = [.undef] := rfl
        rw [this] at hd
        have hne : t.isAgg = false := by
          cases e : t.isAgg with
          | false => rfl
          | true => rw [e] at hb; cases hb
        cases t <;> first | (simp [Ty.dec] at hd; done) | (cases hne)
      · exfalso
        rename_i vs
        have : cellsOf (AV.tup vs) = [.tup vs] := rfl
        rw [this] at hd
        have hne : t.isAgg = false := by
          cases e : t.isAgg with
          | false => rfl
          | true => rw [e] at hb; cases hb
        cases t <;> first | (simp [Ty.dec] at hd; done) | (cases hne)
    obtain ⟨v1, v2, e, ht, hr⟩ := dec_sound t hd (hv.cells hgood)
    have : v2 = [] := by have := hr.1; simpa using this
    subst this
    rw [List.append_nil] at e
    have hbe : t.isAgg = isAggV v := by
      cases e1 : t.isAgg <;> cases e2 : isAggV v <;> rw [e1, e2] at hb <;> first | rfl | cases hb
    exact ⟨e ▸ ht, fun h0 => hv.shape hgood (by rw [← hbe]; exact h0), fun h0 => hv.isAgg (by rw [← hbe]; exact h0)⟩
  · cases h

theorem val_sound {t : Ty} {x : t.den} {u : Value} (h : RelTV g.F w t x u) : RelV g w (t.val x) u := by
  obtain ⟨h1, h2, h3⟩ := h
  cases t with
  | int k => have e := h1; have o := h2 rfl; rw [o] at e; cases (show [u] = _ from e); exact .int ..
  | bool => have e := h1; have o := h2 rfl; rw [o] at e; cases (show [u] = _ from e); exact .bool ..
  | f64 => have e := h1; have o := h2 rfl; rw [o] at e; cases (show [u] = _ from e); exact .flt ..
  | str => have e := h1; have o := h2 rfl; rw [o] at e; cases (show [u] = _ from e); exact .str ..
  | slice t => have e := h1; have o := h2 rfl; rw [o] at e; exact .vals _ _ _ e
  | pair a b => rw [h3 rfl]; have := RelV.ofAgg (enc_sound (.pair a b) h1); rw [Array.toArray_toList] at this; exact this
  | agg t => rw [h3 rfl]; have := RelV.ofAgg (enc_sound t h1); rw [Array.toArray_toList] at this; exact this
  | nil => rw [h3 rfl]; have := RelV.ofAgg (enc_sound .nil h1); rw [Array.toArray_toList] at this; exact this

theorem const1_sound (v : Value) : RelV g w (const1 v) v := by
  unfold const1
  split <;> first | exact .int .. | exact .bool .. | exact .str .. | exact .nils | exact .nilp | exact .nilmap | exact .nilfn | exact .nili | exact .flt _ | exact .undef _
theorem const_sound (v : Value) : RelV g w (ofConst v) v := by
  unfold ofConst
  split
  · rename_i cs
    have : RelC g w (cs.toList.map const1) cs.toList := by
      refine ⟨by simp, fun j c v h1 h2 => ?_⟩
      rw [List.getElem?_map, h2] at h1
      cases h1
      exact const1_sound v
    have := RelV.ofAgg this
    rw [Array.toArray_toList] at this; exact this
  · exact const1_sound _

theorem good_one {c : AV} (h : oneCell c = true) : good c = true := by cases c <;> first | rfl | cases h
theorem oneCell_value {c : AV} {u : Value} (h : RelV g w c u) (hc : oneCell c = true) : u.oneCell' = true := by
  have h1 := good_one hc
  have h2 : isAggV c = false := by cases c <;> first | rfl | cases hc
  have := h.shape h1 h2
  cases u <;> first | rfl | skip
  · rename_i cs; 
    cases h with
    | undef => cases hc
    | agg => cases hc
    | own b k _ _ hs => obtain ⟨a, n, c, e⟩ := hs; cases e
    | sref b off len k lim _ _ hs => obtain ⟨a, c, e⟩ := hs; cases e
    | ptr b i o k _ _ hs => obtain ⟨a, e⟩ := hs; cases e
    | map b _ _ hs => obtain ⟨a, e⟩ := hs; cases e
    | stamp b i k _ _ hs => obtain ⟨a, e⟩ := hs; cases e
    | vals t l _ ht => obtain ⟨a, cap, e, _⟩ := ht; cases e
  · rename_i cs; 
    cases h with
    | undef => cases hc
    | tup => cases hc
    | own b k _ _ hs => obtain ⟨a, n, c, e⟩ := hs; cases e
    | sref b off len k lim _ _ hs => obtain ⟨a, c, e⟩ := hs; cases e
    | ptr b i o k _ _ hs => obtain ⟨a, e⟩ := hs; cases e
    | map b _ _ hs => obtain ⟨a, e⟩ := hs; cases e
    | stamp b i k _ _ hs => obtain ⟨a, e⟩ := hs; cases e
    | vals t l _ ht => obtain ⟨a, cap, e, _⟩ := ht; cases e
end Go.VI

end
section
/- Operations on memory: load, store, new blocks. -/
namespace Go.VI
set_option linter.unusedVariables false
set_option linter.unusedSimpArgs false
variable {R : Type} {P : Program}

theorem decs_sound {g : Gh} {w : World} {t : Ty} : ∀ {n : Nat} {cs : List AV} {l : List t.den} {vs : List Value}, decs t n cs = some l → RelC g w cs vs →
    l.length = n ∧ vs.length = n * t.size ∧ ∀ i x, l[i]? = some x → ∃ c, RelT g.F w t x c ∧ ∀ j v, c[j]? = some v → vs[i * t.size + j]? = some v
  | 0, cs, l, vs, h, hc => by
    cases cs with
    | nil =>
      simp only [decs] at h
      cases h
      have := hc.1
      exact ⟨rfl, by simpa using this, fun i x hx => by simp at hx⟩
    | cons c cs => simp [decs] at h
  | n + 1, cs, l, vs, h, hc => by
    simp only [decs] at h
    split at h
    · rename_i x r hd
      split at h
      · rename_i l' hl'
        cases h
        obtain ⟨v1, v2, rfl, ht, hr⟩ := dec_sound t hd hc
        obtain ⟨a1, a2, a3⟩ := decs_sound hl' hr
        have e1 := ht.len
        refine ⟨by simp [a1], by simp [e1, a2, Nat.succ_mul]; omega, fun i y hy => ?_⟩
        cases i with
        | zero =>
          simp at hy; subst hy
          refine ⟨v1, ht, fun j v hj => ?_⟩
          have : j < v1.length := (List.getElem?_eq_some_iff.1 hj).1
          simp only [Nat.zero_mul, Nat.zero_add]
          rw [List.getElem?_append_left this]; exact hj
        | succ i =>
          simp at hy
          obtain ⟨c, hc1, hc2⟩ := a3 i y hy
          refine ⟨c, hc1, fun j v hj => ?_⟩
          rw [List.getElem?_append_right (by rw [e1, Nat.succ_mul]; omega), e1]
          have := hc2 j v hj
          rw [← this]; congr 1; rw [Nat.succ_mul]; omega
      · cases h
    · cases h

theorem add_mk (r p o : Nat) : (⟨r, p, none⟩ : Addr).add o = ⟨r, p + o, none⟩ := by
  unfold Addr.add; split
  · rename_i h; subst h; rfl
  · rfl

theorem run_isAgg' {t : TypeId} {b : Bool} {w : World} (h : kindT P t = some b) : (isAgg t).run P w = .ok b w := by
  unfold kindT at h
  split at h <;> first | cases h | skip
  · rename_i fs hu; simp [isAgg, run_underlying hu]
  · rename_i n e hu; simp [isAgg, run_underlying hu]
  · rename_i d h1 h2 hu
    simp only [isAgg, Sem.run_bind, run_underlying hu, Result.andThen_ok]
    cases d <;> first | rfl | (exact absurd rfl (h1 _)) | (exact absurd rfl (h2 _ _)) | simp_all
theorem run_sizeOf' {t : TypeId} {i : TypeInfo} {w : World} (h : P.info? t = some i) : (sizeOf t).run P w = .ok i.size w := by
  simp [sizeOf, typeInfo, h]

theorem partV_load {g : Gh} {w : World} {t : TypeId} {cs : List AV} {o : Nat} {v : AV} {ad : Addr} (hp : partV P t cs o = some v)
    (hc : ∀ j c, cs[j]? = some c → ∃ u, w.cell? (ad.add j) = some u ∧ RelV g w c u) : ∃ u, (loadVar t (ad.add o)).run P w = .ok u w ∧ RelV g w v u := by
  unfold partV at hp
  split at hp
  · rename_i hk
    split at hp
    · rename_i i hi
      obtain ⟨hle, hp⟩ := br_none hp
      cases hp
      have hle := Nat.le_of_ble_eq_true hle
      let f : Nat → Value := fun j => (w.cell? ((ad.add o).add j)).getD Go.undef
      have hf : ∀ j, j < i.size → w.cell? ((ad.add o).add j) = some (f j) ∧ ∀ c, cs[o + j]? = some c → RelV g w c (f j) := fun j hj => by
        obtain ⟨u, hu, hr⟩ := hc (o + j) cs[o + j] (List.getElem?_eq_getElem (by omega))
        have e : (ad.add o).add j = ad.add (o + j) := Addr.add_add ad o j
        refine ⟨by show _ = some ((w.cell? ((ad.add o).add j)).getD _); rw [e, hu]; rfl, fun c hcc => ?_⟩
        show RelV g w c ((w.cell? ((ad.add o).add j)).getD _)
        rw [e, hu]
        rw [List.getElem?_eq_getElem (by omega)] at hcc
        cases hcc; exact hr
      refine ⟨.agg ((List.range i.size).map f).toArray, ?_, ?_⟩
      · simp only [loadVar, Sem.run_bind, run_isAgg' hk, Result.andThen_ok, if_true, run_sizeOf' hi, run_loadCells w (ad.add o) i.size f (fun j hj => (hf j hj).1), Sem.run_pure]
      · refine RelV.ofAgg ⟨by simp; omega, fun j c v h1 h2 => ?_⟩
        rw [List.getElem?_take] at h1
        split at h1
        · rename_i hj
          rw [List.getElem?_drop] at h1
          rw [List.getElem?_map, List.getElem?_range hj] at h2
          cases h2
          exact (hf j hj).2 c h1
        · cases h1
    · cases hp
  · rename_i hk
    obtain ⟨u, hu, hr⟩ := hc o v hp
    refine ⟨u, ?_, hr⟩
    simp only [loadVar, Sem.run_bind, run_isAgg' hk, Result.andThen_ok, Bool.false_eq_true, if_false, run_load, hu]
  · cases hp

/-- What a whole row of cells in a block reads as. -/
theorem cell_at {w : World} {r : Nat} {vs : Array Value} {e : TypeId} {fz : Nat × Nat} (h : w.heap[r]? = some (.cells vs e fz)) (p : Nat) : w.cell? ⟨r, p, none⟩ = vs[p]? := by
  simp [World.cell?, h]

theorem loadO_sound {t : TypeId} {a : AV} {H : Hp} {n : Nat} {κ : KO R} {r : R} (h : loadO P t a H n κ = some r) :
    ∃ v, κ v H n [] = some r ∧ ∀ (g : Gh) (w : World) (u : Value), HRel g H w → RelV g w a u → ∃ u', (Instr.loadAt t u).run P w = .ok u' w ∧ RelV g w v u' := by
  unfold loadO at h
  split at h
  · -- cptr
    split at h
    · rename_i cs v hp
      refine ⟨v, h, fun g w u hr hu => ?_⟩
      cases hu with
      | cptr _ ad f h1 h2 =>
        obtain ⟨u', e1, e2⟩ := partV_load (ad := ad) hp (fun j c hj => ⟨f j, (h1 j c hj).2, h2 j c hj⟩)
        refine ⟨u', ?_, e2⟩
        rw [Addr.add_zero'] at e1
        simp [Instr.loadAt, Instr.sureAddr, e1]
    · cases h
  · rename_i b i o k
    split at h
    · -- box
      rename_i cs hb
      obtain ⟨hi, h⟩ := br_none h
      have hi := Nat.eq_of_beq_eq_true hi
      split at h
      · rename_i v hp
        refine ⟨v, h, fun g w u hr hu => ?_⟩
        have hG : g.G b = .box := by rw [hr.kd b (by rw [hb]; exact fun h => by cases h), hb]; rfl
        have hB := hr.blk b
        rw [hb] at hB
        obtain ⟨r', c', vs, e, h1, h2, h3⟩ := hB
        cases hu with
        | ptr _ _ _ _ _ hn hp' ha hbx hs =>
          obtain ⟨r2, c2, e1, rfl⟩ := hbx hG hi
          rw [h1] at e1; cases e1
          obtain ⟨u', e1, e2⟩ := partV_load (ad := ⟨r', 0, none⟩) hp (fun j c hj => by
            obtain ⟨v', hv', hrv⟩ := h3.get hj
            rw [add_mk, cell_at h2, Nat.zero_add]
            rw [Array.getElem?_toList] at hv'
            exact ⟨v', hv', hrv⟩)
          rw [add_mk, Nat.zero_add] at e1
          exact ⟨u', by simp [Instr.loadAt, Instr.sureAddr, e1], e2⟩
      · cases h
    · -- arr
      rename_i ty l k' hb
      obtain ⟨hk, h⟩ := br_none h
      have hk := Nat.eq_of_beq_eq_true hk
      obtain ⟨x, hx, h⟩ := Option.bind_eq_some_iff.1 h
      split at h
      · rename_i v hp
        refine ⟨v, h, fun g w u hr hu => ?_⟩
        have hG : g.G b = .arr ty k' l.length := by rw [hr.kd b (by rw [hb]; exact fun h => by cases h), hb]; rfl
        have hB := hr.blk b
        rw [hb] at hB
        rcases hB with ⟨_, rfl⟩ | ⟨r', cap, vs, e, h1, h2, h3, h4, h5⟩
        · simp at hx
        cases hu with
        | ptr _ _ _ _ _ hn hp' ha hbx hs =>
          obtain ⟨r2, c2, e1, rfl⟩ := (ha _ _ _ hG).2 hk
          rw [h1] at e1; cases e1
          obtain ⟨c, hc1, hc2⟩ := h5 i x hx
          have hcl := hc1.len
          have hec := enc_sound (g := g) ty hc1
          obtain ⟨u', e1, e2⟩ := partV_load (ad := ⟨r', i * ty.size, none⟩) hp (fun j c' hj => by
            obtain ⟨v', hv', hrv⟩ := hec.get hj
            rw [add_mk, cell_at h2]
            exact ⟨v', hc2 j v' hv', hrv⟩)
          rw [add_mk] at e1
          exact ⟨u', by simp [Instr.loadAt, Instr.sureAddr, e1], e2⟩
      · cases h
    · cases h
  · cases h

theorem splice_get {α : Type} (a b : List α) {q : Nat} (h : q + b.length ≤ a.length) (n : Nat) :
    (a.take q ++ b ++ a.drop (q + b.length))[n]? = if n < q then a[n]? else if n < q + b.length then b[n - q]? else a[n]? := by
  rw [List.append_assoc]
  have h1 : (a.take q).length = q := by simp; omega
  by_cases c1 : n < q
  · rw [if_pos c1, List.getElem?_append_left (by omega), List.getElem?_take, if_pos c1]
  · rw [if_neg c1, List.getElem?_append_right (by omega), h1]
    by_cases c2 : n < q + b.length
    · rw [if_pos c2, List.getElem?_append_left (by omega)]
    · rw [if_neg c2, List.getElem?_append_right (by omega), List.getElem?_drop]
      congr 1; omega

/-- A row's elements behind a store into element i. -/
theorem chunks_set {F : Nat → Prop} {w : World} {t : Ty} {l : List t.den} {vs uc : List Value} {i o : Nat} {y : t.den} {cap : Nat}
    (hl : l.length ≤ cap) (hcap : cap * t.size ≤ vs.length) (h : ∀ k x, l[k]? = some x → ∃ c, RelT F w t x c ∧ ∀ j v, c[j]? = some v → vs[k * t.size + j]? = some v)
    (hi : i < l.length) (ho : o + uc.length ≤ t.size)
    (hy : ∀ c : List Value, c.length = t.size → (∀ j v, c[j]? = some v → vs[i * t.size + j]? = some v) → RelT F w t y (c.take o ++ uc ++ c.drop (o + uc.length))) :
    ∀ k x, (l.set i y)[k]? = some x → ∃ c, RelT F w t x c ∧ ∀ j v, c[j]? = some v → (vs.take (i * t.size + o) ++ uc ++ vs.drop (i * t.size + o + uc.length))[k * t.size + j]? = some v := by
  intro k x hk
  have hin : i * t.size + t.size ≤ vs.length := by
    have : (i + 1) * t.size ≤ cap * t.size := Nat.mul_le_mul_right _ (by omega)
    rw [Nat.succ_mul] at this; omega
  by_cases e : k = i
  · subst e
    rw [List.getElem?_set_self hi] at hk
    cases hk
    obtain ⟨c, hc1, hc2⟩ := h k l[k] (List.getElem?_eq_getElem hi)
    have hcl := hc1.len
    refine ⟨_, hy c hcl hc2, fun j v hj => ?_⟩
    rw [splice_get c uc (by omega)] at hj
    rw [splice_get vs uc (by omega)]
    by_cases c1 : j < o
    · rw [if_pos c1] at hj; rw [if_pos (by omega)]; exact hc2 j v hj
    · rw [if_neg c1] at hj; rw [if_neg (by omega)]
      by_cases c2 : j < o + uc.length
      · rw [if_pos c2] at hj; rw [if_pos (by omega), ← hj]; congr 1; omega
      · rw [if_neg c2] at hj; rw [if_neg (by omega)]; exact hc2 j v hj
  · rw [List.getElem?_set_ne (Ne.symm e)] at hk
    obtain ⟨c, hc1, hc2⟩ := h k x hk
    have hcl := hc1.len
    refine ⟨c, hc1, fun j v hj => ?_⟩
    have hj' : j < c.length := (List.getElem?_eq_some_iff.1 hj).1
    rw [splice_get vs uc (by omega)]
    rcases Nat.lt_or_gt_of_ne e with e | e
    · have : (k + 1) * t.size ≤ i * t.size := Nat.mul_le_mul_right _ e
      rw [Nat.succ_mul] at this
      rw [if_pos (by omega)]; exact hc2 j v hj
    · have : (i + 1) * t.size ≤ k * t.size := Nat.mul_le_mul_right _ e
      rw [Nat.succ_mul] at this
      rw [if_neg (by omega), if_neg (by omega)]; exact hc2 j v hj

theorem all_one {g : Gh} {w : World} {cs : List AV} {vs : List Value} (h : RelC g w cs vs) (ho : cs.all oneCell = true) : ∀ v ∈ vs, v.oneCell' = true := by
  intro v hv
  obtain ⟨j, hj⟩ := List.getElem?_of_mem hv
  have hjl : j < cs.length := by rw [← h.1]; exact (List.getElem?_eq_some_iff.1 hj).1
  exact oneCell_value (h.2 j _ v (List.getElem?_eq_getElem hjl) hj) (List.all_eq_true.1 ho _ (List.getElem_mem hjl))
theorem all_oneT {F : Nat → Prop} {w : World} : ∀ {t : Ty} {x : t.den} {vs : List Value}, RelT F w t x vs → ∀ v ∈ vs, v.oneCell' = true
  | .int _, _, _, h, v, hv => by rw [show _ = _ from h] at hv; cases List.mem_singleton.1 hv; rfl
  | .bool, _, _, h, v, hv => by rw [show _ = _ from h] at hv; cases List.mem_singleton.1 hv; rfl
  | .f64, _, _, h, v, hv => by rw [show _ = _ from h] at hv; cases List.mem_singleton.1 hv; rfl
  | .str, _, _, h, v, hv => by rw [show _ = _ from h] at hv; cases List.mem_singleton.1 hv; rfl
  | .slice _, _, _, h, v, hv => by
    obtain ⟨a, cap, rfl, _⟩ := h
    cases List.mem_singleton.1 hv; rfl
  | .pair a b, _, _, h, v, hv => by
    obtain ⟨c, d, rfl, h1, h2⟩ := h
    rcases List.mem_append.1 hv with hv | hv
    · exact all_oneT h1 v hv
    · exact all_oneT h2 v hv
  | .agg t, x, cs, h, v, hv => all_oneT (t := t) h v hv
  | .nil, _, _, h, v, hv => by rw [show _ = _ from h] at hv; cases hv

theorem run_storeVar' {t : TypeId} {i : TypeInfo} {w : World} {r p : Nat} {vs : Array Value} {e : TypeId} {u : Value} (hi : P.info? t = some i) (hsz : u.cells.size = i.size)
    (hh : w.heap[r]? = some (.cells vs e (0, 0))) (hp : p + u.cells.size ≤ vs.size) (h1 : ∀ v ∈ u.cells.toList, v.oneCell' = true) :
    (storeVar t ⟨r, p, none⟩ u).run P w = .ok () (w.setRow r (vs.toList.take p ++ u.cells.toList ++ vs.toList.drop (p + u.cells.toList.length)).toArray) := by
  have := run_storeCells_at (P := P) r p e u.cells.toList 0 vs w hh (by simpa using hp) h1
  simp only [storeVar, Sem.run_bind, run_sizeOf' hi, Result.andThen_ok, hsz, ne_eq, not_true_eq_false, if_false, this, Nat.add_zero, pure_bind]

theorem good_of_one : ∀ {v : AV}, (cellsOf v).all oneCell = true → good v = true
  | .undef, h => by cases h
  | .tup _, h => by cases h
  | .int .., _ | .bool .., _ | .str .., _ | .flt .., _ | .vals .., _ | .nils, _ | .lits .., _ | .own .., _ | .sref .., _ | .ptr .., _ | .cptr .., _ | .nilp, _ | .map .., _ | .nilmap, _ | .stamp .., _ | .fn .., _ | .nilfn, _ | .iface .., _ | .nili, _ | .agg .., _ => rfl

/-- What a store comes to. -/
theorem storeO_sound {t : TypeId} {a v : AV} {H : Hp} {n : Nat} {κ : KO R} {r : R} (h : storeO P t a v H n κ = some r) :
    ∃ H' D, κ .undef H' n D = some r ∧ ∀ (g : Gh) (w : World) (ua uv : Value), HRel g H w → RelV g w a ua → RelV g w v uv → ∃ w', (Instr.storeAt t ua uv).run P w = .ok () w' ∧ ∃ g', Went g H w (fun _ => False) .undef H' D Go.undef w' g' := by
  unfold storeO at h
  obtain ⟨hsz, h⟩ := br_none h
  unfold sizeIs at hsz
  split at hsz
  case h_2 => cases hsz
  rename_i ti hi
  have hsz := Nat.eq_of_beq_eq_true hsz
  cases a with
  | ptr b i o k => ?_
  | _ => cases h
  simp only at h
  split at h
  · -- box
    rename_i cs hb
    obtain ⟨hc, h⟩ := br_none h
    have hc : ((Nat.beq i 0) && ((Nat.ble (o + (cellsOf v).length) cs.length) && ((cellsOf v).all oneCell))) = true := hc
    rw [Bool.and_eq_true, Bool.and_eq_true] at hc
    obtain ⟨c1, c2, c3⟩ := hc
    have c1 := Nat.eq_of_beq_eq_true c1
    have c2 := Nat.le_of_ble_eq_true c2
    refine ⟨_, _, h, fun g w ua uv hr ha hv => ?_⟩
    have hs : H b ≠ .gone := by rw [hb]; exact fun h => by cases h
    have hG : g.G b = .box := by rw [hr.kd b (fun e => hs e), hb]; rfl
    have hB := hr.blk b
    rw [hb] at hB
    obtain ⟨r', c', vs, e, h1, h2, h3⟩ := hB
    have hvc := hv.cells (good_of_one c3)
    have hl := hvc.1
    have hl3 := h3.1
    simp only [Array.length_toList] at hl hl3
    cases ha with
    | ptr _ _ _ _ _ hn hp' ha hbx hs' =>
      obtain ⟨r2, c2', e1, rfl⟩ := hbx hG c1
      rw [h1] at e1; cases e1
      have hrun := run_storeVar' (P := P) hi (by omega) h2 (p := o) (u := uv) (by omega) (all_one hvc c3)
      refine ⟨_, by simp only [Instr.storeAt, Instr.sureAddr, Sem.run_bind, Sem.run_pure, Result.andThen_ok, hrun]; rfl, ?_⟩
      obtain ⟨x1, x2, x3⟩ := HRel.write (w' := w.setRow r' (vs.toList.take o ++ uv.cells.toList ++ vs.toList.drop (o + uv.cells.toList.length)).toArray) (blk := .box (splice cs o (cellsOf v))) hr hs h1 (fun h => by cases h) (setRow_size _ _ _) (fun r'' hne => setRow_other _ _ _ _ hne)
        (.inl ⟨hG, rfl⟩) (fun he => ⟨r', c', _, e, h1, setRow_heap _ _ _ _ _ _ h2, by
          have := (h3.splice hvc o).step he hr
          rw [List.toList_toArray]; exact this⟩)
      exact ⟨_, x1, x2, .undef _, fun b h h' => (x3 b h h').elim⟩
  · -- arr
    rename_i ty l k' hb
    obtain ⟨hk, h⟩ := br_none h
    have hk := Nat.eq_of_beq_eq_true hk
    obtain ⟨x, hx, h⟩ := Option.bind_eq_some_iff.1 h
    obtain ⟨ho, h⟩ := br_none h
    have ho : ((good v) && (Nat.ble (o + (cellsOf v).length) ty.size)) = true := ho
    rw [Bool.and_eq_true] at ho
    obtain ⟨hgood, ho⟩ := ho
    have ho := Nat.le_of_ble_eq_true ho
    split at h
    case h_2 => cases h
    rename_i y hd
    refine ⟨_, _, h, fun g w ua uv hr ha hv => ?_⟩
    have hs : H b ≠ .gone := by rw [hb]; exact fun h => by cases h
    have hG : g.G b = .arr ty k' l.length := by rw [hr.kd b (fun e => hs e), hb]; rfl
    have hB := hr.blk b
    rw [hb] at hB
    rcases hB with ⟨_, rfl⟩ | ⟨r', cap, vs, e, h1, h2, h3, h4, h5⟩
    · simp at hx
    have hil : i < l.length := (List.getElem?_eq_some_iff.1 hx).1
    obtain ⟨c, hc1, hc2⟩ := h5 i x hx
    have hcl := hc1.len
    have henc := enc_sound (g := g) ty hc1
    have hvc := hv.cells hgood
    have hl := hvc.1
    have hin : i * ty.size + ty.size ≤ vs.size := by
      have : (i + 1) * ty.size ≤ cap * ty.size := Nat.mul_le_mul_right _ (by omega)
      rw [Nat.succ_mul] at this; omega
    cases ha with
    | ptr _ _ _ _ _ hn hp' ha hbx hs' =>
      obtain ⟨r2, c2', e1, rfl⟩ := (ha _ _ _ hG).2 hk
      rw [h1] at e1; cases e1
      have hnew : ∀ c : List Value, c.length = ty.size → (∀ j v, c[j]? = some v → vs.toList[i * ty.size + j]? = some v) → RelT g.F w ty y (c.take o ++ uv.cells.toList ++ c.drop (o + uv.cells.toList.length)) := fun c' hc'l hc' => by
        have : c' = c := by
          apply List.ext_getElem?
          intro j
          by_cases hj : j < ty.size
          · have a1 := hc' j _ (List.getElem?_eq_getElem (by omega))
            have a2 := hc2 j _ (List.getElem?_eq_getElem (by omega))
            rw [Array.getElem?_toList, a2] at a1
            rw [List.getElem?_eq_getElem (by omega), List.getElem?_eq_getElem (by omega)]
            exact a1.symm
          · rw [List.getElem?_eq_none (by omega), List.getElem?_eq_none (by omega)]
        subst this
        obtain ⟨v1, v2, e1, e2, e3⟩ := dec_sound ty hd (henc.splice hvc o)
        have : v2 = [] := by have := e3.1; simpa using this
        subst this
        rw [e1, List.append_nil]; exact e2
      have hone : ∀ v ∈ uv.cells.toList, v.oneCell' = true := fun v' hv' => by
        have := all_oneT (hnew c hcl (fun j v hj => by rw [Array.getElem?_toList]; exact hc2 j v hj)) v'
        exact this (by simp only [List.mem_append]; exact .inl (.inr hv'))
      have hrun := run_storeVar' (P := P) hi (by simp only [Array.length_toList] at hl; omega) h2 (p := i * ty.size + o) (u := uv) (by simp only [Array.length_toList] at hl; omega) hone
      refine ⟨_, by simp only [Instr.storeAt, Instr.sureAddr, Sem.run_bind, Sem.run_pure, Result.andThen_ok, hrun]; rfl, ?_⟩
      have hch := chunks_set (F := g.F) (w := w) (t := ty) (l := l) (vs := vs.toList) (uc := uv.cells.toList) (i := i) (o := o) (y := y) (cap := cap) h3 (by simpa using h4)
        (fun k x hx => by
          obtain ⟨c, a1, a2⟩ := h5 k x hx
          exact ⟨c, a1, fun j v hj => by rw [Array.getElem?_toList]; exact a2 j v hj⟩) hil (by omega) hnew
      obtain ⟨x1, x2, x3⟩ := HRel.write (w' := w.setRow r' (vs.toList.take (i * ty.size + o) ++ uv.cells.toList ++ vs.toList.drop (i * ty.size + o + uv.cells.toList.length)).toArray) (blk := .arr ty (l.set i y) k') hr hs h1 (fun h => by cases h) (setRow_size _ _ _) (fun r'' hne => setRow_other _ _ _ _ hne)
        (.inr (.inr (.inl ⟨ty, k', l.length, hG, by simp [kindOf]⟩))) (fun he => .inr ⟨r', cap, _, e, h1, setRow_heap _ _ _ _ _ _ h2, by simpa using h3, by simp only [List.size_toArray, List.length_append, List.length_take, List.length_drop, Array.length_toList] at hl ⊢; omega, fun k x hx => by
          obtain ⟨c, a1, a2⟩ := hch k x hx
          exact ⟨c, a1.mono he.mono (he.keepF hr), fun j v hj => by
            rw [List.getElem?_toArray]; exact a2 j v hj⟩⟩)
      exact ⟨_, x1, x2, .undef _, fun b h h' => (x3 b h h').elim⟩
  · cases h
end Go.VI

end
section
/- New blocks; rows: what they hold, append, copy, slicing. -/
namespace Go.VI
set_option linter.unusedVariables false
set_option linter.unusedSimpArgs false
variable {R : Type} {P : Program}

theorem Gh.new_G (g : Gh) (nb : Nat) (k : Kd) (a : Option (Nat × Nat)) : (g.new nb k a).G nb = k := upd_same _ _ _
theorem Gh.new_i (g : Gh) (nb : Nat) (k : Kd) (a : Option (Nat × Nat)) : (g.new nb k a).i nb = a := upd_same _ _ _

/-- A new block of cells. -/
theorem newRow_went {g : Gh} {H : Hp} {w w' : World} {nb : Nat} {vs : List Value} {cs : List AV} {e : TypeId} (hr : HRel g H w) (hnb : g.G nb = .none) (hc : RelC g w cs vs)
    (hw : w'.heap = w.heap.push (.cells vs.toArray e)) (henv : Env w w' := by first | exact ⟨rfl, rfl, rfl⟩ | assumption) : ∃ g', Went g H w (fun b => b = nb) (.ptr nb 0 0 0) (upd H nb (.box cs)) [] (.pointer (some ⟨w.heap.size, 0, none⟩)) w' g' := by
  obtain ⟨x1, x2, x3⟩ := HRel.alloc (cap := 0) (blk := .box cs) hr hnb hw (fun h => by cases h) (fun he => ⟨w.heap.size, 0, vs.toArray, e, Gh.new_i .., by rw [hw]; simp, by
    have := hc.step he hr
    rw [List.toList_toArray]; exact this⟩)
  refine ⟨_, x1, x2, ?_, x3⟩
  refine .ptr _ _ _ _ _ (by rw [Gh.new_G]; exact kindOf_none) ⟨_, rfl⟩ (fun t k' n h => ?_) (fun _ _ => ⟨_, _, Gh.new_i .., rfl⟩) (fun h _ => ?_)
  · rw [Gh.new_G] at h; cases h
  · rw [Gh.new_G] at h; cases h

/-- A new row of typed data. -/
theorem newArr_went {g : Gh} {H : Hp} {w w' : World} {nb cap : Nat} {vs : List Value} {t : Ty} {l : List t.den} {e : TypeId} (hr : HRel g H w) (hnb : g.G nb = .none)
    (hw : w'.heap = w.heap.push (.cells vs.toArray e)) (hl : l.length ≤ cap) (hcap : cap * t.size ≤ vs.length)
    (hc : ∀ i x, l[i]? = some x → ∃ c, RelT g.F w t x c ∧ ∀ j v, c[j]? = some v → vs[i * t.size + j]? = some v) (henv : Env w w' := by first | exact ⟨rfl, rfl, rfl⟩ | assumption) :
    ∃ g', Ext g H w [] g' (upd H nb (.arr t l 0)) w' ∧ HRel g' (upd H nb (.arr t l 0)) w' ∧ (∀ b, g.G b = .none → g'.G b ≠ .none → b = nb) ∧ g'.G nb = .arr t 0 l.length ∧ g'.i nb = some (w.heap.size, cap) := by
  obtain ⟨x1, x2, x3⟩ := HRel.alloc (cap := cap) (blk := .arr t l 0) hr hnb hw (fun h => by cases h) (fun he => .inr ⟨w.heap.size, cap, vs.toArray, e, Gh.new_i .., by rw [hw]; simp, hl, by simpa using hcap, fun i x hx => by
    obtain ⟨c, a1, a2⟩ := hc i x hx
    exact ⟨c, a1.mono he.mono (he.keepF hr), fun j v hj => by rw [List.getElem?_toArray]; exact a2 j v hj⟩⟩)
  exact ⟨_, x1, x2, x3, Gh.new_G .., Gh.new_i ..⟩

theorem newBlk_sound {e : TypeId} {cs : List AV} {H : Hp} {nb n : Nat} {κ : KO R} {r : R} (h : newBlk P e cs H nb n κ = some r) :
    ∃ v H', κ v H' n [] = some r ∧ ∀ (g : Gh) (w w' : World) (vs : List Value), HRel g H w → g.G nb = .none → RelC g w cs vs → w'.heap = w.heap.push (.cells vs.toArray e) → Env w w' →
      ∃ g', Went g H w (fun b => b = nb) v H' [] (.pointer (some ⟨w.heap.size, 0, none⟩)) w' g' := by
  unfold newBlk at h
  split at h
  · rcases br_some h with ⟨_, h⟩ | ⟨_, h⟩
    · exact ⟨_, _, h, fun g w w' vs hr hnb hc hw henv => newRow_went hr hnb hc hw⟩
    split at h
    · split at h
      · rename_i len e' _ t _ l hd
        refine ⟨_, _, h, fun g w w' vs hr hnb hc hw henv => ?_⟩
        obtain ⟨a1, a2, a3⟩ := decs_sound hd hc
        obtain ⟨g', x1, x2, x3, x4, x5⟩ := newArr_went (cap := l.length) hr hnb hw (Nat.le_refl _) (by rw [a1, a2]; exact Nat.le_refl _) a3
        refine ⟨g', x1, x2, ?_, x3⟩
        refine .ptr _ _ _ _ _ (by rw [x4]; exact fun h => by cases h) ⟨_, rfl⟩ (fun t' k' n h => ?_) (fun h _ => ?_) (fun h _ => ?_)
        · rw [x4] at h; cases h
          exact ⟨Nat.le_refl _, fun _ => ⟨_, _, x5, by simp⟩⟩
        · rw [x4] at h; cases h
        · rw [x4] at h; cases h
      · exact ⟨_, _, h, fun g w w' vs hr hnb hc hw henv => newRow_went hr hnb hc hw⟩
    · exact ⟨_, _, h, fun g w w' vs hr hnb hc hw henv => newRow_went hr hnb hc hw⟩
  · exact ⟨_, _, h, fun g w w' vs hr hnb hc hw henv => newRow_went hr hnb hc hw⟩

/-- What a slice's list stands for in memory: the elements' cells, from the slice's address on. -/
theorem listOf_sound {t : Ty} {x : AV} {H : Hp} {l : List t.den} {g : Gh} {w : World} {u : Value} (h : listOf t x H = some l) (hr : HRel g H w) (hu : RelV g w x u) :
    ∃ a cap, u = .slice a l.length cap ∧ l.length ≤ cap ∧ (∀ i y, l[i]? = some y → ∃ ad, a = some ad ∧ ∃ c, RelT g.F w t y c ∧ ∀ j v, c[j]? = some v → w.cell? (ad.add (i * t.size + j)) = some v) := by
  cases x with
  | nils => simp only [listOf] at h; cases h; cases hu; exact ⟨none, 0, rfl, Nat.le_refl _, fun i y h => by simp at h⟩
  | vals t' l' =>
    simp only [listOf] at h
    obtain ⟨e, rfl⟩ := castL_some h
    subst e
    cases hu with
    | vals _ _ _ ht =>
      obtain ⟨a, cap, e, hl, hc⟩ := ht
      cases e
      exact ⟨a, cap, rfl, hl, fun i y hy => by
        obtain ⟨ad, h1, _, c, h2, h3⟩ := hc i y hy
        exact ⟨ad, h1, c, h2, h3⟩⟩
  | own b k =>
    simp only [listOf] at h
    split at h
    · rename_i t' l' k' hb
      obtain ⟨hk, h⟩ := br_none h
      have hk := Nat.eq_of_beq_eq_true hk
      obtain ⟨e, rfl⟩ := castL_some h
      subst e
      have hG : g.G b = .arr t' k' l'.length := by rw [hr.kd b (by rw [hb]; exact fun h => by cases h), hb]; rfl
      cases hu with
      | own _ _ _ hn hs ha =>
        obtain ⟨a, cap, rfl, hle, hor⟩ := (ha _ _ _ hG).2 hk
        refine ⟨a, cap, rfl, hle, fun i y hy => ?_⟩
        have hB := hr.blk b
        rw [hb] at hB
        rcases hB with ⟨_, rfl⟩ | ⟨r', cap', vs, e, h1, h2, h3, h4, h5⟩
        · simp at hy
        rcases hor with ⟨h6, _⟩ | ⟨r2, h6, h7⟩
        · rw [h1] at h6; cases h6
        rw [h1] at h6; cases h6
        obtain ⟨c, a1, a2⟩ := h5 i y hy
        exact ⟨_, h7, c, a1, fun j v hj => by rw [add_mk, cell_at h2, Nat.zero_add]; exact a2 j v hj⟩
    · cases h
  | sref b off len k lim =>
    simp only [listOf] at h
    split at h
    · rename_i t' l' k' hb
      obtain ⟨hk, h⟩ := br_none h
      have hk := Nat.eq_of_beq_eq_true hk
      split at h
      · rename_i l2 hl2
        cases h
        obtain ⟨e, rfl⟩ := castL_some hl2
        subst e
        have hG : g.G b = .arr t' k' l'.length := by rw [hr.kd b (by rw [hb]; exact fun h => by cases h), hb]; rfl
        cases hu with
        | sref _ _ _ _ _ _ hn hs ha =>
          obtain ⟨hoff, a, cap, rfl, hle, _, hor⟩ := (ha _ _ _ hG).2 hk
          have hll : ((l'.drop off).take len).length = len := by simp; omega
          refine ⟨a, cap, by rw [hll], by rw [hll]; exact hle, fun i y hy => ?_⟩
          have hi : i < len := by
            have := (List.getElem?_eq_some_iff.1 hy).1
            rw [hll] at this; exact this
          rw [List.getElem?_take, if_pos hi, List.getElem?_drop] at hy
          have hB := hr.blk b
          rw [hb] at hB
          rcases hB with ⟨_, rfl⟩ | ⟨r', cap', vs, e, h1, h2, h3, h4, h5⟩
          · simp at hy
          obtain ⟨r2, c2, h6, h7⟩ := hor (by omega)
          rw [h1] at h6; cases h6
          obtain ⟨c, a1, a2⟩ := h5 (off + i) y hy
          exact ⟨_, h7, c, a1, fun j v hj => by
            rw [add_mk, cell_at h2]
            have := a2 j v hj
            rw [← this]; congr 1; rw [Nat.add_mul]; omega⟩
      · cases h
    · cases h
  | _ => simp [listOf] at h

/-- A list's cells, one element behind the other. -/
theorem flat_cells {F : Nat → Prop} {w : World} {t : Ty} : ∀ (l : List t.den) (Q : Nat → List Value → Prop), (∀ i y, l[i]? = some y → ∃ c, RelT F w t y c ∧ Q i c) →
    ∃ cs : List (List Value), cs.length = l.length ∧ ∀ i y, l[i]? = some y → ∃ c, cs[i]? = some c ∧ RelT F w t y c ∧ Q i c
  | [], Q, h => ⟨[], rfl, fun i y h => by simp at h⟩
  | x :: l, Q, h => by
    obtain ⟨c, h1, h2⟩ := h 0 x rfl
    obtain ⟨cs, h3, h4⟩ := flat_cells l (fun i => Q (i + 1)) (fun i y hy => h (i + 1) y (by simpa using hy))
    refine ⟨c :: cs, by simp [h3], fun i y hy => ?_⟩
    cases i with
    | zero => simp at hy; subst hy; exact ⟨c, rfl, h1, h2⟩
    | succ i => simp at hy; obtain ⟨c', a1, a2, a3⟩ := h4 i y hy; exact ⟨c', by simpa using a1, a2, a3⟩

theorem flatten_get {n : Nat} : ∀ (cs : List (List Value)) (i : Nat) (c : List Value), (∀ c ∈ cs, c.length = n) → cs[i]? = some c → ∀ j, j < n → cs.flatten[i * n + j]? = c[j]?
  | [], i, c, _, h, _, _ => by simp at h
  | d :: cs, i, c, hl, h, j, hj => by
    have hd := hl d (by simp)
    cases i with
    | zero =>
      simp at h; subst h
      simp only [List.flatten_cons, Nat.zero_mul, Nat.zero_add]
      rw [List.getElem?_append_left (by omega)]
    | succ i =>
      simp at h
      have := flatten_get cs i c (fun c hc => hl c (by simp [hc])) h j hj
      simp only [List.flatten_cons]
      rw [List.getElem?_append_right (by rw [hd, Nat.succ_mul]; omega), hd, ← this]
      congr 1; rw [Nat.succ_mul]; omega
theorem flatten_len {n : Nat} : ∀ (cs : List (List Value)), (∀ c ∈ cs, c.length = n) → cs.flatten.length = cs.length * n
  | [], _ => by simp
  | d :: cs, h => by
    simp only [List.flatten_cons, List.length_append, List.length_cons]
    rw [flatten_len cs (fun c hc => h c (by simp [hc])), h d (by simp), Nat.succ_mul]; omega

/-- The cells of a list in memory, from address ad on, as one list. -/
theorem list_cells {F : Nat → Prop} {w : World} {t : Ty} {l : List t.den} {ad : Addr} (h : ∀ i y, l[i]? = some y → ∃ c, RelT F w t y c ∧ ∀ j v, c[j]? = some v → w.cell? (ad.add (i * t.size + j)) = some v) :
    ∃ vs : List Value, vs.length = l.length * t.size ∧ (∀ j v, vs[j]? = some v → w.cell? (ad.add j) = some v) ∧ (∀ i y, l[i]? = some y → ∃ c, RelT F w t y c ∧ ∀ j v, c[j]? = some v → vs[i * t.size + j]? = some v) ∧ (∀ v ∈ vs, v.oneCell' = true) := by
  obtain ⟨cs, h1, h2⟩ := flat_cells l _ h
  have hlen : ∀ c ∈ cs, c.length = t.size := fun c hc => by
    obtain ⟨i, hi⟩ := List.getElem?_of_mem hc
    have hil : i < l.length := by rw [← h1]; exact (List.getElem?_eq_some_iff.1 hi).1
    obtain ⟨c', a1, a2, _⟩ := h2 i l[i] (List.getElem?_eq_getElem hil)
    rw [hi] at a1; cases a1; exact a2.len
  have hfl := flatten_len cs hlen
  refine ⟨cs.flatten, by rw [hfl, h1], fun j v hj => ?_, fun i y hy => ?_, fun v hv => ?_⟩
  · have hjl : j < cs.flatten.length := (List.getElem?_eq_some_iff.1 hj).1
    have hpos : 0 < t.size := by
      rcases Nat.eq_zero_or_pos t.size with e | e
      · rw [hfl, e] at hjl; omega
      · exact e
    have hil : j / t.size < l.length := by
      rw [hfl, h1] at hjl
      exact (Nat.div_lt_iff_lt_mul hpos).2 hjl
    obtain ⟨c, a1, a2, a3⟩ := h2 (j / t.size) l[j / t.size] (List.getElem?_eq_getElem hil)
    have hm := Nat.mod_lt j hpos
    have e := flatten_get cs (j / t.size) c hlen a1 (j % t.size) hm
    have hj' : j / t.size * t.size + j % t.size = j := by rw [Nat.mul_comm]; exact Nat.div_add_mod j t.size
    rw [hj', hj] at e
    have := a3 (j % t.size) v e.symm
    rw [hj'] at this; exact this
  · obtain ⟨c, a1, a2, a3⟩ := h2 i y hy
    refine ⟨c, a2, fun j v hj => ?_⟩
    have hj' : j < t.size := by rw [← a2.len]; exact (List.getElem?_eq_some_iff.1 hj).1
    rw [flatten_get cs i c hlen a1 j hj']; exact hj
  · obtain ⟨c, hc, hv⟩ := List.mem_flatten.1 hv
    obtain ⟨i, hi⟩ := List.getElem?_of_mem hc
    have hil : i < l.length := by rw [← h1]; exact (List.getElem?_eq_some_iff.1 hi).1
    obtain ⟨c', a1, a2, _⟩ := h2 i l[i] (List.getElem?_eq_getElem hil)
    rw [hi] at a1; cases a1
    exact all_oneT a2 v hv
end Go.VI

end
section
/- Append. -/
namespace Go.VI
set_option linter.unusedVariables false
set_option linter.unusedSimpArgs false
variable {R : Type} {P : Program}

theorem growBy_le (m : Nat) : ∀ (k c : Nat), Builtin.growBy m k c ≤ max c (m + (m + 768) / 4)
  | 0, c => by simp only [Builtin.growBy]; omega
  | k + 1, c => by
    simp only [Builtin.growBy]
    split
    · omega
    · have := growBy_le m k (c + (c + 768) / 4)
      omega
theorem nextcap_le {need old : Nat} (h : old < need) : Builtin.nextslicecap need old ≤ 2 * need + 192 := by
  unfold Builtin.nextslicecap
  split
  · omega
  · split
    · omega
    · have := growBy_le need 4 old
      omega

theorem rowOk_spec {e : TypeId} {t : Ty} (h : rowOk P e t = true) : ∃ i z, P.info? e = some i ∧ i.bytes ≤ 16384 ∧ i.size = t.size ∧ i.zero = some z ∧ z.cells.size = i.size := by
  unfold rowOk at h
  split at h
  · rename_i i hi
    have h : ((Nat.ble i.bytes 16384) && ((Nat.beq i.size t.size) && (match i.zero with
      | some z => Nat.beq z.cells.size i.size
      | none => false))) = true := h
    rw [Bool.and_eq_true, Bool.and_eq_true] at h
    obtain ⟨h1, h2, h3⟩ := h
    split at h3
    · rename_i z hz
      exact ⟨i, z, hi, Nat.le_of_ble_eq_true h1, Nat.eq_of_beq_eq_true h2, hz, Nat.eq_of_beq_eq_true h3⟩
    · cases h3
  · cases h

theorem run_firstCells {w : World} {size n : Nat} {a : Option Addr} {l c : Nat} {vs : List Value} (hn : vs.length = n * size) (h : vs ≠ [] → ∃ ad, a = some ad) (hc : ∀ ad, a = some ad → ∀ j v, vs[j]? = some v → w.cell? (ad.add j) = some v) :
    (Builtin.firstCells size n (.slice a l c)).run P w = .ok vs.toArray w := by
  cases a with
  | none =>
    have : vs = [] := Classical.byContradiction fun hne => by obtain ⟨ad, h⟩ := h hne; cases h
    subst this; rfl
  | some ad =>
    simp only [Builtin.firstCells]
    rw [← hn]
    exact run_loadCells_list w ad vs (hc ad rfl)

section
variable {st xt ty e : TypeId} {i : TypeInfo} {z : Value} {w : World}

/-- There is no room: a new row. -/
theorem run_append_grow {a xa : Option Addr} {sLen sCap n xc : Nat} {old new : List Value} (ht : P.underlying st = some (.slice e)) (hx : ∃ e', P.underlying xt = some (.slice e')) (hi : P.info? e = some i) (hb : i.bytes ≤ 16384) (hz : i.zero = some z) (hzs : z.cells.size = i.size)
    (hold : old.length = sLen * i.size) (hnew : new.length = n * i.size) (h1 : old ≠ [] → ∃ ad, a = some ad) (h2 : ∀ ad, a = some ad → ∀ j v, old[j]? = some v → w.cell? (ad.add j) = some v)
    (h3 : new ≠ [] → ∃ ad, xa = some ad) (h4 : ∀ ad, xa = some ad → ∀ j v, new[j]? = some v → w.cell? (ad.add j) = some v) (hroom : sCap < sLen + n) (hmax : sLen + n ≤ maxElems) :
    ∃ (newCap : Nat) (rest : List Value) (w' : World), sLen + n ≤ newCap ∧ rest.length = (newCap - (sLen + n)) * i.size ∧ w'.heap = w.heap.push (.cells (old ++ new ++ rest).toArray e) ∧ Env w w' ∧
      (Builtin.append_ #[st, xt] ty #[.slice a sLen sCap, .slice xa n xc]).run P w = .ok (.slice (some ⟨w.heap.size, 0, none⟩) (sLen + n) newCap) w' := by
  obtain ⟨e', hx⟩ := hx
  unfold maxElems at hmax
  have hcap := nextcap_le hroom
  have hle : ¬ (Builtin.nextslicecap (sLen + n) sCap * i.bytes > 2 ^ 48) := by
    have h1 : Builtin.nextslicecap (sLen + n) sCap * i.bytes ≤ (2 * (sLen + n) + 192) * 16384 := Nat.mul_le_mul hcap hb
    have h2 : (2 * (sLen + n) + 192) * 16384 ≤ (2 * 4294967296 + 192) * 16384 := Nat.mul_le_mul_right _ (by omega)
    omega
  let q : Question := .appendCap (sLen + n) sCap e
  let nc : Nat := q.cut (w.tape w.drawn q)
  have hnc : sLen + n ≤ nc := by show _ ≤ (sLen + n) + _; omega
  let w1 : World := { w with drawn := w.drawn + 1 }
  have hold' : (Builtin.firstCells i.size sLen (.slice a sLen sCap)).run P w1 = .ok old.toArray w1 := run_firstCells hold h1 (fun ad had j v hj => by rw [← h2 ad had j v hj]; rfl)
  have hnew' : (Builtin.firstCells i.size n (.slice xa n xc)).run P w1 = .ok new.toArray w1 := run_firstCells hnew h3 (fun ad had j v hj => by rw [← h4 ad had j v hj]; rfl)
  refine ⟨nc, (Builtin.zeroCells z.cells (nc - (sLen + n))).toList, { w1 with heap := w1.heap.push (.cells (old ++ new ++ (Builtin.zeroCells z.cells (nc - (sLen + n))).toList).toArray e) }, hnc, by simp [Builtin.zeroCells, hzs], rfl, ⟨rfl, rfl, rfl⟩, ?_⟩
  have hchoose : (choose (.appendCap (sLen + n) sCap e)).run P w = .ok nc w1 := by
    rw [run_choose]; rfl
  have hneg : ¬ (((sLen + n : Nat) : Int) > IntKind.i64.max ∧ (false = true ∨ i.bytes = 0)) := by
    intro h
    have : IntKind.i64.max = 9223372036854775807 := by decide
    rw [this] at h
    omega
  simp only [Builtin.append_, Sem.run_bind, run_underlying ht, run_underlying hx, run_sizeOf' hi, Result.andThen_ok, List.getElem?_toArray, List.getElem?_cons_zero, List.getElem?_cons_succ, Sem.run_pure, Bool.false_eq_true, if_false, Builtin.lenOf, typeInfo, run_program, hi, zeroValue, hz, Bool.not_false, if_true, Sem.run_ite, if_neg (Nat.not_le.2 hroom), if_neg hneg, if_neg hle, hchoose, run_askRoom, hold', hnew', newRow, run_newObj, Bool.not_true]
  simp
  rw [if_neg (by rintro ⟨h, _⟩; omega)]
  have : ((old ++ new).toArray ++ Builtin.zeroCells z.cells (nc - (sLen + n))) = (old ++ (new ++ (Builtin.zeroCells z.cells (nc - (sLen + n))).toList)).toArray := by apply Array.ext'; simp
  rw [this]

/-- There is room: written in place. -/
theorem run_append_room {r sLen sCap n xc : Nat} {xa : Option Addr} {vs : Array Value} {e2 : TypeId} {new : List Value} (ht : P.underlying st = some (.slice e)) (hx : ∃ e', P.underlying xt = some (.slice e')) (hi : P.info? e = some i)
    (hnew : new.length = n * i.size) (h3 : new ≠ [] → ∃ ad, xa = some ad) (h4 : ∀ ad, xa = some ad → ∀ j v, new[j]? = some v → w.cell? (ad.add j) = some v) (hroom : sLen + n ≤ sCap)
    (hh : w.heap[r]? = some (.cells vs e2 (0, 0))) (hp : sLen * i.size + new.length ≤ vs.size) (h1 : ∀ v ∈ new, v.oneCell' = true) :
    (Builtin.append_ #[st, xt] ty #[.slice (some ⟨r, 0, none⟩) sLen sCap, .slice xa n xc]).run P w =
      .ok (.slice (some ⟨r, 0, none⟩) (sLen + n) sCap) (w.setRow r (vs.toList.take (sLen * i.size) ++ new ++ vs.toList.drop (sLen * i.size + new.length)).toArray) := by
  obtain ⟨e', hx⟩ := hx
  have hnew' : (Builtin.firstCells i.size n (.slice xa n xc)).run P w = .ok new.toArray w := run_firstCells hnew h3 h4
  have hst := run_storeCells_at (P := P) r (sLen * i.size) e2 new 0 vs w hh (by simpa using hp) h1
  simp only [Builtin.append_, Sem.run_bind, run_underlying ht, run_underlying hx, run_sizeOf' hi, Result.andThen_ok, List.getElem?_toArray, List.getElem?_cons_zero, List.getElem?_cons_succ, Sem.run_pure, Bool.false_eq_true, if_false, Builtin.lenOf, Bool.not_false, if_true, Sem.run_ite, if_pos hroom, hnew', add_mk, Nat.zero_add, hst, Nat.add_zero]
/-- Nothing is added to what is not there. -/
theorem run_append_empty {a xa : Option Addr} {m c xc : Nat} (hmc : m ≤ c) (ht : P.underlying st = some (.slice e)) (hx : ∃ e', P.underlying xt = some (.slice e')) (hi : P.info? e = some i) :
    (Builtin.append_ #[st, xt] ty #[.slice a m c, .slice xa 0 xc]).run P w = .ok (.slice a m c) w := by
  obtain ⟨e', hx⟩ := hx
  have hnew' : (Builtin.firstCells i.size 0 (.slice xa 0 xc)).run P w = .ok (([] : List Value).toArray) w := run_firstCells (by simp) (fun h => absurd rfl h) (fun ad _ j v h => by simp at h)
  cases a <;> simp only [Builtin.append_, Sem.run_bind, run_underlying ht, run_underlying hx, run_sizeOf' hi, Result.andThen_ok, List.getElem?_toArray, List.getElem?_cons_zero, List.getElem?_cons_succ, Sem.run_pure, Bool.false_eq_true, if_false, Builtin.lenOf, Bool.not_false, if_true, Sem.run_ite, if_pos hmc, hnew', Nat.add_zero]
  rfl
theorem run_append_nil {xa : Option Addr} {xc : Nat} (ht : P.underlying st = some (.slice e)) (hx : ∃ e', P.underlying xt = some (.slice e')) (hi : P.info? e = some i) :
    (Builtin.append_ #[st, xt] ty #[.slice none 0 0, .slice xa 0 xc]).run P w = .ok (.slice none 0 0) w := by
  obtain ⟨e', hx⟩ := hx
  have hnew' : (Builtin.firstCells i.size 0 (.slice xa 0 xc)).run P w = .ok (([] : List Value).toArray) w := run_firstCells (by simp) (fun h => absurd rfl h) (fun ad _ j v h => by simp at h)
  simp only [Builtin.append_, Sem.run_bind, run_underlying ht, run_underlying hx, run_sizeOf' hi, Result.andThen_ok, List.getElem?_toArray, List.getElem?_cons_zero, List.getElem?_cons_succ, Sem.run_pure, Bool.false_eq_true, if_false, Builtin.lenOf, Bool.not_false, if_true, Sem.run_ite, if_pos (Nat.le_refl (0 + 0)), hnew', Nat.add_zero]
end

theorem HRel.bump {g : Gh} {H : Hp} {w : World} {b k : Nat} {t : Ty} (hr : HRel g H w) (hs : H b = .arr t [] k) (hi : g.i b = none) :
    Ext g H w [b] ⟨g.F, g.i, upd g.G b (.arr t (k + 1) 0)⟩ (upd H b (.arr t [] (k + 1))) w ∧ HRel ⟨g.F, g.i, upd g.G b (.arr t (k + 1) 0)⟩ (upd H b (.arr t [] (k + 1))) w ∧ (∀ b', g.G b' = .none → (⟨g.F, g.i, upd g.G b (.arr t (k + 1) 0)⟩ : Gh).G b' ≠ .none → False) := by
  have hs' : H b ≠ .gone := by rw [hs]; exact fun h => by cases h
  obtain ⟨hn, hd⟩ := live_of hr hs'
  have hGb : g.G b = .arr t k 0 := by rw [hr.kd b (fun e => hs' e), hs]; rfl
  have hG : ∀ b', (upd g.G b (.arr t (k + 1) 0) b' ≠ .none ∧ upd g.G b (.arr t (k + 1) 0) b' ≠ .dead) → g.G b' ≠ .none ∧ g.G b' ≠ .dead := fun b' h => by
    by_cases e : b' = b
    · subst e; exact ⟨hn, hd⟩
    · rw [upd_ne _ _ e] at h; exact h
  have he : Ext g H w [b] ⟨g.F, g.i, upd g.G b (.arr t (k + 1) 0)⟩ (upd H b (.arr t [] (k + 1))) w := by
    refine ⟨fun _ h => h, fun _ h => .inl h, Nat.le_refl _, fun _ _ _ => rfl, fun b' hb' _ => ?_, fun b' hb' hm => ?_, fun b' hb' _ r' c' h => .inl ⟨c', h⟩, fun b' hb' _ => ?_, fun b' r' c' h h' hi' => ?_, .refl w⟩
    · rw [List.mem_singleton] at hb'; subst hb'; exact hs'
    · have e : b' ≠ b := fun e => hm (List.mem_singleton.2 e)
      exact ⟨upd_ne _ _ e, rfl, upd_ne _ _ e⟩
    · rw [List.mem_singleton] at hb'; subst hb'
      exact .inr (.inr (.inr (.inr (.inl ⟨t, k, 0, k + 1, 0, hGb, upd_same _ _ _, Nat.lt_succ_self _⟩))))
    · have h' : upd g.G b (.arr t (k + 1) 0) b' ≠ .none := h'
      by_cases e : b' = b
      · subst e; exact absurd h hn
      · rw [upd_ne _ _ e] at h'; exact absurd h h'
  refine ⟨he, ⟨fun b' => ?_, fun b' hb => ?_, fun b1 b2 r1 c1 c2 h1 h2 h3 h4 h5 h6 => ?_, fun b1 r1 c1 h1 h2 h3 => ?_, hr.ex⟩, fun b' h h' => ?_⟩
  · by_cases e : b' = b
    · subst e; rw [upd_same]; exact .inl ⟨hi, rfl⟩
    · rw [upd_ne _ _ e]
      by_cases hg : H b' = .gone
      · rw [hg]; exact trivial
      · exact RelB.step he hr hg (fun h => e (List.mem_singleton.1 h))
  · show upd g.G b (.arr t (k + 1) 0) b' = _
    by_cases e : b' = b
    · subst e; rw [upd_same, upd_same]; rfl
    · rw [upd_ne _ _ e, upd_ne _ _ e]
      exact hr.kd b' (fun h => hb (by rw [upd_ne _ _ e]; exact h))
  · obtain ⟨k3, k4⟩ := hG b1 ⟨h3, h4⟩
    obtain ⟨k5, k6⟩ := hG b2 ⟨h5, h6⟩
    exact hr.inj b1 b2 r1 c1 c2 h1 h2 k3 k4 k5 k6
  · obtain ⟨k3, k4⟩ := hG b1 ⟨h2, h3⟩
    exact hr.disj b1 r1 c1 h1 k3 k4
  · have h' : upd g.G b (.arr t (k + 1) 0) b' ≠ .none := h'
    by_cases e : b' = b
    · subst e; exact hn h
    · rw [upd_ne _ _ e] at h'; exact h' h

theorem chunk_app {F : Nat → Prop} {w : World} {t : Ty} {l m : List t.den} {old new rest : List Value} (hold : old.length = l.length * t.size) (hnew : new.length = m.length * t.size)
    (h1 : ∀ i y, l[i]? = some y → ∃ c, RelT F w t y c ∧ ∀ j v, c[j]? = some v → old[i * t.size + j]? = some v) (h2 : ∀ i y, m[i]? = some y → ∃ c, RelT F w t y c ∧ ∀ j v, c[j]? = some v → new[i * t.size + j]? = some v) :
    ∀ i y, (l ++ m)[i]? = some y → ∃ c, RelT F w t y c ∧ ∀ j v, c[j]? = some v → (old ++ new ++ rest)[i * t.size + j]? = some v := by
  intro i y hy
  by_cases hi : i < l.length
  · rw [List.getElem?_append_left hi] at hy
    obtain ⟨c, a1, a2⟩ := h1 i y hy
    refine ⟨c, a1, fun j v hj => ?_⟩
    have hj' : j < t.size := by rw [← a1.len]; exact (List.getElem?_eq_some_iff.1 hj).1
    have : (i + 1) * t.size ≤ l.length * t.size := Nat.mul_le_mul_right _ hi
    rw [Nat.succ_mul] at this
    rw [List.append_assoc, List.getElem?_append_left (by omega)]; exact a2 j v hj
  · rw [List.getElem?_append_right (by omega)] at hy
    obtain ⟨c, a1, a2⟩ := h2 _ y hy
    refine ⟨c, a1, fun j v hj => ?_⟩
    have hj' : j < t.size := by rw [← a1.len]; exact (List.getElem?_eq_some_iff.1 hj).1
    have hlm : i - l.length < m.length := (List.getElem?_eq_some_iff.1 hy).1
    have e1 : ((i - l.length) + 1) * t.size ≤ m.length * t.size := Nat.mul_le_mul_right _ hlm
    rw [Nat.succ_mul] at e1
    have e2 : i * t.size = l.length * t.size + (i - l.length) * t.size := by rw [← Nat.add_mul]; congr 1; omega
    rw [List.append_assoc, List.getElem?_append_right (by omega), List.getElem?_append_left (by omega), ← a2 j v hj]
    congr 1; omega

/-- What append comes to. -/
theorem appendO_sound {e : TypeId} {s x : AV} {H : Hp} {nb n : Nat} {κ : KO R} {r : R} (h : appendO P e s x H nb n κ = some r) :
    ∃ v H' D, κ v H' n D = some r ∧ ∀ (g : Gh) (w : World) (us ux : Value) (st xt ty : TypeId), P.underlying st = some (.slice e) → (∃ e', P.underlying xt = some (.slice e')) → HRel g H w → g.G nb = .none → RelV g w s us → RelV g w x ux →
      ∃ u w', (Builtin.append_ #[st, xt] ty #[us, ux]).run P w = .ok u w' ∧ ∃ g', Went g H w (fun b => b = nb) v H' D u w' g' := by
  have cells : ∀ {t : Ty} {l : List t.den} {g : Gh} {w : World} {ux : Value}, HRel g H w → RelV g w x ux → listOf t x H = some l → ∃ xa xc new, ux = .slice xa l.length xc ∧ new.length = l.length * t.size ∧ (new ≠ [] → ∃ ad, xa = some ad) ∧
      (∀ ad, xa = some ad → ∀ j v, new[j]? = some v → w.cell? (ad.add j) = some v) ∧ (∀ i y, l[i]? = some y → ∃ c, RelT g.F w t y c ∧ ∀ j v, c[j]? = some v → new[i * t.size + j]? = some v) ∧ (∀ v ∈ new, v.oneCell' = true) := by
    intro t l g w ux hr hx hl
    obtain ⟨xa, xc, rfl, hle, hc⟩ := listOf_sound hl hr hx
    cases xa with
    | none =>
      have : l = [] := by
        cases l with
        | nil => rfl
        | cons y l => obtain ⟨ad, h, _⟩ := hc 0 y rfl; cases h
      subst this
      exact ⟨none, xc, [], rfl, by simp, fun h => absurd rfl h, (fun ad h => by cases h), (fun i y h => by simp at h), (fun v h => by cases h)⟩
    | some ad =>
      obtain ⟨vs, h1, h2, h3, h4⟩ := list_cells (F := g.F) (w := w) (t := t) (l := l) (ad := ad) (fun i y hy => by
        obtain ⟨ad', e, c, a1, a2⟩ := hc i y hy
        cases e; exact ⟨c, a1, a2⟩)
      exact ⟨some ad, xc, vs, rfl, h1, fun _ => ⟨ad, rfl⟩, fun ad' e => by cases e; exact h2, h3, h4⟩
  have ownOk : ∀ {g' : Gh} {w' : World} {b k n cap : Nat} {t : Ty} {a : Option Addr}, g'.G b = .arr t k n → n ≤ cap → ((g'.i b = none ∧ cap = 0) ∨ (∃ r, g'.i b = some (r, cap) ∧ a = some ⟨r, 0, none⟩)) → RelV g' w' (.own b k) (.slice a n cap) := by
    intro g' w' b k n cap t a hG hle hor
    refine .own _ _ _ (by rw [hG]; exact fun h => by cases h) ⟨_, _, _, rfl⟩ (fun t' k' n' h => ?_)
    rw [hG] at h; cases h
    exact ⟨Nat.le_refl _, fun _ => ⟨_, _, rfl, hle, hor⟩⟩
  unfold appendO at h
  cases s with
  | nils =>
    simp only at h
    split at h
    case h_2 => cases h
    rename_i t hty
    obtain ⟨hok, h⟩ := br_none h
    obtain ⟨i, z, hi, hb, hsz, hz, hzs⟩ := rowOk_spec hok
    split at h
    case h_2 => cases h
    rename_i l hl
    obtain ⟨hmax, h⟩ := br_none h
    have hmax := Nat.le_of_ble_eq_true hmax
    refine ⟨_, _, _, h, fun g w us ux st xt ty ht hxt hr hnb hs hx => ?_⟩
    cases hs
    obtain ⟨xa, xc, new, rfl, n1, n2, n3, n4, n5⟩ := cells hr hx hl
    by_cases hz0 : l.length = 0
    · have : l = [] := List.eq_nil_of_length_eq_zero hz0
      subst this
      refine ⟨_, w, run_append_nil ht hxt hi, ?_⟩
      obtain ⟨x1, x2, x3⟩ := HRel.allocNil (t := t) hr hnb (rfl : w.heap = w.heap)
      exact ⟨_, x1, x2, ownOk (t := t) (Gh.new_G ..) (Nat.le_refl _) (.inl ⟨Gh.new_i .., rfl⟩), x3⟩
    · obtain ⟨nc, rest, w', g1, g2, g3, genv, g4⟩ := run_append_grow (P := P) (ty := ty) (a := none) (sLen := 0) (sCap := 0) (n := l.length) (xa := xa) (xc := xc) (old := []) (new := new) ht hxt hi hb hz hzs (by simp) (by rw [n1, hsz]) (fun h => absurd rfl h) (fun ad h => by cases h) n2 n3 (by omega) (by simpa using hmax)
      refine ⟨_, w', g4, ?_⟩
      obtain ⟨g', x1, x2, x3, x4, x5⟩ := newArr_went (cap := nc) (t := t) (l := l) (vs := [] ++ new ++ rest) hr hnb g3 (by omega) (by simp [n1, g2, hsz]; rw [← Nat.add_mul]; exact Nat.mul_le_mul_right _ (by omega))
        (fun i y hy => by
          have := chunk_app (F := g.F) (w := w) (t := t) (l := []) (m := l) (old := []) (new := new) (rest := rest) (by simp) n1 (fun i y h => by simp at h) n4 i y (by simpa using hy)
          exact this)
      exact ⟨g', x1, x2, by
        have := ownOk (w' := w') x4 (by omega : l.length ≤ nc) (.inr ⟨_, x5, rfl⟩)
        simpa using this, x3⟩
  | own b k =>
    simp only at h
    split at h
    case h_2 => cases h
    rename_i t l k' hbk
    obtain ⟨hok, h⟩ := br_none h
    have hok : ((Nat.beq k k') && (rowOk P e t)) = true := hok
    rw [Bool.and_eq_true] at hok
    obtain ⟨hk, hok⟩ := hok
    have hk := Nat.eq_of_beq_eq_true hk
    obtain ⟨i, z, hi, hb, hsz, hz, hzs⟩ := rowOk_spec hok
    split at h
    case h_2 => cases h
    rename_i m hm
    obtain ⟨hne, h⟩ := none_br h
    obtain ⟨hmax, h⟩ := br_none h
    have hmax := Nat.le_of_ble_eq_true hmax
    refine ⟨_, _, _, h, fun g w us ux st xt ty ht hxt hr hnb hs hx => ?_⟩
    have hs' : H b ≠ .gone := by rw [hbk]; exact fun h => by cases h
    have hG : g.G b = .arr t k' l.length := by rw [hr.kd b (fun e => hs' e), hbk]; rfl
    have hB := hr.blk b
    rw [hbk] at hB
    obtain ⟨xa, xc, new, rfl, n1, n2, n3, n4, n5⟩ := cells hr hx hm
    cases hs with
    | own _ _ _ hn0 hs0 ha =>
      obtain ⟨a, cap, rfl, hle, hor⟩ := (ha _ _ _ hG).2 hk
      rcases hB with ⟨hi0, rfl⟩ | ⟨r', cap', vs, e2, h1, h2, h3, h4, h5⟩
      · -- nothing there yet
        rcases hor with ⟨_, rfl⟩ | ⟨r2, h6, _⟩
        case inr => rw [hi0] at h6; cases h6
        by_cases hz0 : m.length = 0
        · have : m = [] := List.eq_nil_of_length_eq_zero hz0
          subst this
          refine ⟨_, w, run_append_empty (Nat.le_refl _) ht hxt hi, ?_⟩
          obtain ⟨x1, x2, x3⟩ := HRel.bump hr hbk hi0
          exact ⟨_, x1, x2, ownOk (t := t) (upd_same _ _ _) (Nat.le_refl _) (.inl ⟨hi0, rfl⟩), fun b' h h' => (x3 b' h h').elim⟩
        · obtain ⟨nc, rest, w', g1, g2, g3, genv, g4⟩ := run_append_grow (P := P) (ty := ty) (a := a) (sLen := 0) (sCap := 0) (n := m.length) (xa := xa) (xc := xc) (old := []) (new := new) ht hxt hi hb hz hzs (by simp) (by rw [n1, hsz]) (fun h => absurd rfl h) (fun ad h j v hj => by simp at hj) n2 n3 (by omega) (by simpa using hmax)
          refine ⟨_, w', g4, ?_⟩
          obtain ⟨x1, x2, x3⟩ := HRel.move (cap := nc) (t := t) (l := []) (l' := [] ++ m) (k' := k' + 1) hr hbk g3 (Nat.lt_succ_self _) (fun he => .inr ⟨w.heap.size, nc, ([] ++ new ++ rest).toArray, e, upd_same _ _ _, by rw [g3]; simp, by simpa using (by omega : m.length ≤ nc), by simp [n1, g2, hsz]; rw [← Nat.add_mul]; exact Nat.mul_le_mul_right _ (by omega), fun i y hy => by
            obtain ⟨c, a1, a2⟩ := chunk_app (F := g.F) (w := w) (t := t) (l := []) (m := m) (old := []) (new := new) (rest := rest) (by simp) n1 (fun i y h => by simp at h) n4 i y hy
            exact ⟨c, a1.mono he.mono (he.keepF hr), fun j v hj => by rw [List.getElem?_toArray]; exact a2 j v hj⟩⟩)
          exact ⟨_, x1, x2, by
            have := ownOk (w' := w') (t := t) (g' := ⟨g.F, upd g.i b (some (w.heap.size, nc)), upd g.G b (.arr t (k' + 1) ([] ++ m).length)⟩) (upd_same _ _ _) (by simpa using (by omega : m.length ≤ nc) : ([] ++ m).length ≤ nc) (.inr ⟨_, upd_same _ _ _, rfl⟩)
            simpa using this, fun b' h h' => (x3 b' h h').elim⟩
      · rcases hor with ⟨h6, _⟩ | ⟨r2, h6, rfl⟩
        · rw [h1] at h6; cases h6
        rw [h1] at h6; cases h6
        by_cases hroom : l.length + m.length ≤ cap
        · have hfit : l.length * t.size + new.length ≤ vs.size := by
            rw [n1, ← Nat.add_mul]
            exact Nat.le_trans (Nat.mul_le_mul_right _ hroom) h4
          have hrun := run_append_room (P := P) (ty := ty) (sLen := l.length) (sCap := cap) (n := m.length) (xc := xc) (xa := xa) (new := new) ht hxt hi (by rw [n1, hsz]) n2 n3 hroom h2 (by rw [hsz]; exact hfit) n5
          rw [hsz] at hrun
          refine ⟨_, _, hrun, ?_⟩
          obtain ⟨x1, x2, x3⟩ := HRel.write (w' := w.setRow r' (vs.toList.take (l.length * t.size) ++ new ++ vs.toList.drop (l.length * t.size + new.length)).toArray) (blk := .arr t (l ++ m) (k' + 1)) hr hs' h1 (fun h => by cases h) (setRow_size _ _ _) (fun r'' hne => setRow_other _ _ _ _ hne)
            (.inr (.inr (.inr (.inl ⟨t, k', l.length, k' + 1, (l ++ m).length, hG, rfl, Nat.lt_succ_self _⟩)))) (fun he => .inr ⟨r', cap, _, e2, h1, setRow_heap _ _ _ _ _ _ h2, by simpa using hroom, by simp only [List.size_toArray, List.length_append, List.length_take, List.length_drop, Array.length_toList]; omega, fun i y hy => by
              obtain ⟨c, a1, a2⟩ := chunk_app (F := g.F) (w := w) (t := t) (l := l) (m := m) (old := vs.toList.take (l.length * t.size)) (new := new) (rest := vs.toList.drop (l.length * t.size + new.length)) (by simp; omega) n1 (fun i y hy => by
                obtain ⟨c, a1, a2⟩ := h5 i y hy
                refine ⟨c, a1, fun j v hj => ?_⟩
                have hj' : j < t.size := by rw [← a1.len]; exact (List.getElem?_eq_some_iff.1 hj).1
                have hil : i < l.length := (List.getElem?_eq_some_iff.1 hy).1
                have : (i + 1) * t.size ≤ l.length * t.size := Nat.mul_le_mul_right _ hil
                rw [Nat.succ_mul] at this
                rw [List.getElem?_take, if_pos (by omega), Array.getElem?_toList]; exact a2 j v hj) n4 i y hy
              exact ⟨c, a1.mono he.mono (he.keepF hr), fun j v hj => by rw [List.getElem?_toArray]; exact a2 j v hj⟩⟩)
          exact ⟨_, x1, x2, by
            have := ownOk (w' := w.setRow r' (vs.toList.take (l.length * t.size) ++ new ++ vs.toList.drop (l.length * t.size + new.length)).toArray) (t := t) (g' := ⟨g.F, g.i, upd g.G b (.arr t (k' + 1) (l ++ m).length)⟩) (upd_same _ _ _) (by simpa using hroom : (l ++ m).length ≤ cap) (.inr ⟨r', h1, rfl⟩)
            rw [← List.length_append]; exact this, fun b' h h' => (x3 b' h h').elim⟩
        · have hcell : ∀ i y, l[i]? = some y → ∃ c, RelT g.F w t y c ∧ ∀ j v, c[j]? = some v → w.cell? ((⟨r', 0, none⟩ : Addr).add (i * t.size + j)) = some v := fun i y hy => by
            obtain ⟨c, a1, a2⟩ := h5 i y hy
            exact ⟨c, a1, fun j v hj => by rw [add_mk, cell_at h2, Nat.zero_add]; exact a2 j v hj⟩
          obtain ⟨old, o1, o2, o3, o4⟩ := list_cells hcell
          obtain ⟨nc, rest, w', g1, g2, g3, genv, g4⟩ := run_append_grow (P := P) (ty := ty) (a := some ⟨r', 0, none⟩) (sLen := l.length) (sCap := cap) (n := m.length) (xa := xa) (xc := xc) (old := old) (new := new) ht hxt hi hb hz hzs (by rw [o1, hsz]) (by rw [n1, hsz]) (fun h => ⟨_, rfl⟩) (fun ad h => by cases h; exact o2) n2 n3 (by omega) (by simpa using hmax)
          refine ⟨_, w', g4, ?_⟩
          obtain ⟨x1, x2, x3⟩ := HRel.move (cap := nc) (t := t) (l := l) (l' := l ++ m) (k' := k' + 1) hr hbk g3 (Nat.lt_succ_self _) (fun he => .inr ⟨w.heap.size, nc, (old ++ new ++ rest).toArray, e, upd_same _ _ _, by rw [g3]; simp, by simpa using g1, by simp [n1, o1, g2, hsz]; rw [← Nat.add_mul, ← Nat.add_mul]; exact Nat.mul_le_mul_right _ (by omega), fun i y hy => by
            obtain ⟨c, a1, a2⟩ := chunk_app (F := g.F) (w := w) (t := t) (l := l) (m := m) (old := old) (new := new) (rest := rest) o1 n1 o3 n4 i y hy
            exact ⟨c, a1.mono he.mono (he.keepF hr), fun j v hj => by rw [List.getElem?_toArray]; exact a2 j v hj⟩⟩)
          exact ⟨_, x1, x2, by
            have := ownOk (w' := w') (t := t) (g' := ⟨g.F, upd g.i b (some (w.heap.size, nc)), upd g.G b (.arr t (k' + 1) (l ++ m).length)⟩) (upd_same _ _ _) (by simpa using g1 : (l ++ m).length ≤ nc) (.inr ⟨_, upd_same _ _ _, rfl⟩)
            rw [← List.length_append]; exact this, fun b' h h' => (x3 b' h h').elim⟩
  | sref b off len k lim =>
    cases lim
    · cases h
    simp only at h
    split at h
    case h_2 => cases h
    rename_i t l k' hbk
    obtain ⟨hok, h⟩ := br_none h
    have hok : ((Nat.beq k k') && ((rowOk P e t) && (Nat.ble (off + len) l.length))) = true := hok
    rw [Bool.and_eq_true, Bool.and_eq_true] at hok
    obtain ⟨hk, hok, hofl⟩ := hok
    have hk := Nat.eq_of_beq_eq_true hk
    have hofl := Nat.le_of_ble_eq_true hofl
    obtain ⟨i, z, hi, hb, hsz, hz, hzs⟩ := rowOk_spec hok
    split at h
    case h_2 => cases h
    rename_i m hm
    rcases br_some h with ⟨h1m, h'⟩ | ⟨h1m, h'⟩ <;> clear h
    case inr =>
      have hm0 : m.length = 0 := by
        rcases Nat.eq_zero_or_pos m.length with h0 | h0
        · exact h0
        · have : Nat.ble 1 m.length = true := Nat.ble_eq_true_of_le h0
          rw [this] at h1m; cases h1m
      rcases br_some h' with ⟨hoff, h'⟩ | ⟨_, h'⟩
      · have hoff := Nat.eq_of_beq_eq_true hoff
        subst hoff
        refine ⟨_, _, _, h', fun g w us ux st xt ty ht hxt hr hnb hs hx => ?_⟩
        obtain ⟨xa, xc, new, rfl, n1, n2, n3, n4, n5⟩ := cells hr hx hm
        rw [hm0]
        have hG : g.G b = .arr t k' l.length := by rw [hr.kd b (fun e => by rw [hbk] at e; cases e), hbk]; rfl
        cases hs with
        | sref _ _ _ _ _ _ q1 q2 q3 =>
          obtain ⟨hin, a, cap, rfl, hle, hlim, hne⟩ := (q3 _ _ _ hG).2 hk
          have hcap := hlim rfl
          subst hcap
          have htl : (l.take cap).length = cap := by rw [List.length_take]; omega
          rcases Nat.eq_zero_or_pos cap with h0 | h0
          · subst h0
            obtain ⟨x1, x2, x3⟩ := HRel.reown (l' := l.take 0) (at' := none) hr hnb hbk (.inl ⟨rfl, List.take_zero ..⟩)
            exact ⟨_, w, run_append_empty hle ht hxt hi, _, x1, x2, ownOk (t := t) (n := 0) (upd_same _ _ _) (Nat.le_refl _) (.inl ⟨upd_same _ _ _, rfl⟩), x3⟩
          · obtain ⟨r', c', h6, rfl⟩ := hne (by omega)
            have hB := hr.blk b
            rw [hbk] at hB
            rcases hB with ⟨h1, _⟩ | ⟨r2, cap2, vs, e2, h1, h2, h3, h4, h5⟩
            · rw [h6] at h1; cases h1
            rw [h6] at h1; cases h1
            obtain ⟨x1, x2, x3⟩ := HRel.reown (l' := l.take cap) (at' := some (r', cap)) hr hnb hbk (.inr ⟨r', c', cap, h6, rfl, by omega, by omega, fun i x hx => by
              have hil : i < cap := by have := (List.getElem?_eq_some_iff.1 hx).1; omega
              rw [List.getElem?_take_of_lt hil] at hx; exact hx⟩)
            refine ⟨_, w, run_append_empty hle ht hxt hi, _, x1, x2, ?_, x3⟩
            rw [Nat.zero_mul]
            exact ownOk (t := t) (n := cap) (by show upd _ nb _ nb = _; rw [upd_same, htl]) (Nat.le_refl _) (.inr ⟨r', upd_same _ _ _, rfl⟩)
      refine ⟨_, _, _, h', fun g w us ux st xt ty ht hxt hr hnb hs hx => ?_⟩
      obtain ⟨xa, xc, new, rfl, n1, n2, n3, n4, n5⟩ := cells hr hx hm
      rw [hm0]
      have hG : g.G b = .arr t k' l.length := by rw [hr.kd b (fun e => by rw [hbk] at e; cases e), hbk]; rfl
      have hs0 := hs
      cases hs with
      | sref _ _ _ _ _ _ q1 q2 q3 =>
        obtain ⟨_, a, cap, rfl, hle, _⟩ := (q3 _ _ _ hG).2 hk
        exact ⟨_, w, run_append_empty hle ht hxt hi, g, Went.same hr hs0⟩
    have h := h'
    have h1m := Nat.le_of_ble_eq_true h1m
    obtain ⟨hmax, h⟩ := br_none h
    have hmax := Nat.le_of_ble_eq_true hmax
    refine ⟨_, _, _, h, fun g w us ux st xt ty ht hxt hr hnb hs hx => ?_⟩
    have hs' : H b ≠ .gone := by rw [hbk]; exact fun h => by cases h
    have hG : g.G b = .arr t k' l.length := by rw [hr.kd b (fun e => hs' e), hbk]; rfl
    obtain ⟨xa, xc, new, rfl, n1, n2, n3, n4, n5⟩ := cells hr hx hm
    have hsl : listOf t (.sref b off len k true) H = some ((l.drop off).take len) := by
      simp only [listOf, hbk]
      rw [show Nat.beq k k' = true from by rw [hk]; exact Nat.beq_refl _]
      show (match castL t t l with
        | some l => some ((l.drop off).take len)
        | none => none) = _
      have : castL t t l = some l := by
        unfold castL
        split
        · rfl
        · rename_i hbt
          exfalso
          have : ∀ t : Ty, t.beq t = true := fun t => by
            induction t with
            | int k => cases k <;> rfl
            | bool => rfl
            | f64 => rfl
            | str => rfl
            | slice t ih => exact ih
            | pair a b ih1 ih2 => show ((a.beq a) && (b.beq b)) = true; rw [ih1, ih2]; rfl
            | agg t ih => exact ih
            | nil => rfl
          rw [this] at hbt; cases hbt
      rw [this]
    have hll : ((l.drop off).take len).length = len := by simp; omega
    have hlist := listOf_sound hsl hr hs
    cases hs with
    | sref _ _ _ _ _ _ hn0 hs0 ha =>
      obtain ⟨_, a, cap, rfl, hle, hlim, _⟩ := (ha _ _ _ hG).2 hk
      have hcap := hlim rfl
      obtain ⟨a', cap', e1, _, hcell⟩ := hlist
      rw [hll] at e1; cases e1
      have hold : ∃ old : List Value, old.length = len * t.size ∧ (old ≠ [] → ∃ ad, a = some ad) ∧ (∀ ad, a = some ad → ∀ j v, old[j]? = some v → w.cell? (ad.add j) = some v) ∧ (∀ i y, ((l.drop off).take len)[i]? = some y → ∃ c, RelT g.F w t y c ∧ ∀ j v, c[j]? = some v → old[i * t.size + j]? = some v) := by
        cases a with
        | none =>
          have : len = 0 := by
            rcases Nat.eq_zero_or_pos len with e | e
            · exact e
            · obtain ⟨ad, h, _⟩ := hcell 0 _ (List.getElem?_eq_getElem (by omega)); cases h
          subst this
          exact ⟨[], by simp, fun h => absurd rfl h, (fun ad h => by cases h), (fun i y h => by simp at h)⟩
        | some ad =>
          obtain ⟨vs, v1, v2, v3, v4⟩ := list_cells (F := g.F) (w := w) (t := t) (l := (l.drop off).take len) (ad := ad) (fun i y hy => by
            obtain ⟨ad', e, c, a1, a2⟩ := hcell i y hy
            cases e; exact ⟨c, a1, a2⟩)
          exact ⟨vs, by rw [v1, hll], fun _ => ⟨ad, rfl⟩, fun ad' e => by cases e; exact v2, v3⟩
      obtain ⟨old, o1, o2, o3, o4⟩ := hold
      obtain ⟨nc, rest, w', g1, g2, g3, genv, g4⟩ := run_append_grow (P := P) (ty := ty) (a := a) (sLen := len) (sCap := cap) (n := m.length) (xa := xa) (xc := xc) (old := old) (new := new) ht hxt hi hb hz hzs (by rw [o1, hsz]) (by rw [n1, hsz]) o2 o3 n2 n3 (by omega) (by simpa using hmax)
      refine ⟨_, w', g4, ?_⟩
      obtain ⟨g', x1, x2, x3, x4, x5⟩ := newArr_went (cap := nc) (t := t) (l := (l.drop off).take len ++ m) (vs := old ++ new ++ rest) hr hnb g3 (by rw [List.length_append, hll]; omega) (by
          simp only [List.length_append, o1, n1, g2, hsz]
          rw [← Nat.add_mul, ← Nat.add_mul]; exact Nat.mul_le_mul_right _ (by omega))
        (chunk_app (F := g.F) (w := w) (t := t) (l := (l.drop off).take len) (m := m) (old := old) (new := new) (rest := rest) (by rw [o1, hll]) n1 o4 n4)
      exact ⟨g', x1, x2, by
        have := ownOk (w' := w') x4 (by rw [List.length_append, hll]; omega : ((l.drop off).take len ++ m).length ≤ nc) (.inr ⟨_, x5, rfl⟩)
        rw [List.length_append, hll] at this; exact this, x3⟩
  | _ => cases h
end Go.VI

end
section
/- Arithmetic, comparison, conversion. -/
namespace Go.VI
set_option linter.unusedVariables false
set_option linter.unusedSimpArgs false
variable {R : Type} {P : Program}

theorem bEq_eq (a b : Bool) : bEq a b = (a == b) := by cases a <;> cases b <;> rfl
theorem beq_bytes (a b : ByteArray) : (a.toList == b.toList) = decide (a = b) := by
  by_cases h : a = b
  · subst h; simp
  · rw [decide_eq_false h]
    refine beq_eq_false_iff_ne.2 fun e => h ?_
    rw [ByteArray.toList_eq, ByteArray.toList_eq] at e
    cases a; cases b
    simp only at e
    rw [Array.toList_inj.1 e]
theorem beq_int (a b : Int) : (a == b) = decide (a = b) := by by_cases h : a = b <;> simp [h]

theorem partV_run {g : Gh} {w : World} {t : TypeId} {cs : List AV} {o : Nat} {v : AV} {vs : Array Value} (hp : partV P t cs o = some v) (hc : RelC g w cs vs.toList) : ∃ u, (part t vs o).run P w = .ok u w ∧ RelV g w v u := by
  unfold partV at hp
  split at hp
  · rename_i hk
    split at hp
    · rename_i i hi
      obtain ⟨hle, hp⟩ := br_none hp
      cases hp
      refine ⟨.agg (vs.extract o (o + i.size)), ?_, ?_⟩
      · simp only [part, Sem.run_bind, run_isAgg' hk, Result.andThen_ok, if_true, run_sizeOf' hi, Sem.run_pure]
      · have := RelV.ofAgg ((hc.drop o).take i.size)
        have e : (vs.extract o (o + i.size)) = ((vs.toList.drop o).take i.size).toArray := by
          apply Array.ext'
          simp [Array.toList_extract, List.extract_eq_take_drop]
        rw [e]; exact this
    · cases hp
  · rename_i hk
    obtain ⟨u, hu, hr⟩ := hc.get hp
    rw [Array.getElem?_toList] at hu
    refine ⟨u, ?_, hr⟩
    simp only [part, Sem.run_bind, run_isAgg' hk, Result.andThen_ok, Bool.false_eq_true, if_false, hu, Sem.run_pure]
  · cases hp

theorem eqFs_sound {g : Gh} {w : World} {d : Nat} {rec : TypeId → AV → AV → Option Bool} {cs ds : List AV} {xs ys : Array Value} (hx : RelC g w cs xs.toList) (hy : RelC g w ds ys.toList)
    (ih : ∀ t a b e u v, rec t a b = some e → RelV g w a u → RelV g w b v → (Op.equalIn d t u v).run P w = .ok e w) :
    ∀ {fs : List Field} {e : Bool}, eqFs P rec cs ds fs = some e → (Op.eqFields d xs ys fs).run P w = .ok e w
  | [], e, h => by simp only [eqFs] at h; cases h; rfl
  | f :: fs, e, h => by
    simp only [eqFs] at h
    obtain ⟨hn, h⟩ := none_br h
    split at h <;> try (cases h; done)
    rename_i a ha
    split at h <;> try (cases h; done)
    rename_i b hb
    split at h <;> try (cases h; done)
    rename_i e1 he1
    split at h <;> try (cases h; done)
    rename_i e2 he2
    cases h
    obtain ⟨u, hu, hu'⟩ := partV_run ha hx
    obtain ⟨v, hv, hv'⟩ := partV_run hb hy
    have h1 := ih _ _ _ _ _ _ he1 hu' hv'
    have h2 := eqFs_sound hx hy ih he2
    have hne : f.name ≠ "_" := fun e => by rw [e] at hn; revert hn; decide
    simp only [Op.eqFields, hne, ne_eq, not_false_eq_true, if_true, Sem.run_bind, hu, hv, h1, Result.andThen_ok]
    cases e1
    · rfl
    · simp only [Bool.not_true, Bool.false_eq_true, if_false, h2]; rfl

theorem eqV_sound {g : Gh} {w : World} : ∀ (d D : Nat) (_ : d ≤ D) (t : TypeId) (a b : AV) (e : Bool) (u v : Value), eqV P d t a b = some e → RelV g w a u → RelV g w b v → (Op.equalIn D t u v).run P w = .ok e w
  | 0, D, _, t, a, b, e, u, v, h, _, _ => by cases h
  | d + 1, 0, hD, t, a, b, e, u, v, h, _, _ => by omega
  | d + 1, D + 1, hD, t, a, b, e, u, v, h, hu, hv => by
    simp only [eqV] at h
    split at h <;> try (cases h; done)
    · rename_i ht
      cases a <;> cases b <;> simp only at h <;> try (cases h; done)
      cases h; cases hu; cases hv
      rw [run_equalIn_bool' w D t _ _ ht, bEq_eq]
    · rename_i k ht
      cases a <;> cases b <;> simp only at h <;> try (cases h; done)
      obtain ⟨hk, h'⟩ := br_none h
      clear h
      have := kEq_eq hk; subst this
      cases h'; cases hu; cases hv
      rw [run_equalIn_int w D t _ _ _ _ ht, beq_int]
    · rename_i ht
      cases a <;> cases b <;> simp only at h <;> try (cases h; done)
      cases h; cases hu; cases hv
      rw [run_equalIn_string w D t _ _ ht, beq_bytes]
    · rename_i fs ht
      cases a <;> cases b <;> simp only at h <;> try (cases h; done)
      obtain ⟨hs, h'⟩ := none_br h
      rename_i cs ds
      have hf : P.fieldsOf t = fs := by simp [Program.fieldsOf, ht]
      have e1 := hu.isAgg rfl
      have e2 := hv.isAgg rfl
      rw [e1, e2, run_equalIn_agg w D t _ _ (by rw [hf]; exact ht) hs, hf]
      exact eqFs_sound (hu.cells rfl) (hv.cells rfl) (fun t a b e u v => eqV_sound d D (by omega) t a b e u v) h'

theorem run_eqGuard_plain {op : BinOp} {t : TypeId} {x y : Operand} {u v : Value} {w : World} (h1 : u ≠ .nilIface ∨ v ≠ .nilIface) (h2 : ∀ a b, u = .agg a → v = .agg b → False) : (eqGuard op t x y u v).run P w = .ok () w := by
  unfold eqGuard
  cases op <;> simp <;> split <;> first | rfl | (exfalso; rcases h1 with h | h <;> exact h rfl) | (exfalso; exact h2 _ _ rfl rfl)

def plainV : Value → Bool
  | .int _ _ => true
  | .float _ _ => true
  | .complex _ _ _ => true
  | .string _ => true
  | _ => false

theorem run_equal' {t : TypeId} {a b : Value} {e : Bool} {w : World} (h : ∀ d, (Op.equalIn (d + 1) t a b).run P w = .ok e w) : (Op.equal t a b).run P w = .ok e w := h 9999

theorem nilEq_sound {op : BinOp} {t : TypeId} {x y : AV} {xo yo : Operand} {e : Bool} {g : Gh} {w : World} {ux uy : Value} (h : nilEq P t x y ((isConst xo).or (isConst yo)) = some e) (hx : RelV g w x ux) (hy : RelV g w y uy) :
    (eqGuard op t xo yo ux uy).run P w = .ok () w ∧ (Op.equal t ux uy).run P w = .ok e w ∧ plainV ux = false := by
  unfold nilEq at h
  split at h
  case h_14 => cases h
  case h_11 =>
    rename_i ms ht
    obtain ⟨hc, h'⟩ := br_none h
    cases h'; cases hx; cases hy
    refine ⟨?_, run_equal' (fun d => by simp only [Op.equalIn, Sem.run_bind, run_underlying ht, Result.andThen_ok]; rfl), rfl⟩
    have hc : ((isConst xo) || (isConst yo)) = true := hc
    unfold eqGuard
    cases op <;> cases xo <;> cases yo <;> first | (simp [isConst] at hc; done) | simp
  all_goals
    rename_i ht
    cases h
  case h_1 => cases hx; cases hy; exact ⟨run_eqGuard_plain (.inl fun h => by cases h) (fun _ _ h => by cases h), run_equal' (fun d => by simp only [Op.equalIn, Sem.run_bind, run_underlying ht, Result.andThen_ok]; rfl), rfl⟩
  case h_2 =>
    cases hy
    cases hx with
    | ptr _ _ _ _ _ _ hp => obtain ⟨ad, rfl⟩ := hp; exact ⟨run_eqGuard_plain (.inl fun h => by cases h) (fun _ _ h => by cases h), run_equal' (fun d => by simp only [Op.equalIn, Sem.run_bind, run_underlying ht, Result.andThen_ok]; rfl), rfl⟩
  case h_3 =>
    cases hx
    cases hy with
    | ptr _ _ _ _ _ _ hp => obtain ⟨ad, rfl⟩ := hp; exact ⟨run_eqGuard_plain (.inl fun h => by cases h) (fun _ _ h => by cases h), run_equal' (fun d => by simp only [Op.equalIn, Sem.run_bind, run_underlying ht, Result.andThen_ok]; rfl), rfl⟩
  case h_4 => cases hx; cases hy; exact ⟨run_eqGuard_plain (.inl fun h => by cases h) (fun _ _ h => by cases h), run_equal' (fun d => by simp only [Op.equalIn, Sem.run_bind, run_underlying ht, Result.andThen_ok]; rfl), rfl⟩
  case h_5 => cases hx; cases hy; exact ⟨run_eqGuard_plain (.inl fun h => by cases h) (fun _ _ h => by cases h), run_equal' (fun d => by simp only [Op.equalIn, Sem.run_bind, run_underlying ht, Result.andThen_ok]; rfl), rfl⟩
  case h_6 => cases hx; cases hy; exact ⟨run_eqGuard_plain (.inl fun h => by cases h) (fun _ _ h => by cases h), run_equal' (fun d => by simp only [Op.equalIn, Sem.run_bind, run_underlying ht, Result.andThen_ok]; rfl), rfl⟩
  case h_7 =>
    cases hy
    cases hx with
    | map _ _ _ hp => obtain ⟨ad, rfl⟩ := hp; exact ⟨run_eqGuard_plain (.inl fun h => by cases h) (fun _ _ h => by cases h), run_equal' (fun d => by simp only [Op.equalIn, Sem.run_bind, run_underlying ht, Result.andThen_ok]; rfl), rfl⟩
  case h_8 =>
    cases hx
    cases hy with
    | map _ _ _ hp => obtain ⟨ad, rfl⟩ := hp; exact ⟨run_eqGuard_plain (.inl fun h => by cases h) (fun _ _ h => by cases h), run_equal' (fun d => by simp only [Op.equalIn, Sem.run_bind, run_underlying ht, Result.andThen_ok]; rfl), rfl⟩
  case h_9 => cases hx; cases hy; exact ⟨run_eqGuard_plain (.inl fun h => by cases h) (fun _ _ h => by cases h), run_equal' (fun d => by simp only [Op.equalIn, Sem.run_bind, run_underlying ht, Result.andThen_ok]; rfl), rfl⟩
  case h_10 => cases hx; cases hy; exact ⟨run_eqGuard_plain (.inl fun h => by cases h) (fun _ _ h => by cases h), run_equal' (fun d => by simp only [Op.equalIn, Sem.run_bind, run_underlying ht, Result.andThen_ok]; rfl), rfl⟩
  case h_12 => cases hx; cases hy; exact ⟨run_eqGuard_plain (.inl fun h => by cases h) (fun _ _ h => by cases h), run_equal' (fun d => by simp only [Op.equalIn, Sem.run_bind, run_underlying ht, Result.andThen_ok]; rfl), rfl⟩
  case h_13 => cases hx; cases hy; exact ⟨run_eqGuard_plain (.inr fun h => by cases h) (fun _ _ h => by cases h), run_equal' (fun d => by simp only [Op.equalIn, Sem.run_bind, run_underlying ht, Result.andThen_ok]; rfl), rfl⟩

theorem binO_sound {op : BinOp} {t : TypeId} {x y : AV} {xo yo : Operand} {κ : AV → Option R} {r : R} (h : binO P op t x y ((isConst xo).or (isConst yo)) κ = some r) :
    ∃ v, κ v = some r ∧ ∀ (g : Gh) (w : World) (ux uy : Value), RelV g w x ux → RelV g w y uy → ∃ u, (do eqGuard op t xo yo ux uy; binOp op t ux uy : Sem Value).run P w = .ok u w ∧ RelV g w v u := by
  unfold binO at h
  split at h
  · -- ints
    rename_i k a k' b
    have guard : ∀ w, (eqGuard op t xo yo (.int k a) (.int k' b)).run P w = .ok () w := fun w => run_eqGuard_plain (.inl fun h => by cases h) (fun _ _ h => by cases h)
    split at h
    · obtain ⟨hb, h⟩ := none_br h
      have hb : ¬ b < 0 := by simpa using hb
      refine ⟨_, h, fun g w ux uy hx hy => ?_⟩
      cases hx; cases hy
      refine ⟨_, ?_, .int ..⟩
      simp only [Sem.run_bind, guard, Result.andThen_ok, binOp, Op.shift, if_neg hb, Sem.run_pure]
    · obtain ⟨hb, h⟩ := none_br h
      have hb : ¬ b < 0 := by simpa using hb
      refine ⟨_, h, fun g w ux uy hx hy => ?_⟩
      cases hx; cases hy
      refine ⟨_, ?_, .int ..⟩
      simp only [Sem.run_bind, guard, Result.andThen_ok, binOp, Op.shift, if_neg hb, Sem.run_pure]
    · rename_i n1 n2
      obtain ⟨hk, h'⟩ := br_none h
      clear h
      have := kEq_eq hk; subst this
      have h := h'
      clear h'
      cases op <;> simp only at h <;> first
        | (exact absurd rfl n1)
        | (exact absurd rfl n2)
        | (obtain ⟨hb, h'⟩ := none_br h
           have hb : ¬ b = 0 := by simpa using hb
           refine ⟨_, h', fun g w ux uy hx hy => ?_⟩
           cases hx; cases hy
           refine ⟨_, ?_, .int ..⟩
           simp only [Sem.run_bind, guard, Result.andThen_ok, binOp, Op.intDiv, if_neg hb, ne_eq, not_true_eq_false, if_false, Sem.run_pure]; done)
        | (refine ⟨_, h, fun g w ux uy hx hy => ?_⟩
           cases hx; cases hy
           refine ⟨_, ?_, by first | exact .int .. | exact .bool ..⟩
           simp only [Sem.run_bind, guard, Result.andThen_ok, binOp, Op.intArith, Op.intCmp, ne_eq, not_true_eq_false, if_false, Sem.run_pure, bne, beq_int]
           try rfl
           done)
        | skip
      all_goals
        simp only [bitsV] at h
        first
          | (refine ⟨_, h, fun g w ux uy hx hy => ?_⟩
             cases hx; cases hy
             refine ⟨_, ?_, .int ..⟩
             simp only [Sem.run_bind, guard, Result.andThen_ok, binOp, Op.intBits, ne_eq, not_true_eq_false, if_false, Sem.run_pure]; done)
          | (cases h; done)
  · -- strings
    rename_i a b
    have guard : ∀ w, (eqGuard op t xo yo (.string a) (.string b)).run P w = .ok () w := fun w => run_eqGuard_plain (.inl fun h => by cases h) (fun _ _ h => by cases h)
    cases op <;> simp only at h <;> first
      | (cases h; done)
      | (obtain ⟨hb, h'⟩ := br_none h
         have hb := Nat.le_of_ble_eq_true hb
         refine ⟨_, h', fun g w ux uy hx hy => ?_⟩
         cases hx; cases hy
         refine ⟨_, ?_, .str ..⟩
         have hn : ¬ (((a.size + b.size : Nat) : Int) > IntKind.i64.max) := by
           have : IntKind.i64.max = 9223372036854775807 := by decide
           rw [this]; omega
         simp only [Sem.run_bind, guard, Result.andThen_ok, binOp, Op.stringOp, if_neg hn, Sem.run_pure]; done)
      | (refine ⟨_, h, fun g w ux uy hx hy => ?_⟩
         cases hx; cases hy
         refine ⟨_, ?_, .bool ..⟩
         simp only [Sem.run_bind, guard, Result.andThen_ok, binOp, Op.stringOp, Sem.run_pure, beq_bytes]
         try rfl
         done)
  · -- floats
    rename_i a b
    have guard : ∀ w, (eqGuard op t xo yo (.float .f64 a) (.float .f64 b)).run P w = .ok () w := fun w => run_eqGuard_plain (.inl fun h => by cases h) (fun _ _ h => by cases h)
    cases op <;> simp only at h <;> first
      | (cases h; done)
      | (cases hd : fDiv a b with
         | none => rw [hd] at h; cases h
         | some q =>
           rw [hd] at h
           refine ⟨_, h, fun g w ux uy hx hy => ?_⟩
           cases hx; cases hy
           refine ⟨_, ?_, .flt ..⟩
           unfold fDiv at hd
           simp only [Sem.run_bind, guard, Result.andThen_ok, binOp, Op.floatArith, hd, ne_eq, not_true_eq_false, if_false, Sem.run_pure, pure_bind]
           done)
      | (refine ⟨_, h, fun g w ux uy hx hy => ?_⟩
         cases hx; cases hy
         refine ⟨_, ?_, .bool ..⟩
         simp only [Sem.run_bind, guard, Result.andThen_ok, binOp, Op.floatCmp, ne_eq, not_true_eq_false, if_false, Sem.run_pure]
         try rfl
         done)
  · -- bools
    rename_i a b
    split at h <;> try (cases h; done)
    rename_i ht
    have guard : ∀ w, (eqGuard op t xo yo (.bool a) (.bool b)).run P w = .ok () w := fun w => run_eqGuard_plain (.inl fun h => by cases h) (fun _ _ h => by cases h)
    cases op <;> simp only at h <;> first
      | (cases h; done)
      | (refine ⟨_, h, fun g w ux uy hx hy => ?_⟩
         cases hx; cases hy
         refine ⟨_, ?_, .bool ..⟩
         rw [Sem.run_bind, guard, Result.andThen_ok]
         first | (rw [run_eql_bool w t a b ht, bEq_eq]; done) | (rw [run_neq_bool w t a b ht, bEq_eq]; done))
  · -- structs
    rename_i cs ds
    obtain ⟨hg, h⟩ := none_br h
    split at h <;> try (cases h; done)
    rename_i e he
    have run : ∀ (g : Gh) (w : World) (ux uy : Value), RelV g w (.agg cs) ux → RelV g w (.agg ds) uy → ∃ xs ys, ux = .agg xs ∧ uy = .agg ys ∧ (Op.equalIn 10000 t ux uy).run P w = .ok e w := by
      intro g w ux uy hx hy
      exact ⟨_, _, hx.isAgg rfl, hy.isAgg rfl, eqV_sound 9 10000 (by omega) t _ _ e ux uy he hx hy⟩
    cases op <;> simp only at h <;> first
      | (cases h; done)
      | (refine ⟨_, h, fun g w ux uy hx hy => ?_⟩
         obtain ⟨xs, ys, rfl, rfl, hr⟩ := run g w ux uy hx hy
         refine ⟨_, ?_, .bool ..⟩
         rw [Sem.run_bind, run_eqGuard_agg w _ t _ _ _ _ hg, Result.andThen_ok]
         first | (rw [run_eql_struct, hr]; rfl) | (rw [run_neq_struct, hr]; rfl))
  · split at h
    case h_2 => cases h
    rename_i e he
    cases op <;> simp only at h <;> first
      | (cases h; done)
      | (refine ⟨_, h, fun g w ux uy hx hy => ?_⟩
         obtain ⟨h1, h2, h3⟩ := nilEq_sound (op := _) he hx hy
         refine ⟨_, ?_, .bool ..⟩
         rw [Sem.run_bind, h1, Result.andThen_ok]
         unfold binOp
         cases ux <;> first
           | (simp [plainV] at h3; done)
           | (simp only [Sem.run_bind, h2, Result.andThen_ok, Sem.run_pure]))
end Go.VI

end
section
/- Literals, indices, slicing, lengths, conversions. -/
namespace Go.VI
set_option linter.unusedVariables false
set_option linter.unusedSimpArgs false
variable {R : Type} {P : Program}

theorem unO_sound {op : UnOp} {x : AV} {κ : AV → Option R} {r : R} (h : unO op x κ = some r) :
    ∃ v, κ v = some r ∧ ∀ (g : Gh) (w : World) (u : Value), RelV g w x u → ∃ u', (Op.unary op u).run P w = .ok u' w ∧ RelV g w v u' := by
  unfold unO at h
  split at h
  · refine ⟨_, h, fun g w u hu => ?_⟩
    cases hu; exact ⟨_, rfl, .bool ..⟩
  · refine ⟨_, h, fun g w u hu => ?_⟩
    cases hu; exact ⟨_, rfl, .int ..⟩
  · rename_i k n
    simp only [bitsV] at h
    refine ⟨_, h, fun g w u hu => ?_⟩
    cases hu
    refine ⟨_, ?_, .int ..⟩
    have : (if k.signed = true then (-1 : Int) else k.max) = br k.signed (-1) k.max := by cases k.signed <;> rfl
    simp only [Op.unary, Op.intBits, this, Sem.run_pure]
  · cases h

theorem sizeIs_spec {t : TypeId} {n : Nat} (h : sizeIs P t n = true) : ∃ i, P.info? t = some i ∧ i.size = n := by
  unfold sizeIs at h
  split at h
  · rename_i i hi; exact ⟨i, hi, (Nat.eq_of_beq_eq_true h).symm⟩
  · cases h
theorem and_spec {a b : Bool} (h : a.and b = true) : a = true ∧ b = true := by cases a <;> cases b <;> first | exact ⟨rfl, rfl⟩ | cases h
theorem inRange_spec {i : Int} {n : Nat} (h : inRange i n = true) : 0 ≤ i ∧ i < (n : Int) := by
  obtain ⟨h1, h2⟩ := and_spec h
  exact ⟨by simpa using h1, by simpa using h2⟩

theorem idxC_sound {t : TypeId} {x ix : AV} {κ : AV → Option R} {r : R} (h : idxC P t x ix κ = some r) :
    ∃ v, κ v = some r ∧ ∀ (g : Gh) (w : World) (ux ui : Value), RelV g w x ux → RelV g w ix ui → ∃ u, (Instr.indexAt t ux ui).run P w = .ok u w ∧ RelV g w v u := by
  unfold idxC at h
  split at h <;> try (cases h; done)
  rename_i k i
  split at h <;> try (cases h; done)
  rename_i e ht
  split at h <;> try (cases h; done)
  rename_i ty l
  obtain ⟨hb, h⟩ := br_none h
  obtain ⟨hs, h0⟩ := and_spec hb
  have h0 : 0 ≤ i := by simpa using h0
  obtain ⟨ie, hie, hsz⟩ := sizeIs_spec hs
  obtain ⟨y, hy, h⟩ := Option.bind_eq_some_iff.1 h
  refine ⟨_, h, fun g w ux ui hx hi => ?_⟩
  cases hi
  cases hx with
  | vals _ _ _ ht' =>
    obtain ⟨a, cap, e', hle, hc⟩ := ht'
    cases e'
    obtain ⟨ad, rfl, hF, c, hc1, hc2⟩ := hc _ y hy
    have hlt : i < (l.length : Int) := by
      have := (List.getElem?_eq_some_iff.1 hy).1
      omega
    refine ⟨.pointer (some (ad.add (i.toNat * ie.size))), ?_, ?_⟩
    · simp [Instr.indexAt, asIntOf, run_underlying ht, h0, hlt, run_sizeOf' hie]
    · have henc := enc_sound (g := g) ty hc1
      refine .cptr _ _ (fun j => (c[j]?).getD Go.undef) (fun j c' hj => ?_) (fun j c' hj => ?_)
      · obtain ⟨v', hv', hrv⟩ := henc.get hj
        rw [add_block, Addr.add_add, hsz, hv']
        exact ⟨hF, hc2 j v' hv'⟩
      · obtain ⟨v', hv', hrv⟩ := henc.get hj
        rw [hv']; exact hrv
theorem ways_spec {f : Nat → Option R} {i : Int} {r : R} : ∀ {k j : Nat}, ways f i j k = some r → (j : Int) ≤ i ∧ i < (j : Int) + k ∧ f i.toNat = some r
  | 0, j, h => by cases h
  | k + 1, j, h => by
    unfold ways at h
    by_cases c : i = (j : Int)
    · rw [decide_eq_true c] at h
      have h : f j = some r := h
      exact ⟨by omega, by omega, by rw [c, Int.toNat_natCast]; exact h⟩
    · rw [decide_eq_false c] at h
      obtain ⟨h1, h2, h3⟩ := ways_spec (k := k) (j := j + 1) h
      exact ⟨by omega, by omega, h3⟩
theorem indexAddrO_sound {t : TypeId} {x ix : AV} {H : Hp} {n : Nat} {κ : KO R} {r : R} (h : indexAddrO P t x ix H n κ = some r) :
    ∃ v, κ v H n [] = some r ∧ ∀ (g : Gh) (w : World) (ux ui : Value), HRel g H w → RelV g w x ux → RelV g w ix ui → ∃ u, (Instr.indexAt t ux ui).run P w = .ok u w ∧ RelV g w v u := by
  unfold indexAddrO at h
  split at h
  case h_2 => cases h
  rename_i k i
  split at h
  case h_3 => cases h
  · rename_i e ht
    split at h
    case h_5 => cases h
    · -- vals
      rename_i ty l
      obtain ⟨hb, h⟩ := br_none h
      obtain ⟨hs, h0⟩ := and_spec hb
      have h0 : 0 ≤ i := by simpa using h0
      obtain ⟨ie, hie, hsz⟩ := sizeIs_spec hs
      obtain ⟨y, hy, h⟩ := Option.bind_eq_some_iff.1 h
      refine ⟨_, h, fun g w ux ui hr hx hi => ?_⟩
      cases hi
      cases hx with
      | vals _ _ _ ht' =>
        obtain ⟨a, cap, e', hle, hc⟩ := ht'
        cases e'
        obtain ⟨ad, rfl, hF, c, hc1, hc2⟩ := hc _ y hy
        have hlt : i < (l.length : Int) := by
          have := (List.getElem?_eq_some_iff.1 hy).1
          omega
        refine ⟨.pointer (some (ad.add (i.toNat * ie.size))), ?_, ?_⟩
        · simp [Instr.indexAt, asIntOf, run_underlying ht, h0, hlt, run_sizeOf' hie]
        · have henc := enc_sound (g := g) ty hc1
          refine .cptr _ _ (fun j => (c[j]?).getD Go.undef) (fun j c' hj => ?_) (fun j c' hj => ?_)
          · obtain ⟨v', hv', hrv⟩ := henc.get hj
            rw [add_block, Addr.add_add, hsz, hv']
            exact ⟨hF, hc2 j v' hv'⟩
          · obtain ⟨v', hv', hrv⟩ := henc.get hj
            rw [hv']; exact hrv
    · -- lits
      rename_i m sz cs
      obtain ⟨hb, h⟩ := br_none h
      obtain ⟨hs, hin⟩ := and_spec hb
      obtain ⟨h0, hlt⟩ := inRange_spec hin
      obtain ⟨ie, hie, hsz⟩ := sizeIs_spec hs
      refine ⟨_, h, fun g w ux ui hr hx hi => ?_⟩
      cases hi
      cases hx with
      | lits _ _ _ a cap f hle hz h1 h2 =>
        cases a with
        | none => obtain ⟨ad, h⟩ := hz (by omega); cases h
        | some ad =>
          refine ⟨.pointer (some (ad.add (i.toNat * ie.size))), ?_, ?_⟩
          · simp [Instr.indexAt, asIntOf, run_underlying ht, h0, hlt, run_sizeOf' hie]
          · refine .cptr _ _ (fun j => f (i.toNat * sz + j)) (fun j c' hj => ?_) (fun j c' hj => ?_)
            · rw [List.getElem?_take] at hj
              split at hj
              · rw [List.getElem?_drop] at hj
                obtain ⟨ad', e', hF, hcell⟩ := h1 _ _ hj
                cases e'
                rw [add_block, Addr.add_add, hsz]
                exact ⟨hF, hcell⟩
              · cases hj
            · rw [List.getElem?_take] at hj
              split at hj
              · rw [List.getElem?_drop] at hj
                exact h2 _ _ hj
              · cases hj
    · -- own
      rename_i b k2
      split at h
      case h_2 => cases h
      rename_i ty l k' hb
      obtain ⟨hb1, h⟩ := br_none h
      obtain ⟨hk, hs⟩ := and_spec hb1
      have hk := Nat.eq_of_beq_eq_true hk
      obtain ⟨ie, hie, hsz⟩ := sizeIs_spec hs
      obtain ⟨hin, h⟩ := br_none h
      obtain ⟨h0, hlt⟩ := inRange_spec hin
      refine ⟨_, h, fun g w ux ui hr hx hi => ?_⟩
      cases hi
      have hG : g.G b = .arr ty k' l.length := by rw [hr.kd b (by rw [hb]; exact fun h => by cases h), hb]; rfl
      cases hx with
      | own _ _ _ hn0 hs0 ha =>
        obtain ⟨a, cap, rfl, hle, hor⟩ := (ha _ _ _ hG).2 hk
        rcases hor with ⟨_, rfl⟩ | ⟨r', h6, rfl⟩
        · omega
        refine ⟨.pointer (some ((⟨r', 0, none⟩ : Addr).add (i.toNat * ie.size))), ?_, ?_⟩
        · simp [Instr.indexAt, asIntOf, run_underlying ht, h0, hlt, run_sizeOf' hie]
        · rw [add_mk, Nat.zero_add]
          refine .ptr _ _ _ _ _ hn0 ⟨_, rfl⟩ (fun t' k2' n' hG' => ?_) (fun hG' _ => ?_) (fun hG' _ => ?_)
          · rw [hG] at hG'; cases hG'
            exact ⟨by omega, fun _ => ⟨r', cap, h6, by rw [hsz]; rfl⟩⟩
          · rw [hG] at hG'; cases hG'
          · rw [hG] at hG'; cases hG'
    · -- sref
      rename_i b off len k2 lim
      split at h
      case h_2 => cases h
      rename_i ty l k' hb
      obtain ⟨hb1, h⟩ := br_none h
      obtain ⟨hk, hs⟩ := and_spec hb1
      have hk := Nat.eq_of_beq_eq_true hk
      obtain ⟨ie, hie, hsz⟩ := sizeIs_spec hs
      obtain ⟨hin, h⟩ := br_none h
      obtain ⟨h0, hlt⟩ := inRange_spec hin
      refine ⟨_, h, fun g w ux ui hr hx hi => ?_⟩
      cases hi
      have hG : g.G b = .arr ty k' l.length := by rw [hr.kd b (by rw [hb]; exact fun h => by cases h), hb]; rfl
      cases hx with
      | sref _ _ _ _ _ _ hn0 hs0 ha =>
        obtain ⟨hofl, a, cap, rfl, hle, _, hor⟩ := (ha _ _ _ hG).2 hk
        obtain ⟨r', c', h6, rfl⟩ := hor (by omega)
        refine ⟨.pointer (some ((⟨r', off * ty.size, none⟩ : Addr).add (i.toNat * ie.size))), ?_, ?_⟩
        · simp [Instr.indexAt, asIntOf, run_underlying ht, h0, hlt, run_sizeOf' hie]
        · rw [add_mk]
          refine .ptr _ _ _ _ _ hn0 ⟨_, rfl⟩ (fun t' k2' n' hG' => ?_) (fun hG' _ => ?_) (fun hG' _ => ?_)
          · rw [hG] at hG'; cases hG'
            exact ⟨by omega, fun _ => ⟨r', c', h6, by rw [hsz, Nat.add_mul]; rfl⟩⟩
          · rw [hG] at hG'; cases hG'
          · rw [hG] at hG'; cases hG'
  · rename_i len e ht
    split at h
    case h_3 => cases h
    · rename_i b i' o k2
      split at h
      case h_3 => cases h
      · rename_i ty l k' hb
        have h2 := br_none h
        clear h
        obtain ⟨hz, h⟩ := h2
        obtain ⟨z1, z2⟩ := and_spec hz
        have z1 := Nat.eq_of_beq_eq_true z1
        have z2 := Nat.eq_of_beq_eq_true z2
        subst z1 z2
        obtain ⟨hb1, h⟩ := br_none h
        obtain ⟨hk, hs⟩ := and_spec hb1
        have hk := Nat.eq_of_beq_eq_true hk
        obtain ⟨ie, hie, hsz⟩ := sizeIs_spec hs
        obtain ⟨hin, h⟩ := br_none h
        obtain ⟨h0, hlt⟩ := inRange_spec hin
        refine ⟨_, h, fun g w ux ui hr hx hi => ?_⟩
        cases hi
        have hG : g.G b = .arr ty k' l.length := by rw [hr.kd b (by rw [hb]; exact fun h => by cases h), hb]; rfl
        cases hx with
        | ptr _ _ _ _ _ hn0 hp' ha hbx hs' =>
          obtain ⟨r', c', h6, rfl⟩ := (ha _ _ _ hG).2 hk
          refine ⟨.pointer (some ((⟨r', 0 * ty.size + 0, none⟩ : Addr).add (i.toNat * ie.size))), ?_, ?_⟩
          · simp [Instr.indexAt, Instr.sureAddr, asIntOf, run_underlying ht, h0, hlt, run_sizeOf' hie]
          · rw [add_mk]
            refine .ptr _ _ _ _ _ hn0 ⟨_, rfl⟩ (fun t' k2' n' hG' => ?_) (fun hG' _ => ?_) (fun hG' _ => ?_)
            · rw [hG] at hG'; cases hG'
              exact ⟨by omega, fun _ => ⟨r', c', h6, by rw [hsz]; simp⟩⟩
            · rw [hG] at hG'; cases hG'
            · rw [hG] at hG'; cases hG'
      · rename_i cs hb
        have h2 := br_none h
        clear h
        obtain ⟨hz, h⟩ := h2
        have z1 := Nat.eq_of_beq_eq_true hz
        subst z1
        split at h
        case h_2 => cases h
        rename_i ie hie
        obtain ⟨h0, hlt, h⟩ := ways_spec h
        have h0 : 0 ≤ i := by omega
        have hlt : i < (len : Int) := by omega
        refine ⟨_, h, fun g w ux ui hr hx hi => ?_⟩
        cases hi
        have hG : g.G b = .box := by rw [hr.kd b (by rw [hb]; exact fun h => by cases h), hb]; rfl
        cases hx with
        | ptr _ _ _ _ _ hn0 hp' ha hbx hs' =>
          obtain ⟨r', c', h6, rfl⟩ := hbx hG rfl
          refine ⟨.pointer (some ((⟨r', o, none⟩ : Addr).add (i.toNat * ie.size))), ?_, ?_⟩
          · simp [Instr.indexAt, Instr.sureAddr, asIntOf, run_underlying ht, h0, hlt, run_sizeOf' hie]
          · rw [add_mk]
            refine .ptr _ _ _ _ _ hn0 ⟨_, rfl⟩ (fun t' k2' n' hG' => ?_) (fun hG' _ => ?_) (fun hG' _ => ?_)
            · rw [hG] at hG'; cases hG'
            · exact ⟨r', c', h6, rfl⟩
            · rw [hG] at hG'; cases hG'
    · rename_i cs
      obtain ⟨hin, h⟩ := br_none h
      obtain ⟨h0, hlt⟩ := inRange_spec hin
      split at h
      case h_2 => cases h
      rename_i ie hie
      refine ⟨_, h, fun g w ux ui hr hx hi => ?_⟩
      cases hi
      cases hx with
      | cptr _ ad fv h1 h2 =>
        refine ⟨.pointer (some (ad.add (i.toNat * ie.size))), ?_, .cptr _ _ (fun j => fv (i.toNat * ie.size + j)) (fun j c hj => ?_) (fun j c hj => ?_)⟩
        · simp [Instr.indexAt, Instr.sureAddr, asIntOf, run_underlying ht, h0, hlt, run_sizeOf' hie]
        · rw [List.getElem?_drop] at hj
          rw [add_block, Addr.add_add]
          exact h1 _ c hj
        · rw [List.getElem?_drop] at hj
          exact h2 _ c hj

theorem lenO_sound {t : TypeId} {x : AV} {H : Hp} {m : Int} (h : lenO P t x H = some m) :
    ∀ (g : Gh) (w : World) (u : Value) (ts : Array TypeId) (ty : TypeId), ts[0]? = some t → HRel g H w → RelV g w x u → (Builtin.len_ ts ty #[u]).run P w = .ok (.int .i64 m) w := by
  intro g w u ts ty hts hr hu
  unfold lenO at h
  split at h <;> try (cases h; done)
  · rename_i ht; cases h; cases hu; simp [Builtin.len_, hts, run_underlying ht, goInt]
  · rename_i n e ht; cases h; cases u <;> simp [Builtin.len_, hts, run_underlying ht, goInt]
  · rename_i e ty' l ht; cases h
    cases hu with
    | vals _ _ _ h' => obtain ⟨a, cap, e', _⟩ := h'; cases e'; simp [Builtin.len_, hts, run_underlying ht, goInt]
  · rename_i e ht; cases h; cases hu; simp [Builtin.len_, hts, run_underlying ht, goInt]
  · rename_i e n sz cs ht; cases h; cases hu; simp [Builtin.len_, hts, run_underlying ht, goInt]
  · rename_i e b k ht
    split at h
    case h_2 => cases h
    rename_i ty' l k' hb
    obtain ⟨hk, h⟩ := br_none h
    have hk := Nat.eq_of_beq_eq_true hk
    cases h
    have hG : g.G b = .arr ty' k' l.length := by rw [hr.kd b (by rw [hb]; exact fun h => by cases h), hb]; rfl
    cases hu with
    | own _ _ _ hn0 hs0 ha =>
      obtain ⟨a, cap, rfl, _⟩ := (ha _ _ _ hG).2 hk
      simp [Builtin.len_, hts, run_underlying ht, goInt]
  · rename_i e b off len k lim ht; cases h
    cases hu with
    | sref _ _ _ _ _ _ hn0 hs0 ha => obtain ⟨a, cap, rfl⟩ := hs0; simp [Builtin.len_, hts, run_underlying ht, goInt]
  · rename_i k e ht; cases h; cases hu; simp [Builtin.len_, hts, run_underlying ht, goInt]
  · rename_i kk e b ht
    split at h
    case h_2 => cases h
    rename_i kt vt es k' hb
    cases h
    have hG : g.G b = .map kt vt k' := by rw [hr.kd b (by rw [hb]; exact fun h => by cases h), hb]; rfl
    have hB := hr.blk b
    rw [hb] at hB
    obtain ⟨r', c', ms, clock, h1, h2, h3, _⟩ := hB
    cases hu with
    | map _ _ hn0 hp ha =>
      obtain ⟨r2, c2, h4, rfl⟩ := ha _ _ _ hG
      rw [h1] at h4; cases h4
      simp [Builtin.len_, hts, run_underlying ht, getObj, Sem.run, h2, h3, goInt]
end Go.VI

end
section
/- Literals, slicing, conversions, copies. -/
namespace Go.VI
set_option linter.unusedVariables false
set_option linter.unusedSimpArgs false
variable {R : Type} {P : Program}

theorem fold_set : ∀ (l : List Value) (k off : Nat) (cs : Array Value), off + k + l.length ≤ cs.size →
    ((l.zipIdx k).foldl (fun (cs : Array Value) (x : Value × Nat) => cs.setIfInBounds (off + x.2) x.1) cs).toList = cs.toList.take (off + k) ++ l ++ cs.toList.drop (off + k + l.length)
  | [], k, off, cs, h => by simp
  | v :: l, k, off, cs, h => by
    simp only [List.zipIdx_cons, List.foldl_cons]
    simp only [List.length_cons] at h
    rw [fold_set l (k + 1) off _ (by simp; omega)]
    have e := list_seg_step cs.toList (off + k) v l (by simp; omega)
    simpa [Array.toList_setIfInBounds, Nat.add_assoc, Nat.add_comm 1 l.length] using e

/-- Parts of a literal, one by one. -/
inductive RelPs (g : Gh) (w : World) : List (Nat × AV) → List (Nat × Value) → Prop
  | nil : RelPs g w [] []
  | cons {i : Nat} {v : AV} {u : Value} {r : List (Nat × AV)} {s : List (Nat × Value)} : RelV g w v u → RelPs g w r s → RelPs g w ((i, v) :: r) ((i, u) :: s)
theorem alloc_heap (w : World) (o : Obj) : (w.alloc o).heap = w.heap.push o := rfl

theorem fillV_sound {g : Gh} {w : World} {place : Nat → Option (Nat × Nat)} : ∀ {ps : List (Nat × AV)} {qs : List (Nat × Value)} {cs cs' : List AV} {vs : Array Value}, fillV place cs ps = some cs' → RelC g w cs vs.toList →
    RelPs g w ps qs → ∃ vs', Instr.fill place vs qs = some vs' ∧ RelC g w cs' vs'.toList
  | [], _, cs, cs', vs, h, hc, .nil => by cases h; exact ⟨vs, rfl, hc⟩
  | (i, v) :: ps, _, cs, cs', vs, h, hc, .cons (u := u) (s := qs) hv hr => by
    simp only [fillV] at h
    split at h
    · cases h
    rename_i off size hp
    obtain ⟨hb, h⟩ := br_none h
    obtain ⟨hgood, hb⟩ := and_spec hb
    obtain ⟨h1, h2⟩ := and_spec hb
    have h1 := Nat.eq_of_beq_eq_true h1
    have h2 := Nat.le_of_ble_eq_true h2
    have hvc := hv.cells hgood
    have hl := hvc.1
    have hlc := hc.1
    simp only [Array.length_toList] at hl hlc
    have hfold : (u.cells.zipIdx.foldl (fun cs (c, j) => cs.setIfInBounds (off + j) c) vs).toList = vs.toList.take off ++ u.cells.toList ++ vs.toList.drop (off + u.cells.toList.length) := by
      have := fold_set u.cells.toList 0 off vs (by simp; omega)
      rw [← Array.foldl_toList, Array.toList_zipIdx]
      simpa using this
    obtain ⟨vs', e1, e2⟩ := fillV_sound (vs := u.cells.zipIdx.foldl (fun cs (c, j) => cs.setIfInBounds (off + j) c) vs) h (by rw [hfold]; exact hc.splice hvc off) hr
    refine ⟨vs', ?_, e2⟩
    simp only [Instr.fill, hp]
    rw [if_neg (by simp; omega)]
    exact e1

theorem placesOf_mapM : ∀ {fs : List Field} {l : List (Nat × Nat)}, placesOf P fs = some l → fs.mapM (fun f => (P.info? f.type).map fun i => (f.offset, i.size)) = some l
  | [], l, h => by cases h; rfl
  | f :: fs, l, h => by
    simp only [placesOf] at h
    split at h <;> try (cases h; done)
    rename_i i hi
    split at h <;> try (cases h; done)
    rename_i r hr
    cases h
    simp [List.mapM_cons, hi, placesOf_mapM hr]

theorem zeroT_spec {t : TypeId} {z : AV} (h : zeroT P t = some z) : ∃ i v, P.info? t = some i ∧ i.zero = some v ∧ z = ofConst v := by
  unfold zeroT at h
  split at h <;> try (cases h; done)
  rename_i i hi
  split at h <;> try (cases h; done)
  rename_i v hv
  cases h
  exact ⟨i, v, hi, hv, rfl⟩

theorem cells_const {g : Gh} {w : World} (v : Value) : RelC g w (cellsOf (ofConst v)) v.cells.toList := by
  cases v <;> first
    | (refine RelC.cons (by first | exact const_sound _) .nil; done)
    | skip
  all_goals first
    | (have h := const_sound (g := g) (w := w) (Value.agg ‹_›)
       exact h.cells rfl)
    | (have : ∀ v : Value, cellsOf (const1 v) = [const1 v] := fun v => by unfold const1; split <;> rfl
       unfold ofConst
       rw [this]
       exact RelC.cons (const1_sound _) .nil)

theorem buildO_sound {t : TypeId} {ps : List (Nat × AV)} {v : AV} (h : buildO P t ps = some v) :
    ∀ (g : Gh) (w : World) (qs : Array (Nat × Value)), RelPs g w ps qs.toList → ∃ u, (Instr.build t qs).run P w = .ok u w ∧ RelV g w v u := by
  intro g w qs hq
  unfold buildO at h
  split at h <;> try (cases h; done)
  rename_i z hz
  obtain ⟨i, zv, hi, hzv, rfl⟩ := zeroT_spec hz
  split at h <;> try (cases h; done)
  · rename_i fs hu
    split at h <;> try (cases h; done)
    rename_i places hpl
    split at h <;> try (cases h; done)
    rename_i cs hcs
    cases h
    obtain ⟨vs', e1, e2⟩ := fillV_sound hcs (cells_const zv) hq
    refine ⟨.agg vs', run_build w t qs vs' ?_, ?_⟩
    · unfold Program.built
      simp only [hi, hu, hzv, placesOf_mapM hpl]
      simpa using e1
    · have := RelV.ofAgg e2; rw [Array.toArray_toList] at this; exact this
  · rename_i n e hu
    split at h <;> try (cases h; done)
    rename_i ie hie
    split at h <;> try (cases h; done)
    rename_i cs hcs
    cases h
    obtain ⟨vs', e1, e2⟩ := fillV_sound hcs (cells_const zv) hq
    refine ⟨.agg vs', run_build w t qs vs' ?_, ?_⟩
    · unfold Program.built
      simp only [hi, hu, hzv, hie]
      exact e1
    · have := RelV.ofAgg e2; rw [Array.toArray_toList] at this; exact this

theorem rep_cells {g : Gh} {w : World} {cs : List AV} {z : Array Value} (hc : RelC g w cs z.toList) (hpos : 0 < z.size) : ∀ n, RelC g w (repCells cs n) ((Array.range (n * z.size)).map (z[· % z.size]!)).toList
  | 0 => by simp [repCells]; exact .nil
  | n + 1 => by
    have ih := rep_cells hc hpos n
    have e : ((Array.range ((n + 1) * z.size)).map (z[· % z.size]!)).toList = z.toList ++ ((Array.range (n * z.size)).map (z[· % z.size]!)).toList := by
      apply List.ext_getElem?
      intro j
      simp only [Array.toList_map, Array.toList_range, List.getElem?_map]
      by_cases hj : j < z.size
      · rw [List.getElem?_append_left (by simpa using hj), List.getElem?_range (by rw [Nat.succ_mul]; omega), Array.getElem?_toList]
        simp [Nat.mod_eq_of_lt hj, hj]
      · rw [List.getElem?_append_right (by simp; omega)]
        simp only [Array.length_toList, List.getElem?_map]
        by_cases hj2 : j < (n + 1) * z.size
        · rw [List.getElem?_range hj2, List.getElem?_range (by rw [Nat.succ_mul] at hj2; omega)]
          simp only [Option.map_some]
          rw [show j % z.size = (j - z.size) % z.size by rw [← Nat.mod_eq_sub_mod (by omega)]]
        · rw [List.getElem?_eq_none (by simp; omega), List.getElem?_eq_none (by simp; rw [Nat.succ_mul] at hj2; omega)]
    rw [e]
    exact hc.append ih

theorem run_buildSlice0 {t e : TypeId} {ie : TypeInfo} {z : Value} {w : World} (hu : P.underlying t = some (.slice e)) (hie : P.info? e = some ie) (hz : ie.zero = some z) :
    (Instr.buildSlice t 0 #[]).run P w = .ok (.slice (some ⟨w.heap.size, 0, none⟩) 0 0) (w.alloc (.cells #[] e)) := by
  simp [Instr.buildSlice, run_underlying hu, sizeOf, typeInfo, zeroValue, hie, hz, newRow, Instr.fill, Array.range_zero']

theorem buildSliceO_sound {t : TypeId} {len : Nat} {ps : List (Nat × AV)} {H : Hp} {nb n : Nat} {κ : KO R} {r : R} (h : buildSliceO P t len ps H nb n κ = some r) :
    ∃ v H', κ v H' n [] = some r ∧ ∀ (g : Gh) (w : World) (qs : Array (Nat × Value)), HRel g H w → g.G nb = .none → RelPs g w ps qs.toList →
      ∃ u w', (Instr.buildSlice t len qs).run P w = .ok u w' ∧ ∃ g', Went g H w (fun b => b = nb) v H' [] u w' g' := by
  unfold buildSliceO at h
  split at h <;> try (cases h; done)
  rename_i e hu
  split at h <;> try (cases h; done)
  rename_i ie hie
  split at h <;> try (cases h; done)
  rename_i z hz
  rcases br_some h with ⟨hb, hk⟩ | ⟨_, hk⟩ <;> clear h
  · have h := hk
    clear hk
    obtain ⟨h1, hb⟩ := and_spec hb
    obtain ⟨h2, h3⟩ := and_spec hb
    have h1 := Nat.le_of_ble_eq_true h1
    have h2 := Nat.eq_of_beq_eq_true h2
    have h3 := Nat.le_of_ble_eq_true h3
    have hpos : 0 < z.cells.size := by
      rcases Nat.eq_zero_or_pos z.cells.size with e | e
      · rw [← h2, e] at h3; omega
      · exact e
    split at h <;> try (cases h; done)
    rename_i cs hcs
    have run : ∀ (g : Gh) (w : World) (qs : Array (Nat × Value)), HRel g H w → RelPs g w ps qs.toList →
        ∃ vs, RelC g w cs vs.toList ∧ (Instr.buildSlice t len qs).run P w = .ok (.slice (some ⟨w.heap.size, 0, none⟩) len len) (w.alloc (.cells vs e)) := by
      intro g w qs hr hq
      have := rep_cells (cells_const (g := g) (w := w) z) hpos len
      rw [h2] at this
      obtain ⟨vs', e1, e2⟩ := fillV_sound hcs this hq
      refine ⟨vs', e2, run_buildSlice w t e len qs vs' ie z hu hie hz (by omega) (by omega) ?_⟩
      rw [h2]; exact e1
    have asLits : ∀ (g : Gh) (w : World) (vs : Array Value), HRel g H w → RelC g w cs vs.toList → ∃ g', Went g H w (fun b => b = nb) (.lits len ie.size cs) H [] (.slice (some ⟨w.heap.size, 0, none⟩) len len) (w.alloc (.cells vs e)) g' := by
      intro g w vs hr hc
      have hx : Ext g H w [] ⟨fun r => g.F r ∨ r = w.heap.size, g.i, g.G⟩ H (w.alloc (.cells vs e)) := by
        refine ⟨fun r h => .inl h, fun r h => ?_, by rw [alloc_heap]; simp, fun r hlt _ => ?_, (fun _ h => by cases h), fun _ _ _ => ⟨rfl, rfl, rfl⟩, (fun _ h => by cases h), (fun _ h => by cases h), fun b r c h h' _ => absurd h h', ⟨rfl, rfl, rfl⟩⟩
        · rcases h with h | h
          · exact .inl h
          · exact .inr (.inr (by omega))
        · rw [alloc_heap, Array.getElem?_push, if_neg (by omega)]
      refine ⟨⟨fun r => g.F r ∨ r = w.heap.size, g.i, g.G⟩, hx, ⟨fun b => ?_, hr.kd, hr.inj, fun b r c h1 h2 h3 => ?_, fun r hF => ?_⟩, ?_, fun b h h' => absurd h h'⟩
      · by_cases hg : H b = .gone
        · rw [hg]; exact trivial
        · exact RelB.step hx hr hg (fun h => by cases h)
      · have := hr.disj b r c h1 h2 h3
        refine ⟨fun h => ?_, by rw [alloc_heap, Array.size_push]; omega⟩
        rcases h with h | h
        · exact this.1 h
        · omega
      · rw [alloc_heap, Array.size_push]
        rcases hF with h | h
        · have := hr.ex r h; omega
        · omega
      · have hc' := hc.step hx hr
        refine .lits _ _ _ _ _ (fun j => (vs[j]?).getD Go.undef) (Nat.le_refl _) (fun _ => ⟨_, rfl⟩) (fun j c hj => ?_) (fun j c hj => ?_)
        · obtain ⟨v, hv, _⟩ := hc'.get hj
          rw [Array.getElem?_toList] at hv
          refine ⟨_, rfl, .inr rfl, ?_⟩
          rw [add_mk, Nat.zero_add, cell_at (vs := vs) (e := e) (fz := (0, 0)) (by rw [alloc_heap]; simp), hv]; rfl
        · obtain ⟨v, hv, hrv⟩ := hc'.get hj
          rw [Array.getElem?_toList] at hv
          rw [hv]; exact hrv
    split at h
    · rename_i ty hty
      split at h
      · rename_i l hl
        refine ⟨_, _, h, fun g w qs hr hnb hq => ?_⟩
        obtain ⟨vs, hc, hrun⟩ := run g w qs hr hq
        refine ⟨_, _, hrun, ?_⟩
        obtain ⟨a1, a2, a3⟩ := decs_sound hl hc
        obtain ⟨g', x1, x2, x3, x4, x5⟩ := newArr_went (w' := w.alloc (.cells vs e)) (cap := len) (vs := vs.toList) (e := e) hr hnb (by simp [alloc_heap]) (by rw [a1]; exact Nat.le_refl _) (by rw [a2]; exact Nat.le_refl _) a3
        refine ⟨g', x1, x2, ?_, x3⟩
        refine .own _ _ _ (by rw [x4]; exact fun h => by cases h) ⟨_, _, _, rfl⟩ (fun t' k' n' hG' => ?_)
        rw [x4] at hG'; cases hG'
        exact ⟨Nat.le_refl _, fun _ => ⟨_, _, by rw [a1], by rw [a1]; exact Nat.le_refl _, .inr ⟨_, x5, rfl⟩⟩⟩
      · refine ⟨_, _, h, fun g w qs hr hnb hq => ?_⟩
        obtain ⟨vs, hc, hrun⟩ := run g w qs hr hq
        exact ⟨_, _, hrun, asLits g w vs hr hc⟩
    · refine ⟨_, _, h, fun g w qs hr hnb hq => ?_⟩
      obtain ⟨vs, hc, hrun⟩ := run g w qs hr hq
      exact ⟨_, _, hrun, asLits g w vs hr hc⟩
  · obtain ⟨hb, h⟩ := br_none hk
    clear hk
    obtain ⟨h1, h2⟩ := and_spec hb
    clear hb
    have h1 := Nat.eq_of_beq_eq_true h1
    subst h1
    split at h2 <;> try (cases h2; done)
    split at h <;> try (cases h; done)
    rename_i ty hty
    refine ⟨_, _, h, fun g w qs hr hnb hq => ?_⟩
    have : qs = #[] := by
      cases hq' : qs.toList with
      | nil => exact Array.toList_inj.1 hq'
      | cons a b => rw [hq'] at hq; cases hq
    subst this
    refine ⟨_, _, run_buildSlice0 hu hie hz, ?_⟩
    obtain ⟨g', x1, x2, x3, x4, x5⟩ := newArr_went (w' := w.alloc (.cells #[] e)) (cap := 0) (t := ty) (l := []) (vs := []) (e := e) hr hnb (by simp [alloc_heap]) (Nat.le_refl _) (by simp) (fun i x h => by simp at h)
    refine ⟨g', x1, x2, ?_, x3⟩
    refine .own _ _ _ (by rw [x4]; exact fun h => by cases h) ⟨_, _, _, rfl⟩ (fun t' k' n' hG' => ?_)
    rw [x4] at hG'; cases hG'
    exact ⟨Nat.le_refl _, fun _ => ⟨_, _, rfl, Nat.le_refl _, .inr ⟨_, x5, rfl⟩⟩⟩
end Go.VI

end
section
/- Slicing, made slices, copies, conversions, strings' iterators. -/
namespace Go.VI
set_option linter.unusedVariables false
set_option linter.unusedSimpArgs false
variable {R : Type} {P : Program}

theorem run_bounds {isSlice : Bool} {len cap l h m : Nat} {lo hi mx : Option Value} {w : World}
    (hlo : (lo = none ∧ l = 0) ∨ ∃ k i, lo = some (.int k i) ∧ 0 ≤ i ∧ i.toNat = l)
    (hhi : (hi = none ∧ mx = none ∧ h = len) ∨ ∃ k i, hi = some (.int k i) ∧ 0 ≤ i ∧ i.toNat = h)
    (hmx : (mx = none ∧ m = cap) ∨ ∃ k i, mx = some (.int k i) ∧ 0 ≤ i ∧ i.toNat = m) (h1 : l ≤ h) (h2 : hi = none ∨ h ≤ m) (h3 : m ≤ cap) :
    (Instr.sliceBounds isSlice len cap lo hi mx).run P w = .ok (l, h, m) w := by
  rcases hlo with ⟨rfl, rfl⟩ | ⟨k1, i1, rfl, a1, rfl⟩ <;> rcases hhi with ⟨rfl, rfl, rfl⟩ | ⟨k2, i2, rfl, a2, rfl⟩ <;> rcases hmx with ⟨e, rfl⟩ | ⟨k3, i3, e, a3, rfl⟩ <;> first | (cases e; done) | skip
  · simp [Instr.sliceBounds]
  · subst e
    have : i2 ≤ (m : Int) := by rcases h2 with h2 | h2 <;> first | (cases h2; done) | omega
    simp only [Instr.sliceBounds, Sem.run_bind, Sem.run_pure, Result.andThen_ok, run_sliceBound w k2 i2 m _ a2 this]
  · subst e
    have q1 : i2 ≤ ((i3.toNat : Nat) : Int) := by rcases h2 with h2 | h2 <;> first | (cases h2; done) | omega
    have q2 : i3 ≤ (cap : Int) := by omega
    simp only [Instr.sliceBounds, Sem.run_bind, Sem.run_pure, Result.andThen_ok, run_sliceBound w k3 i3 cap _ a3 q2, run_sliceBound w k2 i2 _ _ a2 q1]
  · have q0 : i1 ≤ (h : Int) := by omega
    simp only [Instr.sliceBounds, Sem.run_bind, Sem.run_pure, Result.andThen_ok, run_sliceBound w k1 i1 _ _ a1 q0]
  · subst e
    have q1 : i2 ≤ (m : Int) := by rcases h2 with h2 | h2 <;> first | (cases h2; done) | omega
    have q0 : i1 ≤ ((i2.toNat : Nat) : Int) := by omega
    simp only [Instr.sliceBounds, Sem.run_bind, Sem.run_pure, Result.andThen_ok, run_sliceBound w k2 i2 m _ a2 q1, run_sliceBound w k1 i1 _ _ a1 q0]
  · subst e
    have q1 : i2 ≤ ((i3.toNat : Nat) : Int) := by rcases h2 with h2 | h2 <;> first | (cases h2; done) | omega
    have q2 : i3 ≤ (cap : Int) := by omega
    have q0 : i1 ≤ ((i2.toNat : Nat) : Int) := by omega
    simp only [Instr.sliceBounds, Sem.run_bind, Sem.run_pure, Result.andThen_ok, run_sliceBound w k3 i3 cap _ a3 q2, run_sliceBound w k2 i2 _ _ a2 q1, run_sliceBound w k1 i1 _ _ a1 q0]

/-- An optional operand, and its value. -/
def RelO (g : Gh) (w : World) : Option AV → Option Value → Prop
  | none, none => True
  | some a, some v => RelV g w a v
  | _, _ => False

theorem boundO_some {x : Option AV} {d : Nat} {κ : Nat → Option R} {r : R} (h : boundO x d κ = some r) : ∃ m, κ m = some r ∧ ((x = none ∧ m = d) ∨ ∃ k i, x = some (.int k i) ∧ 0 ≤ i ∧ i.toNat = m) := by
  unfold boundO at h
  split at h
  · exact ⟨_, h, .inl ⟨rfl, rfl⟩⟩
  · have hx_ := br_none h
    clear h
    obtain ⟨hb, h⟩ := hx_
    exact ⟨_, h, .inr ⟨_, _, rfl, by simpa using hb, rfl⟩⟩
  · cases h

theorem relO_none {g : Gh} {w : World} {x : Option AV} {u : Option Value} (h : RelO g w x u) (hx : x = none) : u = none := by
  subst hx; cases u <;> first | rfl | cases h
theorem relO_int {g : Gh} {w : World} {x : Option AV} {u : Option Value} {k : IntKind} {i : Int} (h : RelO g w x u) (hx : x = some (.int k i)) : u = some (.int k i) := by
  subst hx; cases u with
  | none => cases h
  | some u => cases (show RelV g w (.int k i) u from h); rfl
theorem relO_bound {g : Gh} {w : World} {x : Option AV} {u : Option Value} {d m : Nat} (hu : RelO g w x u) (h : (x = none ∧ m = d) ∨ ∃ k i, x = some (.int k i) ∧ 0 ≤ i ∧ i.toNat = m) :
    (u = none ∧ m = d) ∨ ∃ k i, u = some (.int k i) ∧ 0 ≤ i ∧ i.toNat = m := by
  rcases h with ⟨h1, h2⟩ | ⟨k, i, h1, h2, h3⟩
  · exact .inl ⟨relO_none hu h1, h2⟩
  · exact .inr ⟨k, i, relO_int hu h1, h2, h3⟩

/-- Part of a slice that is read. -/
theorem sub_vals {g : Gh} {w : World} {ty : Ty} {l : List ty.den} {a : Option Addr} {cap i j m : Nat} (hle : l.length ≤ cap)
    (hc : ∀ k y, l[k]? = some y → ∃ ad, a = some ad ∧ g.F ad.block ∧ ∃ c, RelT g.F w ty y c ∧ ∀ q v, c[q]? = some v → w.cell? (ad.add (k * ty.size + q)) = some v)
    (hij : i ≤ j) (hj : j ≤ l.length) : RelV g w (.vals ty ((l.drop i).take (j - i))) (.slice (if cap = i then a else a.map (·.add (i * ty.size))) (j - i) (cap - i)) := by
  have hll : ((l.drop i).take (j - i)).length = j - i := by simp; omega
  refine .vals _ _ _ ⟨_, _, by rw [hll], by rw [hll]; omega, fun k y hy => ?_⟩
  have hk : k < j - i := by
    have := (List.getElem?_eq_some_iff.1 hy).1
    omega
  rw [List.getElem?_take, if_pos hk, List.getElem?_drop] at hy
  obtain ⟨ad, rfl, hF, c, hc1, hc2⟩ := hc _ y hy
  rw [if_neg (by omega)]
  refine ⟨_, rfl, by rw [add_block]; exact hF, c, hc1, fun q v hq => ?_⟩
  rw [Addr.add_add]
  have := hc2 q v hq
  rw [← this]; congr 2; rw [Nat.add_mul]; omega

theorem sliceO_sound {t : TypeId} {x : AV} {lo hi mx : Option AV} {H : Hp} {n : Nat} {κ : KO R} {r : R} (h : sliceO P t x lo hi mx H n κ = some r) :
    ∃ v, κ v H n [] = some r ∧ ∀ (g : Gh) (w : World) (ux : Value) (ulo uhi umx : Option Value), HRel g H w → RelV g w x ux → RelO g w lo ulo → RelO g w hi uhi → RelO g w mx umx →
      ∃ u, (Instr.sliceAt t ux ulo uhi umx).run P w = .ok u w ∧ RelV g w v u := by
  unfold sliceO at h
  split at h
  case h_5 => cases h
  · -- string
    rename_i s ht
    split at h
    · cases h
    have hx_ := boundO_some h
    clear h
    obtain ⟨l, h, hl⟩ := hx_
    have hx_ := boundO_some h
    clear h
    obtain ⟨m, h, hm⟩ := hx_
    have hx_ := br_none h
    clear h
    obtain ⟨hb, h⟩ := hx_
    obtain ⟨h1, h2⟩ := and_spec hb
    have h1 := Nat.le_of_ble_eq_true h1
    have h2 := Nat.le_of_ble_eq_true h2
    refine ⟨_, h, fun g w ux ulo uhi umx hr hx hlo hhi hmx => ?_⟩
    cases hx
    have := relO_none hmx rfl; subst this
    refine ⟨_, ?_, .str _⟩
    have hbd := run_bounds (P := P) (w := w) (isSlice := false) (len := s.size) (cap := s.size) (l := l) (h := m) (m := s.size) (mx := none) (relO_bound hlo hl) (by
      rcases relO_bound hhi hm with ⟨a, b⟩ | ⟨k, i, a, b⟩
      · exact .inl ⟨a, rfl, b⟩
      · exact .inr ⟨k, i, a, b⟩) (.inl ⟨rfl, rfl⟩) h1 (.inr h2) (Nat.le_refl _)
    simp only [Instr.sliceAt, Instr.slice, Sem.run_bind, run_underlying ht, Result.andThen_ok, Option.isSome_none, Bool.false_eq_true, if_false, hbd, Sem.run_pure]
  · -- vals
    rename_i e ty l ht
    have hx_ := br_none h
    clear h
    obtain ⟨hs, h⟩ := hx_
    obtain ⟨ie, hie, hsz⟩ := sizeIs_spec hs
    split at h
    · cases h
    have core : ∀ (g : Gh) (w : World) (ux : Value) (ulo uhi : Option Value) (i j : Nat), RelV g w (.vals ty l) ux → ((ulo = none ∧ i = 0) ∨ ∃ k z, ulo = some (.int k z) ∧ 0 ≤ z ∧ z.toNat = i) → ((uhi = none ∧ j = l.length) ∨ ∃ k z, uhi = some (.int k z) ∧ 0 ≤ z ∧ z.toNat = j) → i ≤ j → j ≤ l.length →
        ∃ u, (Instr.sliceAt t ux ulo uhi none).run P w = .ok u w ∧ RelV g w (.vals ty ((l.drop i).take (j - i))) u := by
      intro g w ux ulo uhi i j hx hlo hhi hij hj
      cases hx with
      | vals _ _ _ ht' =>
        obtain ⟨a, cap, e', hle, hc⟩ := ht'
        cases e'
        refine ⟨_, ?_, sub_vals (m := cap) hle hc hij hj⟩
        have hbd := run_bounds (P := P) (w := w) (isSlice := true) (len := l.length) (cap := cap) (l := i) (h := j) (m := cap) (mx := none) hlo (by
          rcases hhi with ⟨a, b⟩ | ⟨k, i, a, b⟩
          · exact .inl ⟨a, rfl, b⟩
          · exact .inr ⟨k, i, a, b⟩) (.inl ⟨rfl, rfl⟩) hij (.inr (by omega)) (Nat.le_refl _)
        simp only [Instr.sliceAt, Instr.slice, Sem.run_bind, run_underlying ht, Result.andThen_ok, hbd, run_sizeOf' hie, Sem.run_pure, hsz]
    split at h
    · refine ⟨_, h, fun g w ux ulo uhi umx hr hx hlo hhi hmx => ?_⟩
      have := relO_none hmx rfl; subst this
      have := core g w ux ulo uhi 0 l.length hx (.inl ⟨relO_none hlo rfl, rfl⟩) (.inl ⟨relO_none hhi rfl, rfl⟩) (Nat.zero_le _) (Nat.le_refl _)
      simpa using this
    · rename_i k i
      have hx_ := br_none h
      clear h
      obtain ⟨hb, h⟩ := hx_
      obtain ⟨h1, h2⟩ := and_spec hb
      have h1 : 0 ≤ i := by simpa using h1
      have h2 : i ≤ (l.length : Int) := by simpa using h2
      refine ⟨_, h, fun g w ux ulo uhi umx hr hx hlo hhi hmx => ?_⟩
      have := relO_none hmx rfl; subst this
      have := core g w ux ulo uhi i.toNat l.length hx (.inr ⟨k, i, relO_int hlo rfl, h1, rfl⟩) (.inl ⟨relO_none hhi rfl, rfl⟩) (by omega) (Nat.le_refl _)
      rw [List.take_of_length_le (by simp)] at this
      exact this
    · rename_i k j
      have hx_ := br_none h
      clear h
      obtain ⟨hb, h⟩ := hx_
      obtain ⟨h1, h2⟩ := and_spec hb
      have h1 : 0 ≤ j := by simpa using h1
      have h2 : j ≤ (l.length : Int) := by simpa using h2
      refine ⟨_, h, fun g w ux ulo uhi umx hr hx hlo hhi hmx => ?_⟩
      have := relO_none hmx rfl; subst this
      have := core g w ux ulo uhi 0 j.toNat hx (.inl ⟨relO_none hlo rfl, rfl⟩) (.inr ⟨k, j, relO_int hhi rfl, h1, rfl⟩) (Nat.zero_le _) (by omega)
      simpa using this
    · rename_i k i k' j
      have hx_ := br_none h
      clear h
      obtain ⟨hb, h⟩ := hx_
      obtain ⟨h1, hb⟩ := and_spec hb
      obtain ⟨h2, h3⟩ := and_spec hb
      have h1 : 0 ≤ i := by simpa using h1
      have h2 : i ≤ j := by simpa using h2
      have h3 : j ≤ (l.length : Int) := by simpa using h3
      refine ⟨_, h, fun g w ux ulo uhi umx hr hx hlo hhi hmx => ?_⟩
      have := relO_none hmx rfl; subst this
      exact core g w ux ulo uhi i.toNat j.toNat hx (.inr ⟨k, i, relO_int hlo rfl, h1, rfl⟩) (.inr ⟨k', j, relO_int hhi rfl, by omega, rfl⟩) (by omega) (by omega)
    · cases h
  · -- own
    rename_i e b k ht
    split at h
    case h_2 => cases h
    rename_i ty l k' hb
    have hx_ := br_none h
    clear h
    obtain ⟨hb1, h⟩ := hx_
    obtain ⟨hk, hs⟩ := and_spec hb1
    have hk := Nat.eq_of_beq_eq_true hk
    obtain ⟨ie, hie, hsz⟩ := sizeIs_spec hs
    have hx_ := boundO_some h
    clear h
    obtain ⟨i, h, hl⟩ := hx_
    have hx_ := boundO_some h
    clear h
    obtain ⟨j, h, hm⟩ := hx_
    have hx_ := br_none h
    clear h
    obtain ⟨hb2, h⟩ := hx_
    obtain ⟨h1, h2⟩ := and_spec hb2
    have h1 := Nat.le_of_ble_eq_true h1
    have h2 := Nat.le_of_ble_eq_true h2
    have core : ∀ (g : Gh) (w : World) (ux : Value) (ulo uhi umx : Option Value) (lim : Bool), HRel g H w → RelV g w (.own b k) ux → RelO g w lo ulo → RelO g w hi uhi → ((umx = none ∧ lim = false) ∨ (∃ q, umx = some (.int q (j : Int)) ∧ lim = true ∧ hi ≠ none)) →
        ∃ u, (Instr.sliceAt t ux ulo uhi umx).run P w = .ok u w ∧ RelV g w (.sref b i (j - i) k lim) u := by
      intro g w ux ulo uhi umx lim hr hx hlo hhi hmx
      have hG : g.G b = .arr ty k' l.length := by rw [hr.kd b (by rw [hb]; exact fun h => by cases h), hb]; rfl
      cases hx with
      | own _ _ _ hn0 hs0 ha =>
        obtain ⟨a, cap, rfl, hle, hor⟩ := (ha _ _ _ hG).2 hk
        have hm' : ∃ m, m ≤ cap ∧ j ≤ m ∧ ((umx = none ∧ m = cap) ∨ ∃ q z, umx = some (.int q z) ∧ 0 ≤ z ∧ z.toNat = m) ∧ (lim = true → m = j) := by
          rcases hmx with ⟨e1, e2⟩ | ⟨q, e1, e2, _⟩
          · exact ⟨cap, Nat.le_refl _, by omega, .inl ⟨e1, rfl⟩, fun h => by rw [e2] at h; cases h⟩
          · exact ⟨j, by omega, Nat.le_refl _, .inr ⟨q, j, e1, by omega, by omega⟩, fun _ => rfl⟩
        obtain ⟨m, hmc, hjm, hmx', hlim⟩ := hm'
        have hbd := run_bounds (P := P) (w := w) (isSlice := true) (len := l.length) (cap := cap) (l := i) (h := j) (m := m) (relO_bound hlo hl) (by
          rcases relO_bound hhi hm with ⟨a, b⟩ | ⟨k, i, a, b⟩
          · refine .inl ⟨a, ?_, b⟩
            rcases hmx with ⟨e1, _⟩ | ⟨q, e1, _, e3⟩
            · exact e1
            · exfalso
              rcases hm with ⟨e4, _⟩ | ⟨k2, z2, e4, _⟩
              · exact e3 e4
              · have := relO_int hhi e4; rw [a] at this; cases this
          · exact .inr ⟨k, i, a, b⟩) hmx' h1 (.inr hjm) hmc
        refine ⟨_, by simp only [Instr.sliceAt, Instr.slice, Sem.run_bind, run_underlying ht, Result.andThen_ok, hbd, run_sizeOf' hie, Sem.run_pure, hsz]; rfl, ?_⟩
        refine .sref _ _ _ _ _ _ hn0 ⟨_, _, rfl⟩ (fun t' k2 n' hG' => ?_)
        rw [hG] at hG'; cases hG'
        refine ⟨by omega, fun _ => ⟨by omega, _, _, rfl, by omega, fun h => by rw [hlim h], fun hne => ?_⟩⟩
        rw [if_neg (by omega)]
        rcases hor with ⟨_, rfl⟩ | ⟨r', h6, rfl⟩
        · omega
        · exact ⟨r', cap, h6, by rw [Option.map_some, add_mk, Nat.zero_add]⟩
    split at h
    · refine ⟨_, h, fun g w ux ulo uhi umx hr hx hlo hhi hmx => core g w ux ulo uhi umx false hr hx hlo hhi (.inl ⟨relO_none hmx rfl, rfl⟩)⟩
    · rename_i q m
      split at h
      case h_2 => cases h
      have hx_ := br_none h
      clear h
      obtain ⟨hmj, h⟩ := hx_
      have hmj : m = (j : Int) := by simpa using hmj
      subst hmj
      refine ⟨_, h, fun g w ux ulo uhi umx hr hx hlo hhi hmx => core g w ux ulo uhi umx true hr hx hlo hhi (.inr ⟨q, relO_int hmx rfl, rfl, fun h => by cases h⟩)⟩
    · cases h
  · -- an array
    rename_i len e b k ht
    split at h
    case h_2 => cases h
    rename_i ty l k' hb
    have hx_ := br_none h
    clear h
    obtain ⟨hb1, h⟩ := hx_
    obtain ⟨hk, hb1⟩ := and_spec hb1
    obtain ⟨hlen, hs⟩ := and_spec hb1
    have hk := Nat.eq_of_beq_eq_true hk
    have hlen := Nat.eq_of_beq_eq_true hlen
    obtain ⟨ie, hie, hsz⟩ := sizeIs_spec hs
    have hx_ := boundO_some h
    clear h
    obtain ⟨i, h, hl⟩ := hx_
    have hx_ := boundO_some h
    clear h
    obtain ⟨j, h, hm⟩ := hx_
    have hx_ := br_none h
    clear h
    obtain ⟨hb2, h⟩ := hx_
    obtain ⟨h1, h2⟩ := and_spec hb2
    have h1 := Nat.le_of_ble_eq_true h1
    have h2 := Nat.le_of_ble_eq_true h2
    split at h
    case h_2 => cases h
    refine ⟨_, h, fun g w ux ulo uhi umx hr hx hlo hhi hmx => ?_⟩
    have := relO_none hmx rfl; subst this
    have hG : g.G b = .arr ty k' l.length := by rw [hr.kd b (by rw [hb]; exact fun h => by cases h), hb]; rfl
    cases hx with
    | ptr _ _ _ _ _ hn0 hp' ha hbx hs' =>
      obtain ⟨r', c', h6, rfl⟩ := (ha _ _ _ hG).2 hk
      have hbd := run_bounds (P := P) (w := w) (isSlice := false) (len := len) (cap := len) (l := i) (h := j) (m := len) (mx := none) (relO_bound hlo hl) (by
        rcases relO_bound hhi hm with ⟨a, b⟩ | ⟨k, i, a, b⟩
        · exact .inl ⟨a, rfl, b⟩
        · exact .inr ⟨k, i, a, b⟩) (.inl ⟨rfl, rfl⟩) h1 (.inr h2) (Nat.le_refl _)
      refine ⟨_, by simp only [Instr.sliceAt, Instr.sureAddr, Sem.run_bind, run_underlying ht, Result.andThen_ok, hbd, run_sizeOf' hie, Sem.run_pure, hsz]; rfl, ?_⟩
      refine .sref _ _ _ _ _ _ hn0 ⟨_, _, rfl⟩ (fun t' k2 n' hG' => ?_)
      rw [hG] at hG'; cases hG'
      refine ⟨by omega, fun _ => ⟨by omega, _, _, rfl, by omega, (fun h => by cases h), fun hne => ?_⟩⟩
      rw [if_neg (by omega)]
      exact ⟨r', c', h6, by rw [add_mk]; simp⟩

theorem makeSliceO_sound {t : TypeId} {len cap : AV} {H : Hp} {nb n : Nat} {κ : KO R} {r : R} (h : makeSliceO P t len cap H nb n κ = some r) :
    ∃ v H', κ v H' n [] = some r ∧ ∀ (g : Gh) (w : World) (ul uc : Value), HRel g H w → g.G nb = .none → RelV g w len ul → RelV g w cap uc →
      ∃ u w', (Instr.makeSlice t ul uc).run P w = .ok u w' ∧ ∃ g', Went g H w (fun b => b = nb) v H' [] u w' g' := by
  unfold makeSliceO at h
  split at h <;> try (cases h; done)
  rename_i e l c hu
  split at h <;> try (cases h; done)
  rename_i ty z hty hz
  split at h <;> try (cases h; done)
  rename_i x hd
  have hx_ := br_none h
  clear h
  obtain ⟨hb, h⟩ := hx_
  obtain ⟨hok, hb⟩ := and_spec hb
  obtain ⟨h0, hb⟩ := and_spec hb
  obtain ⟨h1, h2⟩ := and_spec hb
  have h0 : 0 ≤ l := by simpa using h0
  have h1 : l ≤ c := by simpa using h1
  have h2 : c ≤ 4294967296 := by simpa using h2
  obtain ⟨i, zv, hi, hbt, hsz, hzv, hzs⟩ := rowOk_spec hok
  obtain ⟨i', zv', hi', hzv', rfl⟩ := zeroT_spec hz
  rw [hi] at hi'; cases hi'
  rw [hzv] at hzv'; cases hzv'
  refine ⟨_, _, h, fun g w ul uc hr hnb hl hc => ?_⟩
  cases hl; cases hc
  have hbytes : (i.bytes : Int) * c ≤ 281474976710656 := by
    have : (i.bytes : Int) * c ≤ 16384 * 4294967296 := Int.mul_le_mul (by omega) h2 (by omega) (by omega)
    omega
  have hrun := run_make (P := P) w t e i zv hu hi hzv .i64 .i64 l c h0 h1 hbytes (by omega)
  refine ⟨_, _, hrun, ?_⟩
  obtain ⟨v1, v2, e1, e2, e3⟩ := dec_sound ty hd (cells_const (g := g) (w := w) zv)
  have : v2 = [] := by have := e3.1; simpa using this
  subst this
  rw [List.append_nil] at e1
  subst e1
  have hml : (madeCells zv.cells (c.toNat * i.size)).toList.length = c.toNat * i.size := by simp [madeCells]
  obtain ⟨g', x1, x2, x3, x4, x5⟩ := newArr_went (w' := w.alloc (.cells (madeCells zv.cells (c.toNat * i.size)) e)) (cap := c.toNat) (t := ty) (l := List.replicate l.toNat x) (vs := (madeCells zv.cells (c.toNat * i.size)).toList) (e := e) hr hnb (by simp [alloc_heap]) (by simp; omega) (by rw [hml, hsz]; exact Nat.le_refl _) (fun k y hy => by
    have hk : k < l.toNat := by
      have := (List.getElem?_eq_some_iff.1 hy).1
      simpa using this
    have : y = x := by
      rw [List.getElem?_eq_getElem (by simpa using hk)] at hy
      simpa using hy.symm
    subst this
    refine ⟨_, e2, fun j v hj => ?_⟩
    have hjl : j < zv.cells.size := by
      have := (List.getElem?_eq_some_iff.1 hj).1
      simpa using this
    have hkk : k * ty.size + j < c.toNat * i.size := by
      have : (k + 1) * ty.size ≤ c.toNat * ty.size := Nat.mul_le_mul_right _ (by omega)
      rw [Nat.succ_mul] at this
      rw [hsz]; omega
    simp only [madeCells, Array.toList_map, Array.toList_range, List.getElem?_map, List.getElem?_range hkk, Option.map_some]
    have hmod : (k * ty.size + j) % zv.cells.size = j := by
      rw [hzs, hsz]
      rw [Nat.mul_comm, Nat.mul_add_mod]
      exact Nat.mod_eq_of_lt (by omega)
    rw [hmod]
    rw [Array.getElem?_toList, Array.getElem?_eq_getElem hjl] at hj
    rw [← hj, getElem!_pos zv.cells j hjl])
  refine ⟨g', x1, x2, ?_, x3⟩
  refine .own _ _ _ (by rw [x4]; exact fun h => by cases h) ⟨_, _, _, rfl⟩ (fun t' k' n' hG' => ?_)
  rw [x4] at hG'; cases hG'
  exact ⟨Nat.le_refl _, fun _ => ⟨_, _, by rw [List.length_replicate], by rw [List.length_replicate]; omega, .inr ⟨_, x5, rfl⟩⟩⟩
end Go.VI

end
section
/- Conversions; calls. -/
namespace Go.VI
set_option linter.unusedVariables false
set_option linter.unusedSimpArgs false
variable {R : Type} {P : Program}

theorem ofBytes_fold (l : List Int) : l.foldl (fun r n => r.push (UInt8.ofNat n.toNat)) ByteArray.empty = ofBytes l := by
  have key : ∀ (l : List Int) (s : ByteArray), l.foldl (fun r n => r.push (UInt8.ofNat n.toNat)) s = ⟨s.data ++ (l.map fun n => UInt8.ofNat n.toNat).toArray⟩ := by
    intro l
    induction l with
    | nil => intro s; cases s; simp
    | cons n l ih =>
      intro s
      rw [List.foldl_cons, ih]
      congr 1
      apply Array.ext'
      simp [ByteArray.push]
  rw [key]
  unfold ofBytes
  congr 1
  apply Array.ext'
  simp [ByteArray.empty, ByteArray.emptyWithCapacity]
  try rfl

theorem convO_sound {src dst : TypeId} {x : AV} {H : Hp} {κ : AV → Option R} {r : R} (h : convO P src dst x H κ = some r) :
    ∃ v, κ v = some r ∧ ∀ (g : Gh) (w : World) (u : Value), HRel g H w → RelV g w x u → ∃ u', (convert src dst u).run P w = .ok u' w ∧ RelV g w v u' := by
  unfold convO at h
  split at h
  · cases h
  rename_i sd hs
  split at h
  · rename_i k k' m hd
    refine ⟨_, h, fun g w u hr hu => ?_⟩
    cases hu
    exact ⟨_, by simp [convert, run_underlying hs, run_underlying hd, Conv.intToInt], .int ..⟩
  · rename_i k m hd
    refine ⟨_, h, fun g w u hr hu => ?_⟩
    cases hu
    exact ⟨_, by simp [convert, run_underlying hs, run_underlying hd, Conv.intToFloat]; rfl, .flt ..⟩
  · rename_i s hd
    refine ⟨_, h, fun g w u hr hu => ?_⟩
    cases hu
    refine ⟨.string s, ?_, .str ..⟩
    simp only [convert, Sem.run_bind, run_underlying hs, run_underlying hd, Result.andThen_ok]
    cases sd <;> rfl
  · rename_i k m hd
    refine ⟨_, h, fun g w u hr hu => ?_⟩
    cases hu
    refine ⟨.string (Utf8.encode m), ?_, .str ..⟩
    simp only [convert, Sem.run_bind, run_underlying hs, run_underlying hd, Result.andThen_ok]
    cases sd <;> rfl
  · rename_i v hd n1 n2
    split at h
    case h_2 => cases h
    rename_i e
    split at h
    case h_2 => cases h
    rename_i he
    split at h
    case h_2 => cases h
    rename_i l hl
    refine ⟨_, h, fun g w u hr hu => ?_⟩
    obtain ⟨a, cap, rfl, hle, hc⟩ := listOf_sound hl hr hu
    refine ⟨.string (ofBytes l), ?_, .str ..⟩
    have hconv : (convert src dst (.slice a l.length cap)).run P w = (Conv.bytesToString (.slice a l.length cap)).run P w := by
      cases a <;> simp only [convert, Sem.run_bind, run_underlying hs, run_underlying hd, run_underlying he, Result.andThen_ok]
    rw [hconv]
    cases a with
    | none =>
      have : l = [] := by
        cases l with
        | nil => rfl
        | cons y l => obtain ⟨ad, h, _⟩ := hc 0 y rfl; cases h
      subst this
      rfl
    | some ad =>
      have hcells : ∀ j v, (l.map (Value.int .u8))[j]? = some v → w.cell? (ad.add j) = some v := by
        intro j v hj
        rw [List.getElem?_map] at hj
        cases hy : l[j]? with
        | none => rw [hy] at hj; cases hj
        | some y =>
          rw [hy] at hj
          cases hj
          obtain ⟨ad', e', c, hc1, hc2⟩ := hc j y hy
          cases e'
          have hc1 : c = [.int .u8 y] := hc1
          have := hc2 0 (.int .u8 y) (by rw [hc1]; rfl)
          simpa [Ty.size] using this
      have hload := run_loadCells_list (P := P) w ad (l.map (Value.int .u8)) hcells
      rw [List.length_map] at hload
      rw [run_bytesToString w ad l.length cap l hload, ofBytes_fold]
  · cases h

theorem RelV.monoF {g : Gh} {w : World} {F' : Nat → Prop} (hF : ∀ r, g.F r → F' r) {x : AV} {v : Value} (h : RelV g w x v) : RelV ⟨F', g.i, g.G⟩ w x v := by
  induction h with
  | undef v => exact .undef v
  | int k n => exact .int k n
  | bool b => exact .bool b
  | str s => exact .str s
  | flt b => exact .flt b
  | vals t l v ht => exact .vals t l v (ht.mono hF (fun _ _ => rfl))
  | nils => exact .nils
  | lits n sz cs a cap f hn hz hc _ ih =>
    refine .lits n sz cs a cap f hn hz (fun j c hj => ?_) ih
    obtain ⟨ad, ha, hb, hw⟩ := hc j c hj
    exact ⟨ad, ha, hF _ hb, hw⟩
  | own b k v hn hs ha => exact .own b k v hn hs ha
  | sref b off len k lim v hn hs ha => exact .sref b off len k lim v hn hs ha
  | ptr b i o k v hn hp ha hb hi => exact .ptr b i o k v hn hp ha hb hi
  | cptr cs ad f hc _ ih => exact .cptr cs ad f (fun j c hj => ⟨hF _ (hc j c hj).1, (hc j c hj).2⟩) ih
  | nilp => exact .nilp
  | map b v hn hp ha => exact .map b v hn hp ha
  | nilmap => exact .nilmap
  | stamp b i k v hn hp ha => exact .stamp b i k v hn hp ha
  | fn f xs ys vs us fx fy h1 h2 h3 _ h5 _ ih1 ih2 => exact .fn f xs ys vs us fx fy h1 h2 h3 ih1 h5 ih2
  | nilfn => exact .nilfn
  | iface t c v _ ih => exact .iface t c v ih
  | nili => exact .nili
  | agg cs vs f h1 h2 _ ih => exact .agg cs vs f h1 h2 ih
  | tup cs vs f h1 h2 _ ih => exact .tup cs vs f h1 h2 ih

/-- All memory that is known. -/
def Gh.all (g : Gh) : Gh := ⟨fun r => g.F r ∨ ∃ b c, g.i b = some (r, c) ∧ g.G b ≠ .none ∧ g.G b ≠ .dead, g.i, g.G⟩

theorem borrow1_sound {g : Gh} {H : Hp} {w : World} {v : AV} {u : Value} (hr : HRel g H w) (h : RelV g w v u) : RelV g.all w (borrow1 H v) u := by
  have hm : RelV g.all w v u := h.monoF (fun r h => .inl h)
  have arr : ∀ {b k' : Nat} {t : Ty} {l : List t.den}, H b = .arr t l k' → g.G b = .arr t k' l.length ∧ ∀ i y, l[i]? = some y → ∃ r c', g.i b = some (r, c') ∧ g.all.F r ∧ ∃ c, RelT g.all.F w t y c ∧ ∀ j v, c[j]? = some v → w.cell? ⟨r, i * t.size + j, none⟩ = some v := by
    intro b k' t l hb
    have hs : H b ≠ .gone := by rw [hb]; exact fun h => by cases h
    obtain ⟨hn, hd⟩ := live_of hr hs
    have hG : g.G b = .arr t k' l.length := by rw [hr.kd b (fun e => hs e), hb]; rfl
    refine ⟨hG, fun i y hy => ?_⟩
    have hB := hr.blk b
    rw [hb] at hB
    rcases hB with ⟨_, rfl⟩ | ⟨r', cap', vs, e, h1, h2, h3, h4, h5⟩
    · simp at hy
    obtain ⟨c, a1, a2⟩ := h5 i y hy
    exact ⟨r', cap', h1, .inr ⟨b, cap', h1, hn, hd⟩, c, a1.mono (fun r h => .inl h) (fun _ _ => rfl), fun j v hj => by rw [cell_at h2]; exact a2 j v hj⟩
  cases v <;> try exact hm
  · rename_i b k
    simp only [borrow1]
    split
    · rename_i t l k' hb
      cases hk : Nat.beq k k' with
      | false => exact .undef _
      | true =>
        have hk := Nat.eq_of_beq_eq_true hk
        obtain ⟨hG, hc⟩ := arr hb
        cases h with
        | own _ _ _ hn0 hs0 ha =>
          obtain ⟨a, cap, rfl, hle, hor⟩ := (ha _ _ _ hG).2 hk
          refine .vals _ _ _ ⟨a, cap, rfl, hle, fun i y hy => ?_⟩
          obtain ⟨r, c', h1, hF, c, c1, c2⟩ := hc i y hy
          rcases hor with ⟨h6, _⟩ | ⟨r2, h6, rfl⟩
          · rw [h1] at h6; cases h6
          rw [h1] at h6; cases h6
          exact ⟨_, rfl, hF, c, c1, fun j v hj => by rw [add_mk, Nat.zero_add]; exact c2 j v hj⟩
    · exact .undef _
  · rename_i b off len k lim
    simp only [borrow1]
    split
    · rename_i t l k' hb
      cases hk : Nat.beq k k' with
      | false => exact .undef _
      | true =>
        have hk := Nat.eq_of_beq_eq_true hk
        obtain ⟨hG, hc⟩ := arr hb
        cases h with
        | sref _ _ _ _ _ _ hn0 hs0 ha =>
          obtain ⟨hofl, a, cap, rfl, hle, _, hor⟩ := (ha _ _ _ hG).2 hk
          have hll : ((l.drop off).take len).length = len := by simp; omega
          refine .vals _ _ _ ⟨a, cap, by rw [hll], by rw [hll]; exact hle, fun i y hy => ?_⟩
          have hi : i < len := by
            have := (List.getElem?_eq_some_iff.1 hy).1
            rw [hll] at this; exact this
          rw [List.getElem?_take, if_pos hi, List.getElem?_drop] at hy
          obtain ⟨r, c', h1, hF, c, c1, c2⟩ := hc _ y hy
          obtain ⟨r2, c3, h6, rfl⟩ := hor (by omega)
          rw [h1] at h6; cases h6
          exact ⟨_, rfl, hF, c, c1, fun j v hj => by
            rw [add_mk]
            have := c2 j v hj
            rw [← this]; congr 2; rw [Nat.add_mul]; omega⟩
    · exact .undef _

theorem borrow_sound {g : Gh} {H : Hp} {w : World} {v : AV} {u : Value} (hr : HRel g H w) (h : RelV g w v u) : RelV g.all w (borrow H v) u := by
  cases v <;> try exact borrow1_sound hr h
  rename_i cs
  have e := h.isAgg rfl
  have hc := h.cells rfl
  simp only [borrow]
  have : RelC g.all w (cs.map (borrow1 H)) u.cells.toList := by
    refine ⟨by simp [hc.1, cellsOf], fun j c v h1 h2 => ?_⟩
    rw [List.getElem?_map] at h1
    cases hx : cs[j]? with
    | none => rw [hx] at h1; cases h1
    | some c0 =>
      rw [hx] at h1
      cases h1
      exact borrow1_sound hr (hc.2 j c0 v hx h2)
  have := RelV.ofAgg this
  rw [Array.toArray_toList, ← e] at this
  exact this

/-- Values, one by one. -/
inductive RelVs (g : Gh) (w : World) : List AV → List Value → Prop
  | nil : RelVs g w [] []
  | cons {v : AV} {u : Value} {r : List AV} {s : List Value} : RelV g w v u → RelVs g w r s → RelVs g w (v :: r) (u :: s)
inductive RelTs (F : Nat → Prop) (w : World) : (ts : List Ty) → Tup ts → List Value → Prop
  | nil : RelTs F w [] () []
  | cons {t : Ty} {ts : List Ty} {x : t.den} {y : Tup ts} {u : Value} {s : List Value} : RelTV F w t x u → RelTs F w ts y s → RelTs F w (t :: ts) (x, y) (u :: s)

theorem RelVs.append {g : Gh} {w : World} : ∀ {a b : List AV} {c d : List Value}, RelVs g w a c → RelVs g w b d → RelVs g w (a ++ b) (c ++ d)
  | _, _, _, _, .nil, h => h
  | _, _, _, _, .cons h1 h2, h => .cons h1 (h2.append h)
theorem RelVs.of {g : Gh} {w : World} {α : Type} {f : α → AV} {f' : α → Value} (h : ∀ x, RelV g w (f x) (f' x)) : ∀ l : List α, RelVs g w (l.map f) (l.map f')
  | [] => .nil
  | x :: l => .cons (h x) (RelVs.of h l)
theorem RelVs.get {g : Gh} {w : World} : ∀ {a : List AV} {c : List Value}, a.length = c.length → (∀ (j : Nat) (x : AV) (v : Value), a[j]? = some x → c[j]? = some v → RelV g w x v) → RelVs g w a c
  | [], [], _, _ => .nil
  | [], _ :: _, h, _ => by simp at h
  | _ :: _, [], h, _ => by simp at h
  | x :: a, v :: c, h, hx => .cons (hx 0 x v rfl rfl) (RelVs.get (by simpa using h) fun j x v h1 h2 => hx (j + 1) x v (by simpa using h1) (by simpa using h2))

theorem decArgs_sound {g : Gh} {w : World} : ∀ {ts : List Ty} {as : List AV} {x : Tup ts} {us : List Value}, decArgs ts as = some x → RelVs g w as us → RelTs g.F w ts x us
  | [], [], x, _, h, .nil => by cases h; exact .nil
  | t :: ts, v :: vs, x, _, h, .cons h1 h2 => by
    simp only [decArgs] at h
    split at h <;> try (cases h; done)
    rename_i y hy
    split at h <;> try (cases h; done)
    rename_i z hz
    cases h
    exact .cons (decV_sound hy h1) (decArgs_sound hz h2)
  | [], _ :: _, x, _, h, _ => by cases h
  | _ :: _, [], x, _, h, _ => by cases h

theorem RelVs.borrow {g : Gh} {H : Hp} {w : World} (hr : HRel g H w) : ∀ {as : List AV} {us : List Value}, RelVs g w as us → RelVs g.all w (as.map (VI.borrow H)) us
  | _, _, .nil => .nil
  | _, _, .cons h1 h2 => .cons (borrow_sound hr h1) (RelVs.borrow hr h2)

/-- What a call hands back, and typed values. -/
def resV : List Value → Value
  | [v] => v
  | vs => .tuple vs.toArray

theorem encVals_sound {g : Gh} {w : World} : ∀ {ts : List Ty} {x : Tup ts} {us : List Value}, RelTs g.F w ts x us → RelVs g w (encVals ts x) us
  | [], _, _, .nil => .nil
  | t :: ts, _, _, .cons h1 h2 => .cons (val_sound h1) (encVals_sound h2)
theorem RelVs.tup {g : Gh} {w : World} {a : List AV} {c : List Value} (h : RelVs g w a c) : RelV g w (.tup a) (.tuple c.toArray) := by
  have hl : ∀ {a : List AV} {c : List Value}, RelVs g w a c → c.length = a.length := fun h => by
    induction h with
    | nil => rfl
    | cons _ _ ih => simp [ih]
  have hg : ∀ {a : List AV} {c : List Value}, RelVs g w a c → ∀ (j : Nat) (x : AV), a[j]? = some x → ∃ v, c[j]? = some v ∧ RelV g w x v := fun h => by
    induction h with
    | nil => intro j x hx; simp at hx
    | cons h1 h2 ih =>
      intro j x hx
      cases j with
      | zero => simp at hx; subst hx; exact ⟨_, rfl, h1⟩
      | succ j => simp at hx; obtain ⟨v, a, b⟩ := ih j x hx; exact ⟨v, by simpa using a, b⟩
  refine .tup _ _ (fun j => (c[j]?).getD Go.undef) (by simp [hl h]) (fun j x hx => ?_) (fun j x hx => ?_)
  · obtain ⟨v, a, b⟩ := hg h j x hx
    simp [a]
  · obtain ⟨v, a, b⟩ := hg h j x hx
    simpa [a] using b
theorem resVal_sound {g : Gh} {w : World} {a : List AV} {c : List Value} (h : RelVs g w a c) : RelV g w (resVal a) (resV c) := by
  cases h with
  | nil => exact RelVs.tup .nil
  | cons h1 h2 =>
    cases h2 with
    | nil => exact h1
    | cons h2 h3 => exact RelVs.tup (.cons h1 (.cons h2 h3))

/-- Flat data is the same wherever it lies. -/
theorem RelT.flat {F F' : Nat → Prop} {w w' : World} : ∀ {t : Ty} {x : t.den} {cs : List Value}, t.flat = true → RelT F w t x cs → RelT F' w' t x cs
  | .int _, _, _, _, h => h
  | .bool, _, _, _, h => h
  | .f64, _, _, _, h => h
  | .str, _, _, _, h => h
  | .slice _, _, _, hf, _ => by cases hf
  | .pair a b, _, _, hf, h => by
    obtain ⟨h1, h2⟩ := and_spec hf
    obtain ⟨c, d, e, h3, h4⟩ := h
    exact ⟨c, d, e, RelT.flat h1 h3, RelT.flat h2 h4⟩
  | .agg t, x, cs, hf, h => RelT.flat (t := t) hf h
  | .nil, _, _, _, h => h
theorem RelTs.flat {F F' : Nat → Prop} {w w' : World} : ∀ {ts : List Ty} {x : Tup ts} {us : List Value}, ts.all Ty.flat = true → RelTs F w ts x us → RelTs F' w' ts x us
  | [], _, _, _, .nil => .nil
  | t :: ts, _, _, hf, .cons h1 h2 => by
    have hf : (t.flat && ts.all Ty.flat) = true := hf
    rw [Bool.and_eq_true] at hf
    exact .cons ⟨h1.rel.flat hf.1, h1.one, h1.agg⟩ (RelTs.flat hf.2 h2)

/-- A contract holds of a function. -/
def Holds (P : Program) (f : FuncId) (e : Entry) : Prop :=
  ∀ (F : Nat → Prop) (w : World) (us : List Value) (x : Tup e.ts) (y : Tup e.rs), (∀ r, F r → r < w.heap.size) → RelTs F w e.ts x us → e.f x = some y →
    Calls P f us.toArray w fun en w' => ∃ F' vs, en = .returned (resV vs) ∧ (∀ r, F r → F' r) ∧ (∀ r, F' r → F r ∨ w.heap.size ≤ r) ∧ (∀ r, F' r → r < w'.heap.size) ∧ w.heap.size ≤ w'.heap.size ∧
      (∀ r, r < w.heap.size → w'.heap[r]? = w.heap[r]?) ∧ Env w w' ∧ RelTs F' w' e.rs y vs

/-- A walked call does what it says. -/
def InlOk (P : Program) (inl : Inl R) : Prop :=
  ∀ f as H n κ r, inl f as H n κ = some r → ∃ v H' n' D, κ v H' n' D = some r ∧ n ≤ n' ∧ ∀ (g : Gh) (w : World) (us : List Value), HRel g H w → RelVs g w as us → (∀ b, n ≤ b → g.G b = .none) →
    Calls P f us.toArray w fun en w' => ∃ u, en = .returned u ∧ ∃ g', Went g H w (fun b => n ≤ b ∧ b < n') v H' D u w' g'

theorem callO_sound {E : FuncId → Option Entry} {inl : Inl R} (hE : ∀ f e, E f = some e → Holds P f e) (hI : InlOk P inl) {f : FuncId} {as : List AV} {H : Hp} {n : Nat} {κ : KO R} {r : R} (h : callO P E inl f as H n κ = some r) :
    enterable P f = true ∧ ∃ v H' n' D, κ v H' n' D = some r ∧ n ≤ n' ∧ ∀ (g : Gh) (w : World) (us : List Value), HRel g H w → RelVs g w as us → (∀ b, n ≤ b → g.G b = .none) →
      Calls P f us.toArray w fun en w' => ∃ u, en = .returned u ∧ ∃ g', Went g H w (fun b => n ≤ b ∧ b < n') v H' D u w' g' := by
  unfold callO at h
  have hx_ := br_none h
  clear h
  obtain ⟨hen, h⟩ := hx_
  refine ⟨hen, ?_⟩
  split at h
  · rename_i e he
    have hold := hE f e he
    have went : ∀ (g : Gh) (w w' : World) (F' : Nat → Prop) (vs : List Value) (y : Tup e.rs), HRel g H w → (∀ r, g.F r → F' r) → (∀ r, F' r → g.F r ∨ w.heap.size ≤ r) → (∀ r, F' r → r < w'.heap.size) → w.heap.size ≤ w'.heap.size →
        (∀ r, r < w.heap.size → w'.heap[r]? = w.heap[r]?) → Env w w' → RelTs F' w' e.rs y vs → ∃ g', Went g H w (fun b => n ≤ b ∧ b < n) (resVal (encVals e.rs y)) H [] (resV vs) w' g' := by
      intro g w w' F' vs y hr h1 h2 h3 h4 h5 henv h6
      have hx : Ext g H w [] ⟨F', g.i, g.G⟩ H w' := ⟨h1, fun r h => by
        rcases h2 r h with h | h
        · exact .inl h
        · exact .inr (.inr h), h4, fun r hlt _ => h5 r hlt, (fun _ h => by cases h), fun _ _ _ => ⟨rfl, rfl, rfl⟩, (fun _ h => by cases h), (fun _ h => by cases h), fun b r c h h' _ => absurd h h', henv⟩
      refine ⟨⟨F', g.i, g.G⟩, hx, ⟨fun b => ?_, hr.kd, hr.inj, fun b r c e1 e2 e3 => ?_, h3⟩, resVal_sound (encVals_sound (g := ⟨F', g.i, g.G⟩) h6), fun b h h' => absurd h h'⟩
      · by_cases hg : H b = .gone
        · rw [hg]; exact trivial
        · exact RelB.step hx hr hg (fun h => by cases h)
      · have hd := hr.disj b r c e1 e2 e3
        refine ⟨fun hF => ?_, by omega⟩
        rcases h2 r hF with h | h
        · exact hd.1 h
        · omega
    rcases br_some h with ⟨hb, h⟩ | ⟨hb, h⟩
    · have hx_ := br_none h
      clear h
      obtain ⟨hfl, h⟩ := hx_
      split at h
      case h_2 => cases h
      rename_i x hx
      have hx_ := Option.bind_eq_some_iff.1 h
      clear h
      obtain ⟨y, hy, h⟩ := hx_
      refine ⟨_, _, _, _, h, Nat.le_refl _, fun g w us hr hv hn => ?_⟩
      have hbv := RelVs.borrow hr hv
      have hts := decArgs_sound hx hbv
      refine (hold g.all.F w us x y (fun r hF => ?_) hts hy).mono fun en w' hres => ?_
      · rcases hF with hF | ⟨b, c, e1, e2, e3⟩
        · exact hr.ex r hF
        · exact (hr.disj b r c e1 e2 e3).2
      · obtain ⟨F', vs, e1, e2, e3, e4, e5, e6, eE, e7⟩ := hres
        exact ⟨_, e1, went g w w' g.F vs y hr (fun _ h => h) (fun _ h => .inl h) (fun r h => by have := hr.ex r h; omega) e5 e6 eE (e7.flat hfl)⟩
    · split at h
      case h_2 => cases h
      rename_i x hx
      have hx_ := Option.bind_eq_some_iff.1 h
      clear h
      obtain ⟨y, hy, h⟩ := hx_
      refine ⟨_, _, _, _, h, Nat.le_refl _, fun g w us hr hv hn => ?_⟩
      refine (hold g.F w us x y hr.ex (decArgs_sound hx hv) hy).mono fun en w' hres => ?_
      obtain ⟨F', vs, e1, e2, e3, e4, e5, e6, eE, e7⟩ := hres
      exact ⟨_, e1, went g w w' F' vs y hr e2 e3 e4 e5 e6 eE e7⟩
  · exact hI _ _ _ _ _ _ h
end Go.VI

end
