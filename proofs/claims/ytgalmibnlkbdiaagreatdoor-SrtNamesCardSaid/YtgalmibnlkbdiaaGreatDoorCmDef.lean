/- The abstract machine "Cm": values, heap, operations; no model world in sight. -/
import Derived.Orders
import Derived.Below
import Derived.Laws.StructEq
import Derived.ChangeKeysEq
set_option linter.unusedVariables false
set_option linter.unusedSimpArgs false
namespace Go.Cm
open Go

/-! ## Values -/
inductive V where
  | undef
  | junk
  | bool (b : Bool)
  | int (k : IntKind) (n : Int)
  | str (s : List UInt8)
  | ptr (b o : Nat)
  | nilptr
  | slice (b o len cap : Nat) (ex : Bool)
  | nilslice
  | fn (f : Fn) (first cap : List V)
  | nilfn
  | iface (t : TypeId) (v : V)
  | nilif
  | agg (cs : List V)
  | tuple (vs : List V)
  | it (i : Nat)
  deriving Inhabited

def V.isCell : V → Bool
  | .undef | .agg _ | .tuple _ => false
  | _ => true

/-- The cells of a value; none: not known. -/
def cellsOf : V → Option (List V)
  | .agg cs => if cs.all V.isCell then some cs else none
  | v => if v.isCell then some [v] else none

def ofScalar : Value → V
  | .bool b => .bool b
  | .int k n => .int k n
  | .string s => .str s.data.toList
  | .pointer none => .nilptr
  | .slice none 0 0 => .nilslice
  | .nilFunc => .nilfn
  | .nilIface => .nilif
  | .agg _ => .undef
  | .tuple _ => .undef
  | _ => .junk

def ofVal : Value → V
  | .agg cs => .agg (cs.toList.map ofScalar)
  | v => ofScalar v

/-! ## Types -/
inductive Kd where
  | bool | int (k : IntKind) | str | ptr (e : TypeId) | slice (e : TypeId) | arr (n : Nat) (e : TypeId)
  | struct (fs : List (TypeId × Nat)) | iface (ms : Nat) | func | uptr | other
  deriving Inhabited

def kdOf : TypeDesc → Kd
  | .bool => .bool | .int k => .int k | .string => .str | .pointer e => .ptr e | .slice e => .slice e | .array n e => .arr n e
  | .struct fs => .struct (fs.toList.map fun f => (f.type, f.offset)) | .interface ms => .iface ms.size | .func .. => .func | .unsafePointer => .uptr | _ => .other

structure TI where
  kd : Kd
  size : Nat
  bytes : Nat
  zero : Option (List V)
  deriving Inhabited

def Kd.isAgg : Kd → Bool
  | .arr .. | .struct .. => true
  | _ => false

def zeroOf (i : TypeInfo) : Option (List V) :=
  match i.zero with
  | some z => if (z.cells.toList.map ofScalar).all V.isCell && z.cells.size == i.size then some (z.cells.toList.map ofScalar) else none
  | none => none

def tiOf (P : Program) (t : TypeId) : Option TI :=
  match P.info? t, P.underlying t with
  | some i, some d => some { kd := kdOf d, size := i.size, bytes := i.bytes, zero := zeroOf i }
  | _, _ => none

def kdAt (P : Program) (t : TypeId) : Option Kd := (tiOf P t).map TI.kd

/-! ## Heap -/
inductive Own where | own | frz | arg
  deriving DecidableEq, Inhabited

structure Obj where
  l : List V
  e : TypeId
  k : Own
  /-- Made whole: the block is all of its object. -/
  w : Bool
  deriving Inhabited

structure LoopRec where
  st : LoopState
  pend : Option Code
  t : Nat → V
  n : Nat
  params : Array Tmp
  assign : Code
  body : Code
  dfr : Nat

structure Heap where
  cs : Nat → Option Obj
  nc : Nat
  its : Nat → Option (List UInt8 × Nat)
  ni : Nat
  lps : Nat → Option LoopRec
  nl : Nat
  ds : Nat → Bool
  nd : Nat

def fset {α : Type} (f : Nat → α) (i : Nat) (v : α) : Nat → α := fun j => if j = i then v else f j

def Heap.put (H : Heap) (b : Nat) (o : Option Obj) : Heap := { H with cs := fset H.cs b o }
def Heap.push (H : Heap) (o : Obj) : Heap := { H with cs := fset H.cs H.nc (some o), nc := H.nc + 1 }
def Heap.pushIt (H : Heap) (s : List UInt8) : Heap := { H with its := fset H.its H.ni (some (s, 0)), ni := H.ni + 1 }
def Heap.putIt (H : Heap) (i : Nat) (s : List UInt8) (p : Nat) : Heap := { H with its := fset H.its i (some (s, p)) }
def Heap.pushLp (H : Heap) (r : LoopRec) : Heap := { H with lps := fset H.lps H.nl (some r), nl := H.nl + 1 }
def Heap.putLp (H : Heap) (l : Nat) (r : LoopRec) : Heap := { H with lps := fset H.lps l (some r) }
def Heap.pushDs (H : Heap) : Heap := { H with ds := fset H.ds H.nd true, nd := H.nd + 1 }
def Heap.dropDs (H : Heap) (j : Nat) : Heap := { H with ds := fset H.ds j false }

def splice (l : List V) (o : Nat) (cs : List V) : List V := l.take o ++ (cs ++ l.drop (o + cs.length))

def readCells (l : List V) (o n : Nat) : Option (List V) := if o + n ≤ l.length then some ((l.drop o).take n) else none

def Heap.load (H : Heap) (ti : TI) (b o : Nat) : Option V :=
  match H.cs b with
  | none => none
  | some ob => if ti.kd.isAgg then (readCells ob.l o ti.size).map V.agg else ob.l[o]?

def Heap.store (H : Heap) (ti : TI) (b o : Nat) (v : V) : Option Heap :=
  match H.cs b, cellsOf v with
  | some ob, some cs => if ob.k = .own ∧ cs.length = ti.size ∧ o + cs.length ≤ ob.l.length then some (H.put b (some { ob with l := splice ob.l o cs })) else none
  | _, _ => none

/-! ## Operations -/
def maxBytes : Nat := 140737488355328

def intOp (op : BinOp) (k : IntKind) (a b : Int) : Option V :=
  match op with
  | .add => some (.int k (k.wrap (a + b)))
  | .sub => some (.int k (k.wrap (a - b)))
  | .mul => some (.int k (k.wrap (a * b)))
  | .quo => if b = 0 then none else some (.int k (k.wrap (a.tdiv b)))
  | .rem => if b = 0 then none else some (.int k (a.tmod b))
  | .and => some (.int k (k.wrap ((BitVec.ofInt k.bits a &&& BitVec.ofInt k.bits b).toNat)))
  | .or => some (.int k (k.wrap ((BitVec.ofInt k.bits a ||| BitVec.ofInt k.bits b).toNat)))
  | .xor => some (.int k (k.wrap ((BitVec.ofInt k.bits a ^^^ BitVec.ofInt k.bits b).toNat)))
  | .andNot => some (.int k (k.wrap ((BitVec.ofInt k.bits a &&& ~~~(BitVec.ofInt k.bits b)).toNat)))
  | .eql => some (.bool (a == b))
  | .neq => some (.bool (a != b))
  | .lss => some (.bool (decide (a < b)))
  | .leq => some (.bool (decide (a ≤ b)))
  | .gtr => some (.bool (decide (a > b)))
  | .geq => some (.bool (decide (a ≥ b)))
  | _ => none

def shiftOp (op : BinOp) (k : IntKind) (a b : Int) : Option V :=
  if b < 0 then none
  else match op with
    | .shl => some (.int k (k.wrap (a * 2 ^ (min b.toNat k.bits))))
    | .shr => some (.int k (a.fdiv (2 ^ (min b.toNat k.bits))))
    | _ => none

def strOp (op : BinOp) (a b : List UInt8) : Option V :=
  match op with
  | .add => if a.length + b.length ≤ 9223372036854775807 then some (.str (a ++ b)) else none
  | .eql => some (.bool (a == b))
  | .neq => some (.bool (!(a == b)))
  | .lss => some (.bool (Op.bytesLess a b))
  | .leq => some (.bool (Op.bytesLess a b || a == b))
  | .gtr => some (.bool (!(Op.bytesLess a b || a == b)))
  | .geq => some (.bool (!(Op.bytesLess a b)))
  | _ => none

/-- '==' of two scalars of a type of that kind. -/
def eqScalar : Kd → V → V → Option Bool
  | .bool, .bool a, .bool b => some (a == b)
  | .int _, .int k a, .int k' b => if k = k' then some (a == b) else none
  | .str, .str a, .str b => some (a == b)
  | _, _, _ => none

/-- '==' of structs whose fields are scalars, one cell each. -/
def eqFields (P : Program) (xs ys : List V) : List Field → Option Bool
  | [] => some true
  | f :: fs =>
    match tiOf P f.type, xs[f.offset]?, ys[f.offset]? with
    | some ti, some a, some b =>
      match eqScalar ti.kd a b, eqFields P xs ys fs with
      | some r, some q => if f.name ≠ "_" then some (r && q) else none
      | _, _ => none
    | _, _, _ => none

def eqV (P : Program) (t : TypeId) (a b : V) : Option Bool :=
  match tiOf P t with
  | none => none
  | some ti =>
    match ti.kd, a, b with
    | .ptr _, .nilptr, .nilptr => some true
    | .ptr _, .nilptr, .ptr _ _ => some false
    | .ptr _, .ptr _ _, .nilptr => some false
    | .ptr e, .ptr b o, .ptr b' o' => if b = b' ∧ ((tiOf P e).map TI.size).getD 0 ≠ 0 then some (o == o') else none
    | .slice _, .nilslice, .nilslice => some true
    | .slice _, .nilslice, .slice .. => some false
    | .slice _, .slice .., .nilslice => some false
    | .func, .nilfn, .nilfn => some true
    | .func, .nilfn, .fn .. => some false
    | .func, .fn .., .nilfn => some false
    | .iface _, .nilif, .iface _ _ => some false
    | .iface _, .iface _ _, .nilif => some false
    | .struct _, .agg xs, .agg ys =>
      (match P.underlying t with
      | some (.struct fs) => if P.stoodInHeld t = false ∧ P.eqGuardType P.depth t = false then eqFields P xs ys fs.toList else none
      | _ => none)
    | kd, a, b => eqScalar kd a b

def isConst : Operand → Bool
  | .const _ => true
  | _ => false

def opBin (P : Program) (op : BinOp) (t : TypeId) (x y : Operand) (a b : V) : Option V :=
  match op, a, b with
  | .shl, .int k n, .int _ m => shiftOp .shl k n m
  | .shr, .int k n, .int _ m => shiftOp .shr k n m
  | op, .int k n, .int k' m => if k = k' then intOp op k n m else none
  | op, .str s, .str u => strOp op s u
  | .eql, .nilif, .nilif => if (isConst x || isConst y) && (match kdAt P t with | some (.iface _) => true | _ => false) then some (.bool true) else none
  | .neq, .nilif, .nilif => if (isConst x || isConst y) && (match kdAt P t with | some (.iface _) => true | _ => false) then some (.bool false) else none
  | .eql, a, b => (eqV P t a b).map V.bool
  | .neq, a, b => (eqV P t a b).map fun r => V.bool (!r)
  | _, _, _ => none

def opUn (op : UnOp) (a : V) : Option V :=
  match op, a with
  | .neg, .int k n => some (.int k (k.wrap (0 - n)))
  | .xor, .int k n => intOp .xor k (if k.signed then -1 else k.max) n
  | .not, .bool b => some (.bool (!b))
  | _, _ => none

def u8s (s : List UInt8) : List V := s.map fun c => V.int .u8 c.toNat

/-- The bytes that cells hold. -/
def bytesOf? : List V → Option (List UInt8)
  | [] => some []
  | .int .u8 n :: r => (bytesOf? r).map (UInt8.ofNat n.toNat :: ·)
  | _ :: _ => none

def decodeL (s : List UInt8) (i : Nat) : Nat × Nat := Utf8.decode ⟨s.toArray⟩ i

inductive OpR where
  | val (v : V) (H : Heap)
  | call (fv : V) (args : List V)
  | dfr (fv : V) (args : List V)
  | recov
  | fail
  deriving Inhabited

def OpR.of (r : Option V) (H : Heap) : OpR := match r with | some v => .val v H | none => .fail

def convOp (P : Program) (src dst : TypeId) (x : V) (H : Heap) : OpR :=
  match kdAt P src, kdAt P dst, x with
  | some _, some (.int k), .int _ n => .val (.int k (k.wrap n)) H
  | some _, some .str, .int _ n => .val (.str (Utf8.encode n).data.toList) H
  | some _, some .str, .str s => .val (.str s) H
  | some _, some (.slice e), .str s =>
    (match tiOf P e with
    | some ti => (match ti.kd with
      | .int .u8 => if ti.size = 1 then .val (.slice H.nc 0 s.length s.length false) (H.push ⟨u8s s, e, .own, false⟩) else .fail
      | _ => .fail)
    | none => .fail)
  | some (.slice e), some .str, .nilslice =>
    (match kdAt P e with
    | some (.int .u8) => .val (.str []) H
    | _ => .fail)
  | some (.slice e), some .str, .slice b o n _ _ =>
    (match kdAt P e, (H.cs b).bind fun ob => readCells ob.l o n with
    | some (.int .u8), some cs => (match bytesOf? cs with | some s => .val (.str s) H | none => .fail)
    | _, _ => .fail)
  | some (.slice _), some (.slice e), .slice b o n c ex =>
    (match kdAt P e, H.cs b with
    | some (.int .u8), some ob => if src = dst ∧ ob.k = .own ∧ c ≠ 0 then .val (.slice b o n c ex) H else .fail
    | _, _ => .fail)
  | some (.ptr _), some .uptr, .nilptr => .val .nilptr H
  | some .uptr, some (.ptr _), .nilptr => .val .nilptr H
  | some (.ptr t), some .uptr, .ptr b o =>
    (match H.cs b, tiOf P t with
    | some ob, some ti => if o < ob.l.length ∧ ti.size ≠ 0 then .val (.ptr b o) H else .fail
    | _, _ => .fail)
  | some .uptr, some (.ptr u), .ptr b o =>
    (match H.cs b, tiOf P u with
    | some ob, some _ => if ob.w = true ∧ ob.k ≠ .arg ∧ liesAt P P.depth ob.e (ob.l.length / P.cellsOf ob.e) o u 1 = true then .val (.ptr b o) H else .fail
    | _, _ => .fail)
  | _, _, _ => .fail

def placesOf (P : Program) : List (TypeId × Nat) → Option (List (Nat × Nat))
  | [] => some []
  | (t, o) :: r => match tiOf P t, placesOf P r with
    | some ti, some l => some ((o, ti.size) :: l)
    | _, _ => none

def fillL (place : Nat → Option (Nat × Nat)) (cells : List V) : List (Nat × V) → Option (List V)
  | [] => some cells
  | (i, v) :: r =>
    match place i, cellsOf v with
    | some (off, size), some cs => if cs.length = size ∧ off + size ≤ cells.length then fillL place (splice cells off cs) r else none
    | _, _ => none

def buildOp (P : Program) (t : TypeId) (parts : List (Nat × V)) : Option V :=
  match tiOf P t with
  | none => none
  | some ti =>
    match ti.kd, ti.zero with
    | .struct fs, some z => (match placesOf P fs with | some pl => (fillL (fun i => pl[i]?) z parts).map V.agg | none => none)
    | .arr _ e, some z => (match tiOf P e with | some ei => (fillL (fun i => some (i * ei.size, ei.size)) z parts).map V.agg | none => none)
    | _, _ => none

def repl (n : Nat) (z : List V) : List V := (List.replicate n z).flatten

def buildSliceOp (P : Program) (t : TypeId) (len : Nat) (parts : List (Nat × V)) (H : Heap) : OpR :=
  match tiOf P t with
  | none => .fail
  | some ti =>
    match ti.kd with
    | .slice e =>
      (match tiOf P e with
      | some ei =>
        (match ei.zero with
        | some z =>
          if len * ei.size ≤ 16777216 ∧ ei.size ≠ 0 then
            (match fillL (fun i => some (i * ei.size, ei.size)) (repl len z) parts with
            | some cells => .val (.slice H.nc 0 len len true) (H.push ⟨cells, e, .own, false⟩)
            | none => .fail)
          else .fail
        | none => .fail)
      | none => .fail)
    | _ => .fail

def makeSliceOp (P : Program) (t : TypeId) (l c : V) (H : Heap) : OpR :=
  match tiOf P t, l, c with
  | some ti, .int _ l, .int _ c =>
    (match ti.kd with
    | .slice e =>
      (match tiOf P e with
      | some ei =>
        (match ei.zero with
        | some z =>
          if 0 ≤ l ∧ l ≤ c ∧ ei.bytes * c ≤ 281474976710656 ∧ c ≤ 9223372036854775807 ∧ ei.size ≠ 0 then
            .val (.slice H.nc 0 l.toNat c.toNat true) (H.push ⟨repl c.toNat z, e, .own, false⟩)
          else .fail
        | none => .fail)
      | none => .fail)
    | _ => .fail)
  | _, _, _ => .fail

/-- A bound of a slice expression. -/
def bound (x : V) (y : Nat) : Option Nat :=
  match x with
  | .int _ i => if 0 ≤ i ∧ i ≤ (y : Int) then some i.toNat else none
  | _ => none

/-- low, high, max of a slice expression over something of that length and capacity. -/
def bounds (len cap : Nat) (lo hi mx : Option V) : Option (Nat × Nat × Nat) :=
  match (match mx with | some v => bound v cap | none => some cap) with
  | none => none
  | some m =>
    match (match hi, mx with | some v, some _ => bound v m | some v, none => bound v m | none, none => some len | none, some _ => none) with
    | none => none
    | some h =>
      match (match lo with | some v => bound v h | none => some 0) with
      | none => none
      | some l => some (l, h, m)

def sliceOp (P : Program) (t : TypeId) (x : V) (lo hi mx : Option V) (H : Heap) : OpR :=
  match tiOf P t with
  | none => .fail
  | some ti =>
    match ti.kd, x with
    | .str, .str s =>
      if mx.isSome then .fail else
      (match bounds s.length s.length lo hi none with
      | some (l, h, _) => .val (.str ((s.take h).drop l)) H
      | none => .fail)
    | .slice e, .nilslice =>
      (match bounds 0 0 lo hi mx, tiOf P e with
      | some _, some _ => .val .nilslice H
      | _, _ => .fail)
    | .slice e, .slice b o n c ex =>
      (match bounds n c lo hi mx, tiOf P e with
      | some (l, h, m), some ei =>
        if ex || mx.isSome then .val (.slice b (o + l * ei.size) (h - l) (m - l) true) H
        else (match H.cs b with
          | some ob => if ob.e = e ∧ ob.k ≠ .arg then .val (.slice b (o + l * ei.size) (h - l) (m - l) false) H else .fail
          | none => .fail)
      | _, _ => .fail)
    | .arr n e, .ptr b o =>
      (match bounds n n lo hi mx, tiOf P e with
      | some (l, h, m), some ei => .val (.slice b (o + l * ei.size) (h - l) (m - l) true) H
      | _, _ => .fail)
    | _, _ => .fail

def fieldAddrOp (P : Program) (s : TypeId) (x : V) (i : Nat) : Option V :=
  match tiOf P s, x with
  | some ti, .ptr b o =>
    (match ti.kd with
    | .struct fs =>
      (match fs[i]? with
      | some (ft, off) => (match tiOf P ft with | some fi => if fi.size = 0 then none else some (.ptr b (o + off)) | none => none)
      | none => none)
    | _ => none)
  | _, _ => none

def partOf (ti : TI) (cs : List V) (off : Nat) : Option V :=
  if ti.kd.isAgg then (readCells cs off ti.size).map V.agg else cs[off]?

def fieldOp (P : Program) (s : TypeId) (x : V) (i : Nat) : Option V :=
  match tiOf P s, x with
  | some ti, .agg cs =>
    (match ti.kd with
    | .struct fs => (match fs[i]? with | some (ft, off) => (match tiOf P ft with | some fi => partOf fi cs off | none => none) | none => none)
    | _ => none)
  | _, _ => none

def indexAddrOp (P : Program) (t : TypeId) (x i : V) : Option V :=
  match tiOf P t, i with
  | some ti, .int _ i =>
    (match ti.kd, x with
    | .arr n e, .ptr b o => (match tiOf P e with | some ei => if 0 ≤ i ∧ i < (n : Int) then some (.ptr b (o + i.toNat * ei.size)) else none | none => none)
    | .slice e, .slice b o n _ _ => (match tiOf P e with | some ei => if 0 ≤ i ∧ i < (n : Int) then some (.ptr b (o + i.toNat * ei.size)) else none | none => none)
    | _, _ => none)
  | _, _ => none

def indexOp (P : Program) (t : TypeId) (x i : V) : Option V :=
  match tiOf P t, i with
  | some ti, .int _ i =>
    (match ti.kd, x with
    | .arr n e, .agg cs => (match tiOf P e with | some ei => if 0 ≤ i ∧ i < (n : Int) then partOf ei cs (i.toNat * ei.size) else none | none => none)
    | .str, .str s => if 0 ≤ i then (s[i.toNat]?).map fun c => .int .u8 c.toNat else none
    | _, _ => none)
  | _, _ => none

def rangeOp (P : Program) (t : TypeId) (x : V) (H : Heap) : OpR :=
  match tiOf P t, x with
  | some ti, .str s => (match ti.kd with | .str => .val (.it H.ni) (H.pushIt s) | _ => .fail)
  | _, _ => .fail

def nextOp (x : V) (H : Heap) : OpR :=
  match x with
  | .it i =>
    (match H.its i with
    | some (s, pos) =>
      if pos < s.length then .val (.tuple [.bool true, .int .i64 pos, .int .i32 (decodeL s pos).1]) (H.putIt i s (pos + (decodeL s pos).2))
      else .val (.tuple [.bool false]) H
    | none => .fail)
  | _ => .fail

def extractOp (x : V) (i : Nat) : Option V :=
  match x with
  | .tuple vs => vs[i]?
  | _ => none

/-- A type's zero value. -/
def zvOf (P : Program) (t : TypeId) : Option V :=
  match P.info? t with
  | some i => i.zero.map ofVal
  | none => none

def assertOp (P : Program) (x : V) (asserted : TypeId) (ok : Bool) : Option V :=
  match tiOf P asserted, x with
  | some ti, .iface t v =>
    (match ti.kd with
    | .iface _ => none
    | _ => if t = asserted then some (if ok then .tuple [v, .bool true] else v)
           else if ok then (zvOf P asserted).map fun z => .tuple [z, .bool false] else none)
  | some ti, .nilif =>
    (match ti.kd with
    | .iface _ => none
    | _ => if ok then (zvOf P asserted).map fun z => .tuple [z, .bool false] else none)
  | _, _ => none

def lenOp (P : Program) (t : TypeId) (x : V) : Option V :=
  match tiOf P t with
  | none => none
  | some ti =>
    match ti.kd, x with
    | .str, .str s => some (.int .i64 s.length)
    | .arr n _, _ => some (.int .i64 n)
    | .slice _, .nilslice => some (.int .i64 0)
    | .slice _, .slice _ _ n _ _ => some (.int .i64 n)
    | _, _ => none

def capOp (P : Program) (t : TypeId) (x : V) : Option V :=
  match tiOf P t with
  | none => none
  | some ti =>
    match ti.kd, x with
    | .arr n _, _ => some (.int .i64 n)
    | .slice _, .nilslice => some (.int .i64 0)
    | .slice _, .slice _ _ _ c true => some (.int .i64 c)
    | _, _ => none

/-- What is appended: how many elements, their cells. -/
def newCells (size : Nat) (x : V) (H : Heap) : Option (Nat × List V) :=
  match x with
  | .nilslice => some (0, [])
  | .str s => if size = 1 then some (s.length, u8s s) else none
  | .slice b o n _ _ => (match (H.cs b).bind fun ob => readCells ob.l o (n * size) with | some cs => some (n, cs) | none => none)
  | _ => none

def appendOp (P : Program) (t : TypeId) (xt : TypeId) (s x : V) (H : Heap) : OpR :=
  match tiOf P t, tiOf P xt with
  | some ti, some xi =>
    (match ti.kd, xi.kd with
    | _, .int _ => .fail
    | .slice e, _ =>
      (match tiOf P e with
      | none => .fail
      | some ei =>
        match newCells ei.size x H, ei.zero with
        | some (m, cs), some _ =>
          if m = 0 then (match s with | .nilslice => .val .nilslice H | .slice .. => .val s H | _ => .fail)
          else if ei.bytes = 0 ∨ ei.size = 0 then .fail
          else match s with
          | .nilslice => if m * ei.bytes ≤ maxBytes then .val (.slice H.nc 0 m m false) (H.push ⟨cs, e, .own, false⟩) else .fail
          | .slice b o n c ex =>
            if n + m ≤ c then
              (match H.cs b with
              | some ob => if ob.k = .own ∧ o + n * ei.size + cs.length ≤ ob.l.length then .val (.slice b o (n + m) c ex) (H.put b (some { ob with l := splice ob.l (o + n * ei.size) cs })) else .fail
              | none => .fail)
            else if ¬ (n + m) * ei.bytes ≤ maxBytes then .fail
            else (match (H.cs b) with
              | none => .fail
              | some ob =>
                match readCells ob.l o (n * ei.size) with
                | none => .fail
                | some old =>
                  if ex then .val (.slice H.nc 0 (n + m) (n + m) false) (H.push ⟨old ++ cs, e, .own, false⟩)
                  else if ob.e = e ∧ ob.k = .own then
                    .val (.slice H.nc 0 (n + m) (n + m) false) ((H.put b none).push ⟨old ++ cs, e, ob.k, false⟩)
                  else .fail)
          | _ => .fail
        | _, _ => .fail)
    | _, _ => .fail)
  | _, _ => .fail

def copyOp (P : Program) (t : TypeId) (d s : V) (H : Heap) : OpR :=
  match tiOf P t with
  | none => .fail
  | some ti =>
    match ti.kd with
    | .slice e =>
      (match tiOf P e with
      | none => .fail
      | some ei =>
        match newCells ei.size s H, d with
        | some (_, _), .nilslice => .val (.int .i64 0) H
        | some (m, cs), .slice b o n _ _ =>
          if min m n = 0 then .val (.int .i64 0) H else
          (match H.cs b with
          | some ob =>
            if ob.k = .own ∧ o + (min m n) * ei.size ≤ ob.l.length then
              .val (.int .i64 (min m n : Nat)) (H.put b (some { ob with l := splice ob.l o (cs.take ((min m n) * ei.size)) }))
            else .fail
          | none => .fail)
        | _, _ => .fail)
    | _ => .fail

def minOp : List V → Option V
  | [.int k x, .int k' y] => if k = k' then some (.int k (if y < x then y else x)) else none
  | _ => none

def maxOp : List V → Option V
  | [.int k x, .int k' y] => if k = k' then some (.int k (if x < y then y else x)) else none
  | _ => none

def sliceDataOp (x : V) : Option V :=
  match x with
  | .nilslice => some .nilptr
  | .slice b o _ c _ => if c ≠ 0 then some (.ptr b o) else none
  | _ => none

def unsafeStrOp (P : Program) (pt : TypeId) (p : V) (n : Int) (H : Heap) : OpR :=
  if n = 0 then (match p with | .nilptr => .val (.str []) H | .ptr _ _ => .val (.str []) H | _ => .fail)
  else match p, kdAt P pt with
    | .ptr b o, some (.ptr e) =>
      (match tiOf P e, H.cs b with
      | some ei, some ob =>
        if ei.size = 1 ∧ ob.k ≠ .arg ∧ ob.e = e ∧ 0 < n ∧ n ≤ 9223372036854775807 then
          (match (readCells ob.l o n.toNat).bind bytesOf? with
          | some s => .val (.str s) (H.put b (some { ob with k := .frz }))
          | none => .fail)
        else .fail
      | _, _ => .fail)
    | _, _ => .fail

def builtinOp (P : Program) (b : Builtin) (ts : List TypeId) (args : List V) (H : Heap) : OpR :=
  match b, ts, args with
  | .len, t :: _, x :: _ => .of (lenOp P t x) H
  | .cap, t :: _, x :: _ => .of (capOp P t x) H
  | .min, _, l => .of (minOp l) H
  | .max, _, l => .of (maxOp l) H
  | .append, [t, xt], [s, x] => appendOp P t xt s x H
  | .copy, t :: _, [d, s] => copyOp P t d s H
  | .unsafeSliceData, _, [x] => .of (sliceDataOp x) H
  | .recover, _, _ => .recov
  | .unsafeString, [pt, _], [p, .int .i64 n] => unsafeStrOp P pt p n H
  | _, _, _ => .fail

/-- A method of an interface value: pointer receivers without a path alone. -/
def methOp (P : Program) (t : TypeId) (name : String) : Option FuncId :=
  match P.info? t with
  | none => none
  | some i =>
    match i.methods.find? (·.name == name) with
    | some m => if m.path.isEmpty then (match m.func, kdAt P t with | some (f, true), some (.ptr _) => some f | _, _ => none) else none
    | none => none

def callOp (P : Program) (ρ : Operand → V) (c : Call) (H : Heap) : OpR :=
  match c.callee with
  | .builtin b => builtinOp P b c.argTypes.toList (c.args.toList.map ρ) H
  | .invoke recv name =>
    (match ρ recv with
    | .iface t v => (match methOp P t name with | some f => .call (.fn (.func f) [] []) (v :: c.args.toList.map ρ) | none => .fail)
    | _ => .fail)
  | .value f => .call (ρ f) (c.args.toList.map ρ)

def dfrOp (ρ : Operand → V) (c : Call) : OpR :=
  match c.callee with
  | .value f => .dfr (ρ f) (c.args.toList.map ρ)
  | _ => .fail

def stepOp (P : Program) (ρ : Operand → V) (o : Oper) (H : Heap) : OpR :=
  match o.op with
  | .move x => .val (ρ x) H
  | .assign x => .val (ρ x) H
  | .pick c a b => (match ρ c with | .bool true => .val (ρ a) H | .bool false => .val (ρ b) H | _ => .fail)
  | .alloc t => (match (tiOf P t).bind (·.zero) with | some z => .val (.ptr H.nc 0) (H.push ⟨z, t, .own, true⟩) | none => .fail)
  | .box t x => (match cellsOf (ρ x), (tiOf P t).map TI.size with | some cs, some _ => .val (.ptr H.nc 0) (H.push ⟨cs, t, .own, true⟩) | _, _ => .fail)
  | .build t parts => .of (buildOp P t (parts.toList.map fun p => (p.1, ρ p.2))) H
  | .buildSlice t len parts => buildSliceOp P t len (parts.toList.map fun p => (p.1, ρ p.2)) H
  | .load t a => (match ρ a, tiOf P t with | .ptr b o, some ti => .of (H.load ti b o) H | _, _ => .fail)
  | .store t a x => (match ρ a, tiOf P t with | .ptr b o, some ti => (match H.store ti b o (ρ x) with | some H' => .val (.tuple []) H' | none => .fail) | _, _ => .fail)
  | .nilCheck x => (match ρ x with | .ptr b o => .val (.ptr b o) H | .fn (.func g) a c => .val (.fn (.func g) a c) H | .fn (.yield l) a c => .val (.fn (.yield l) a c) H | .iface t v => .val (.iface t v) H | _ => .fail)
  | .binOp op t x y _ => .of (opBin P op t x y (ρ x) (ρ y)) H
  | .unOp op _ x => .of (opUn op (ρ x)) H
  | .convert src dst x => convOp P src dst (ρ x) H
  | .makeInterface t x => (match kdAt P t with | some (.iface _) => .fail | some _ => .val (.iface t (ρ x)) H | none => .fail)
  | .makeFunc (.func g) first cap => .val (.fn (.func g) (first.toList.map ρ) (cap.toList.map ρ)) H
  | .makeSlice t l c => makeSliceOp P t (ρ l) (ρ c) H
  | .slice t x lo hi mx => sliceOp P t (ρ x) (lo.map ρ) (hi.map ρ) (mx.map ρ) H
  | .fieldAddr s x i => .of (fieldAddrOp P s (ρ x) i) H
  | .field t x i => .of (fieldOp P t (ρ x) i) H
  | .indexAddr t x i => .of (indexAddrOp P t (ρ x) (ρ i)) H
  | .index t x i => .of (indexOp P t (ρ x) (ρ i)) H
  | .range t x => rangeOp P t (ρ x) H
  | .next x true => nextOp (ρ x) H
  | .typeAssert x _ at' ok => .of (assertOp P (ρ x) at' ok) H
  | .extract x i => .of (extractOp (ρ x) i) H
  | .call c => callOp P ρ c H
  | .defer c => dfrOp ρ c
  | _ => .fail

/-! ## Frames -/
inductive Dfr where
  | col (j : Nat)
  | call (fv : V) (args : List V)

structure Env where
  t : Nat → V
  ds : List Dfr

def Env.put (e : Env) (d : Option Tmp) (v : V) : Env :=
  match d with
  | some d => { e with t := fset e.t d v }
  | none => e

def Env.ev (e : Env) : Operand → V
  | .tmp t => e.t t
  | .const v => ofVal v
  | .global g => .ptr g 0
  | .func f => .fn (.func f) [] []

inductive X where
  | normal | exit (id : Nat) | goto (l : Nat) | ret

def X.code : X → Option Code
  | .normal => none
  | .exit i => some (.exit i)
  | .goto l => some (.goto l)
  | .ret => some .ret

/-- A guard: is the operation wanted? -/
def wantedE (ops : Array Oper) (o : Oper) (e : Env) : Option Bool :=
  match o.guard with
  | none => some true
  | some (j, want) =>
    match (ops[j]?).bind (·.dst) with
    | none => some false
    | some d => match e.t d with
      | .bool b => some (b == want)
      | .tuple [] => some false
      | _ => none

def okG (G : Nat) : Operand → Bool
  | .global g => decide (g < G)
  | _ => true

/-- All slots that code writes lie below n, all variables that it names below G. -/
def Code.okN (n G : Nat) : Code → Bool
  | .region _ ops _ => ops.toList.all fun o => (match o.dst with | some d => decide (d < n) | none => true) && o.op.operands.toList.all (okG G)
  | .seq a b => Code.okN n G a && Code.okN n G b
  | .cond c a b => okG G c && Code.okN n G a && Code.okN n G b
  | .block _ c => Code.okN n G c
  | .loop c => Code.okN n G c
  | .scope c => Code.okN n G c
  | .rangeFunc f ps a b => okG G f && ps.toList.all (fun p => decide (p < n)) && Code.okN n G a && Code.okN n G b
  | _ => true

end Go.Cm
