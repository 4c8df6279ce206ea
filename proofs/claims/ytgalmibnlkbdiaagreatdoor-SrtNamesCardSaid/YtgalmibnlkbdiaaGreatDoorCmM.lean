/- Operations with their types looked up: what a region does, in short. -/
import Derived.Test.YtgalmibnlkbdiaaGreatDoorCmCanon
set_option linter.unusedVariables false
set_option linter.unusedSimpArgs false
namespace Go.Cm
open Go Go.RowKit

inductive SK where | b | i | s
  deriving DecidableEq, Inhabited
inductive EK where | ptr (ok : Bool) | sl | fn | ifc (cst : Bool)
  deriving DecidableEq, Inhabited

inductive MOp where
  | mv (x : Operand)
  | pick (c a b : Operand)
  | alloc (z : List V) (e : TypeId)
  | box (e : TypeId) (x : Operand)
  | build (z : List V) (ps : List (Nat × Nat × Operand))
  | bslice (e : TypeId) (len : Nat) (z : List V) (ps : List (Nat × Nat × Operand))
  | load (agg : Bool) (size : Nat) (a : Operand)
  | store (size : Nat) (a x : Operand)
  | nilck (x : Operand)
  | bin (op : BinOp) (x y : Operand)
  | eqb (neg : Bool) (x y : Operand)
  | eqk (neg : Bool) (k : EK) (x y : Operand)
  | eqs (neg : Bool) (fs : List (Nat × SK)) (x y : Operand)
  | un (op : UnOp) (x : Operand)
  | cint (k : IntKind) (x : Operand)
  | cstr (bs : Bool) (x : Operand)
  | cbytes (e : TypeId) (x : Operand)
  | ifc (t : TypeId) (x : Operand)
  | fnc (g : FuncId) (first cap : List Operand)
  | mkslice (e : TypeId) (bytes : Nat) (z : List V) (l c : Operand)
  | sstr (x : Operand) (lo hi : Option Operand)
  | ssl (e : TypeId) (size : Nat) (x : Operand) (lo hi mx : Option Operand)
  | sarr (n size : Nat) (x : Operand) (lo hi mx : Option Operand)
  | faddr (off : Nat) (x : Operand)
  | fld (agg : Bool) (size off : Nat) (x : Operand)
  | iaa (n size : Nat) (x i : Operand)
  | ias (size : Nat) (x i : Operand)
  | ixa (n size : Nat) (agg : Bool) (x i : Operand)
  | ixs (x i : Operand)
  | rng (x : Operand)
  | nxt (x : Operand)
  | ext (x : Operand) (i : Nat)
  | lenstr (x : Operand)
  | lenarr (n : Nat)
  | lensl (x : Operand)
  | app (e : TypeId) (size bytes : Nat) (s x : Operand)
  | cpy (size : Nat) (d s : Operand)
  | mn (x y : Operand)
  | mx (x y : Operand)
  | call (f : Operand) (args : List Operand)
  | inv (recv : Operand) (name : String) (args : List Operand)
  | recov
  | dfr (f : Operand) (args : List Operand)
  | gen (o : Op)

def loadM (H : Heap) (agg : Bool) (size b o : Nat) : Option V :=
  match H.cs b with
  | none => none
  | some ob => if agg then (readCells ob.l o size).map V.agg else ob.l[o]?

def storeM (H : Heap) (size b o : Nat) (v : V) : Option Heap :=
  match H.cs b, cellsOf v with
  | some ob, some cs => if ob.k = .own ∧ cs.length = size ∧ o + cs.length ≤ ob.l.length then some (H.put b (some { ob with l := splice ob.l o cs })) else none
  | _, _ => none

def fillM (cells : List V) : List (Nat × Nat × V) → Option (List V)
  | [] => some cells
  | (off, size, v) :: r =>
    match cellsOf v with
    | some cs => if cs.length = size ∧ off + size ≤ cells.length then fillM (splice cells off cs) r else none
    | none => none

def binM (op : BinOp) (a b : V) : Option V :=
  match op, a, b with
  | .shl, .int k n, .int _ m => shiftOp .shl k n m
  | .shr, .int k n, .int _ m => shiftOp .shr k n m
  | op, .int k n, .int k' m => if k = k' then intOp op k n m else none
  | op, .str s, .str u => strOp op s u
  | _, _, _ => none

def eqK (k : EK) (a b : V) : Option Bool :=
  match k, a, b with
  | .ptr _, .nilptr, .nilptr => some true
  | .ptr _, .nilptr, .ptr _ _ => some false
  | .ptr _, .ptr _ _, .nilptr => some false
  | .ptr ok, .ptr b o, .ptr b' o' => if b = b' ∧ ok = true then some (o == o') else none
  | .sl, .nilslice, .nilslice => some true
  | .sl, .nilslice, .slice .. => some false
  | .sl, .slice .., .nilslice => some false
  | .fn, .nilfn, .nilfn => some true
  | .fn, .nilfn, .fn .. => some false
  | .fn, .fn .., .nilfn => some false
  | .ifc c, .nilif, .nilif => if c then some true else none
  | .ifc _, .nilif, .iface _ _ => some false
  | .ifc _, .iface _ _, .nilif => some false
  | _, _, _ => none

def eqSK : SK → V → V → Option Bool
  | .b, .bool a, .bool b => some (a == b)
  | .i, .int k a, .int k' b => if k = k' then some (a == b) else none
  | .s, .str a, .str b => some (a == b)
  | _, _, _ => none

def eqF (xs ys : List V) : List (Nat × SK) → Option Bool
  | [] => some true
  | (off, k) :: fs =>
    match xs[off]?, ys[off]? with
    | some a, some b =>
      match eqSK k a b, eqF xs ys fs with
      | some r, some q => some (r && q)
      | _, _ => none
    | _, _ => none

def ngB (neg : Bool) (r : Bool) : V := .bool (if neg then !r else r)

def partM (agg : Bool) (size : Nat) (cs : List V) (off : Nat) : Option V :=
  if agg then (readCells cs off size).map V.agg else cs[off]?

def appM (e : TypeId) (size bytes : Nat) (s x : V) (H : Heap) : OpR :=
  match newCells size x H with
  | some (m, cs) =>
    if m = 0 then (match s with | .nilslice => .val .nilslice H | .slice .. => .val s H | _ => .fail)
    else if bytes = 0 ∨ size = 0 then .fail
    else match s with
    | .nilslice => if m * bytes ≤ maxBytes then .val (.slice H.nc 0 m m false) (H.push ⟨cs, e, .own, false⟩) else .fail
    | .slice b o n c ex =>
      if n + m ≤ c then
        (match H.cs b with
        | some ob => if ob.k = .own ∧ o + n * size + cs.length ≤ ob.l.length then .val (.slice b o (n + m) c ex) (H.put b (some { ob with l := splice ob.l (o + n * size) cs })) else .fail
        | none => .fail)
      else if ¬ (n + m) * bytes ≤ maxBytes then .fail
      else (match (H.cs b) with
        | none => .fail
        | some ob =>
          match readCells ob.l o (n * size) with
          | none => .fail
          | some old =>
            if ex then .val (.slice H.nc 0 (n + m) (n + m) false) (H.push ⟨old ++ cs, e, .own, false⟩)
            else if ob.e = e ∧ ob.k = .own then
              .val (.slice H.nc 0 (n + m) (n + m) false) ((H.put b none).push ⟨old ++ cs, e, ob.k, false⟩)
            else .fail)
    | _ => .fail
  | none => .fail

def cpyM (size : Nat) (d s : V) (H : Heap) : OpR :=
  match newCells size s H, d with
  | some (_, _), .nilslice => .val (.int .i64 0) H
  | some (m, cs), .slice b o n _ _ =>
    if min m n = 0 then .val (.int .i64 0) H else
    (match H.cs b with
    | some ob =>
      if ob.k = .own ∧ o + (min m n) * size ≤ ob.l.length then
        .val (.int .i64 (min m n : Nat)) (H.put b (some { ob with l := splice ob.l o (cs.take ((min m n) * size)) }))
      else .fail
    | none => .fail)
  | _, _ => .fail

def sslM (e : TypeId) (size : Nat) (x : V) (lo hi mx : Option V) (H : Heap) : OpR :=
  match x with
  | .nilslice => (match bounds 0 0 lo hi mx with | some _ => .val .nilslice H | none => .fail)
  | .slice b o n c ex =>
    (match bounds n c lo hi mx with
    | some (l, h, m) =>
      if ex || mx.isSome then .val (.slice b (o + l * size) (h - l) (m - l) true) H
      else (match H.cs b with
        | some ob => if ob.e = e ∧ ob.k ≠ .arg then .val (.slice b (o + l * size) (h - l) (m - l) false) H else .fail
        | none => .fail)
    | none => .fail)
  | _ => .fail

def mstep (P : Program) (ρ : Operand → V) : MOp → Heap → OpR
  | .mv x, H => .val (ρ x) H
  | .pick c a b, H => (match ρ c with | .bool true => .val (ρ a) H | .bool false => .val (ρ b) H | _ => .fail)
  | .alloc z e, H => .val (.ptr H.nc 0) (H.push ⟨z, e, .own, true⟩)
  | .box e x, H => (match cellsOf (ρ x) with | some cs => .val (.ptr H.nc 0) (H.push ⟨cs, e, .own, true⟩) | none => .fail)
  | .build z ps, H => .of ((fillM z (ps.map fun p => (p.1, p.2.1, ρ p.2.2))).map V.agg) H
  | .bslice e len z ps, H => (match fillM z (ps.map fun p => (p.1, p.2.1, ρ p.2.2)) with
    | some cells => .val (.slice H.nc 0 len len true) (H.push ⟨cells, e, .own, false⟩)
    | none => .fail)
  | .load agg size a, H => (match ρ a with | .ptr b o => .of (loadM H agg size b o) H | _ => .fail)
  | .store size a x, H => (match ρ a with | .ptr b o => (match storeM H size b o (ρ x) with | some H' => .val (.tuple []) H' | none => .fail) | _ => .fail)
  | .nilck x, H => (match ρ x with | .ptr b o => .val (.ptr b o) H | .fn (.func g) a c => .val (.fn (.func g) a c) H | .fn (.yield l) a c => .val (.fn (.yield l) a c) H | .iface t v => .val (.iface t v) H | _ => .fail)
  | .bin op x y, H => .of (binM op (ρ x) (ρ y)) H
  | .eqb neg x y, H => (match ρ x, ρ y with | .bool a, .bool b => .val (ngB neg (a == b)) H | _, _ => .fail)
  | .eqk neg k x y, H => .of ((eqK k (ρ x) (ρ y)).map (ngB neg)) H
  | .eqs neg fs x y, H => (match ρ x, ρ y with | .agg xs, .agg ys => .of ((eqF xs ys fs).map (ngB neg)) H | _, _ => .fail)
  | .un op x, H => .of (opUn op (ρ x)) H
  | .cint k x, H => (match ρ x with | .int _ n => .val (.int k (k.wrap n)) H | _ => .fail)
  | .cstr bs x, H => (match ρ x with
    | .int _ n => .val (.str (Utf8.encode n).data.toList) H
    | .str s => .val (.str s) H
    | .nilslice => if bs then .val (.str []) H else .fail
    | .slice b o n _ _ => if bs then (match (H.cs b).bind fun ob => readCells ob.l o n with
      | some cs => (match bytesOf? cs with | some s => .val (.str s) H | none => .fail)
      | none => .fail) else .fail
    | _ => .fail)
  | .cbytes e x, H => (match ρ x with | .str s => .val (.slice H.nc 0 s.length s.length false) (H.push ⟨u8s s, e, .own, false⟩) | _ => .fail)
  | .ifc t x, H => .val (.iface t (ρ x)) H
  | .fnc g first cap, H => .val (.fn (.func g) (first.map ρ) (cap.map ρ)) H
  | .mkslice e bytes z l c, H => (match ρ l, ρ c with
    | .int _ l, .int _ c =>
      if 0 ≤ l ∧ l ≤ c ∧ bytes * c ≤ 281474976710656 ∧ c ≤ 9223372036854775807 then
        .val (.slice H.nc 0 l.toNat c.toNat true) (H.push ⟨repl c.toNat z, e, .own, false⟩)
      else .fail
    | _, _ => .fail)
  | .sstr x lo hi, H => (match ρ x with
    | .str s => (match bounds s.length s.length (lo.map ρ) (hi.map ρ) none with
      | some (l, h, _) => .val (.str ((s.take h).drop l)) H
      | none => .fail)
    | _ => .fail)
  | .ssl e size x lo hi mx, H => sslM e size (ρ x) (lo.map ρ) (hi.map ρ) (mx.map ρ) H
  | .sarr n size x lo hi mx, H => (match ρ x with
    | .ptr b o => (match bounds n n (lo.map ρ) (hi.map ρ) (mx.map ρ) with
      | some (l, h, m) => .val (.slice b (o + l * size) (h - l) (m - l) true) H
      | none => .fail)
    | _ => .fail)
  | .faddr off x, H => (match ρ x with | .ptr b o => .val (.ptr b (o + off)) H | _ => .fail)
  | .fld agg size off x, H => (match ρ x with | .agg cs => .of (partM agg size cs off) H | _ => .fail)
  | .iaa n size x i, H => (match ρ x, ρ i with | .ptr b o, .int _ i => if 0 ≤ i ∧ i < (n : Int) then .val (.ptr b (o + i.toNat * size)) H else .fail | _, _ => .fail)
  | .ias size x i, H => (match ρ x, ρ i with | .slice b o n _ _, .int _ i => if 0 ≤ i ∧ i < (n : Int) then .val (.ptr b (o + i.toNat * size)) H else .fail | _, _ => .fail)
  | .ixa n size agg x i, H => (match ρ x, ρ i with | .agg cs, .int _ i => if 0 ≤ i ∧ i < (n : Int) then .of (partM agg size cs (i.toNat * size)) H else .fail | _, _ => .fail)
  | .ixs x i, H => (match ρ x, ρ i with | .str s, .int _ i => if 0 ≤ i then .of ((s[i.toNat]?).map fun c => V.int .u8 c.toNat) H else .fail | _, _ => .fail)
  | .rng x, H => (match ρ x with | .str s => .val (.it H.ni) (H.pushIt s) | _ => .fail)
  | .nxt x, H => nextOp (ρ x) H
  | .ext x i, H => .of (extractOp (ρ x) i) H
  | .lenstr x, H => (match ρ x with | .str s => .val (.int .i64 s.length) H | _ => .fail)
  | .lenarr n, H => .val (.int .i64 n) H
  | .lensl x, H => (match ρ x with | .nilslice => .val (.int .i64 0) H | .slice _ _ n _ _ => .val (.int .i64 n) H | _ => .fail)
  | .app e size bytes s x, H => appM e size bytes (ρ s) (ρ x) H
  | .cpy size d s, H => cpyM size (ρ d) (ρ s) H
  | .mn x y, H => .of (minOp [ρ x, ρ y]) H
  | .mx x y, H => .of (maxOp [ρ x, ρ y]) H
  | .call f args, H => .call (ρ f) (args.map ρ)
  | .inv recv name args, H => (match ρ recv with
    | .iface t v => (match methOp P t name with | some f => .call (.fn (.func f) [] []) (v :: args.map ρ) | none => .fail)
    | _ => .fail)
  | .recov, H => .recov
  | .dfr f args, H => .dfr (ρ f) (args.map ρ)
  | .gen o, H => stepOp P ρ ⟨none, o, 0, "", #[], none⟩ H

/-! ## Looking the types up -/
def skOf (P : Program) (t : TypeId) : Option SK :=
  match kdAt P t with
  | some .bool => some .b
  | some (.int _) => some .i
  | some .str => some .s
  | _ => none

def skFields (P : Program) : List Field → Option (List (Nat × SK))
  | [] => some []
  | f :: fs => match skOf P f.type, skFields P fs with
    | some k, some l => if f.name ≠ "_" then some ((f.offset, k) :: l) else none
    | _, _ => none

def resPl (pl : Nat → Option (Nat × Nat)) : List (Nat × Operand) → Option (List (Nat × Nat × Operand))
  | [] => some []
  | (i, x) :: r => match pl i, resPl pl r with
    | some (off, size), some l => some ((off, size, x) :: l)
    | _, _ => none

def compEq (P : Program) (neg : Bool) (op : BinOp) (t : TypeId) (x y : Operand) (o : Op) : MOp :=
  match kdAt P t with
  | some .bool => .eqb neg x y
  | some (.int _) => .bin op x y
  | some .str => .bin op x y
  | some (.ptr e) => .eqk neg (.ptr (decide (((tiOf P e).map TI.size).getD 0 ≠ 0))) x y
  | some (.slice _) => .eqk neg .sl x y
  | some .func => .eqk neg .fn x y
  | some (.iface _) => .eqk neg (.ifc (isConst x || isConst y)) x y
  | some (.struct _) => (match P.underlying t with
    | some (.struct fs) => if P.stoodInHeld t = false ∧ P.eqGuardType P.depth t = false then (match skFields P fs.toList with | some l => .eqs neg l x y | none => .gen o) else .gen o
    | _ => .gen o)
  | _ => .gen o

def compBuiltin (P : Program) (c : Call) (b : Builtin) (o : Op) : MOp :=
  match b, c.argTypes.toList, c.args.toList with
  | .len, t :: _, x :: _ => (match kdAt P t with | some .str => .lenstr x | some (.arr n _) => .lenarr n | some (.slice _) => .lensl x | _ => .gen o)
  | .min, _, [x, y] => .mn x y
  | .max, _, [x, y] => .mx x y
  | .append, [t, xt], [s, x] => (match tiOf P t, tiOf P xt with
    | some ti, some xi => (match ti.kd, xi.kd with
      | _, .int _ => .gen o
      | .slice e, _ => (match tiOf P e with
        | some ei => (match ei.zero with | some _ => .app e ei.size ei.bytes s x | none => .gen o)
        | none => .gen o)
      | _, _ => .gen o)
    | _, _ => .gen o)
  | .copy, t :: _, [d, s] => (match tiOf P t with
    | some ti => (match ti.kd with
      | .slice e => (match tiOf P e with | some ei => .cpy ei.size d s | none => .gen o)
      | _ => .gen o)
    | none => .gen o)
  | .recover, _, _ => .recov
  | _, _, _ => .gen o

def compile (P : Program) (o : Op) : MOp :=
  match o with
  | .move x => .mv x
  | .assign x => .mv x
  | .pick c a b => .pick c a b
  | .alloc t => (match (tiOf P t).bind (·.zero) with | some z => .alloc z t | none => .gen o)
  | .box t x => (match tiOf P t with | some _ => .box t x | none => .gen o)
  | .build t ps => (match tiOf P t with
    | some ti => (match ti.kd, ti.zero with
      | .struct fs, some z => (match placesOf P fs with
        | some pl => (match resPl (fun i => pl[i]?) ps.toList with | some l => .build z l | none => .gen o)
        | none => .gen o)
      | .arr _ e, some z => (match tiOf P e with
        | some ei => (match resPl (fun i => some (i * ei.size, ei.size)) ps.toList with | some l => .build z l | none => .gen o)
        | none => .gen o)
      | _, _ => .gen o)
    | none => .gen o)
  | .buildSlice t len ps => (match tiOf P t with
    | some ti => (match ti.kd with
      | .slice e => (match tiOf P e with
        | some ei => (match ei.zero with
          | some z => if len * ei.size ≤ 16777216 ∧ ei.size ≠ 0 then (match resPl (fun i => some (i * ei.size, ei.size)) ps.toList with | some l => .bslice e len (repl len z) l | none => .gen o) else .gen o
          | none => .gen o)
        | none => .gen o)
      | _ => .gen o)
    | none => .gen o)
  | .load t a => (match tiOf P t with | some ti => .load ti.kd.isAgg ti.size a | none => .gen o)
  | .store t a x => (match tiOf P t with | some ti => .store ti.size a x | none => .gen o)
  | .nilCheck x => .nilck x
  | .binOp .eql t x y _ => compEq P false .eql t x y o
  | .binOp .neq t x y _ => compEq P true .neq t x y o
  | .binOp op t x y _ => .bin op x y
  | .unOp op _ x => .un op x
  | .convert s d x => (match kdAt P s, kdAt P d with
    | some _, some (.int k) => .cint k x
    | some sk, some .str => .cstr (match sk with | .slice e => (match kdAt P e with | some (.int .u8) => true | _ => false) | _ => false) x
    | some .str, some (.slice e) => (match tiOf P e with
      | some ti => (match ti.kd with | .int .u8 => if ti.size = 1 then .cbytes e x else .gen o | _ => .gen o)
      | none => .gen o)
    | _, _ => .gen o)
  | .makeInterface t x => (match kdAt P t with | some (.iface _) => .gen o | some _ => .ifc t x | none => .gen o)
  | .makeFunc (.func g) first cap => .fnc g first.toList cap.toList
  | .makeSlice t l c => (match tiOf P t with
    | some ti => (match ti.kd with
      | .slice e => (match tiOf P e with
        | some ei => (match ei.zero with | some z => if ei.size ≠ 0 then .mkslice e ei.bytes z l c else .gen o | none => .gen o)
        | none => .gen o)
      | _ => .gen o)
    | none => .gen o)
  | .slice t x lo hi mx => (match tiOf P t with
    | some ti => (match ti.kd with
      | .str => (match mx with | none => .sstr x lo hi | some _ => .gen o)
      | .slice e => (match tiOf P e with | some ei => .ssl e ei.size x lo hi mx | none => .gen o)
      | .arr n e => (match tiOf P e with | some ei => .sarr n ei.size x lo hi mx | none => .gen o)
      | _ => .gen o)
    | none => .gen o)
  | .fieldAddr s x i => (match tiOf P s with
    | some ti => (match ti.kd with
      | .struct fs => (match fs[i]? with
        | some (ft, off) => (match tiOf P ft with | some fi => if fi.size = 0 then .gen o else .faddr off x | none => .gen o)
        | none => .gen o)
      | _ => .gen o)
    | none => .gen o)
  | .field t x i => (match tiOf P t with
    | some ti => (match ti.kd with
      | .struct fs => (match fs[i]? with
        | some (ft, off) => (match tiOf P ft with | some fi => .fld fi.kd.isAgg fi.size off x | none => .gen o)
        | none => .gen o)
      | _ => .gen o)
    | none => .gen o)
  | .indexAddr t x i => (match tiOf P t with
    | some ti => (match ti.kd with
      | .arr n e => (match tiOf P e with | some ei => .iaa n ei.size x i | none => .gen o)
      | .slice e => (match tiOf P e with | some ei => .ias ei.size x i | none => .gen o)
      | _ => .gen o)
    | none => .gen o)
  | .index t x i => (match tiOf P t with
    | some ti => (match ti.kd with
      | .arr n e => (match tiOf P e with | some ei => .ixa n ei.size ei.kd.isAgg x i | none => .gen o)
      | .str => .ixs x i
      | _ => .gen o)
    | none => .gen o)
  | .range t x => (match tiOf P t with
    | some ti => (match ti.kd with | .str => .rng x | _ => .gen o)
    | none => .gen o)
  | .next x true => .nxt x
  | .extract x i => .ext x i
  | .call c => (match c.callee with
    | .builtin b => compBuiltin P c b o
    | .invoke recv name => .inv recv name c.args.toList
    | .value f => .call f c.args.toList)
  | .defer c => (match c.callee with | .value f => .dfr f c.args.toList | _ => .gen o)
  | o => .gen o

section
variable {P : Program}

theorem gen_eq (ρ : Operand → V) (o : Oper) (H : Heap) : stepOp P ρ o H = mstep P ρ (.gen o.op) H := rfl

theorem opBin_nat {op : BinOp} {t : TypeId} {x y : Operand} {a b : V} (h1 : op ≠ .eql) (h2 : op ≠ .neq) : opBin P op t x y a b = binM op a b := by
  cases op <;> first | (exact absurd rfl h1) | (exact absurd rfl h2) | (cases a <;> cases b <;> rfl)

theorem fill_res {pl : Nat → Option (Nat × Nat)} {ρ : Operand → V} : ∀ {ps : List (Nat × Operand)} {l : List (Nat × Nat × Operand)} (z : List V), resPl pl ps = some l → fillL pl z (ps.map fun p => (p.1, ρ p.2)) = fillM z (l.map fun p => (p.1, p.2.1, ρ p.2.2))
  | [], l, z, h => by simp [resPl] at h; subst h; rfl
  | (i, x) :: r, l, z, h => by
    simp only [resPl] at h
    split at h
    · rename_i off size l' h1 h2
      cases h
      simp only [List.map_cons, fillL, fillM, h1]
      cases hc : cellsOf (ρ x) with
      | none => rfl
      | some cs =>
        simp only
        split
        · exact fill_res _ h2
        · rfl
    · cases h

theorem eqF_fields {xs ys : List V} : ∀ {fs : List Field} {l : List (Nat × SK)}, skFields P fs = some l → eqFields P xs ys fs = eqF xs ys l
  | [], l, h => by simp [skFields] at h; subst h; rfl
  | f :: fs, l, h => by
    simp only [skFields] at h
    split at h
    · rename_i k l' h1 h2
      split at h
      · rename_i hn
        cases h
        have ih := eqF_fields (xs := xs) (ys := ys) h2
        simp only [eqFields, eqF]
        unfold skOf kdAt at h1
        cases ht : tiOf P f.type with
        | none => rw [ht] at h1; simp at h1
        | some ti =>
          rw [ht] at h1
          simp only [Option.map_some] at h1
          have hk : ∀ a b, eqScalar ti.kd a b = eqSK k a b := by
            intro a b
            cases hkd : ti.kd <;> rw [hkd] at h1 <;> simp at h1 <;> subst h1 <;> cases a <;> cases b <;> rfl
          cases xs[f.offset]? with
          | none => rfl
          | some a =>
            cases ys[f.offset]? with
            | none => rfl
            | some b =>
              simp only [hk, ih, hn, ne_eq, not_false_eq_true, if_true]
              cases eqSK k a b <;> cases eqF xs ys l' <;> simp_all
      · cases h
    · cases h

theorem of_ne {x : Option V} {H : Heap} (h : OpR.of x H ≠ .fail) : ∃ v, x = some v := by
  cases x with
  | none => exact absurd rfl h
  | some v => exact ⟨v, rfl⟩

theorem kdAt_of {t : TypeId} {ti : TI} (h : tiOf P t = some ti) : kdAt P t = some ti.kd := by unfold kdAt; rw [h]; rfl

theorem binM_inv {op : BinOp} {a b v : V} (h : binM op a b = some v) : (∃ k n k' m, a = .int k n ∧ b = .int k' m) ∨ (∃ l l', a = .str l ∧ b = .str l') := by
  unfold binM at h
  split at h
  · exact .inl ⟨_, _, _, _, rfl, rfl⟩
  · exact .inl ⟨_, _, _, _, rfl, rfl⟩
  · exact .inl ⟨_, _, _, _, rfl, rfl⟩
  · exact .inr ⟨_, _, rfl, rfl⟩
  · cases h

theorem opBin_ptr {t : TypeId} {x y : Operand} {ti : TI} {e : TypeId} (hti : tiOf P t = some ti) (hkk : ti.kd = .ptr e) (neg : Bool) {a b : V} {r : Bool} (he : eqK (.ptr (decide (((tiOf P e).map TI.size).getD 0 ≠ 0))) a b = some r) :
    opBin P (if neg then .neq else .eql) t x y a b = some (ngB neg r) := by
  cases a <;> cases b <;> first | (simp [eqK] at he; done) | skip
  all_goals (simp only [eqK] at he)
  all_goals (cases neg <;> simp only [opBin, eqV, hti, hkk, kdAt, ngB, if_true, if_false, Bool.false_eq_true, Option.map_some])
  all_goals first
    | (simp only [Option.some.injEq] at he; subst he; rfl)
    | (split at he <;> simp_all)
    | (simp_all; done)

theorem opBin_sl {t : TypeId} {x y : Operand} {ti : TI} {e : TypeId} (hti : tiOf P t = some ti) (hkk : ti.kd = .slice e) (neg : Bool) {a b : V} {r : Bool} (he : eqK (.sl) a b = some r) :
    opBin P (if neg then .neq else .eql) t x y a b = some (ngB neg r) := by
  cases a <;> cases b <;> first | (simp [eqK] at he; done) | skip
  all_goals (simp only [eqK] at he)
  all_goals (cases neg <;> simp only [opBin, eqV, hti, hkk, kdAt, ngB, if_true, if_false, Bool.false_eq_true, Option.map_some])
  all_goals first
    | (simp only [Option.some.injEq] at he; subst he; rfl)
    | (split at he <;> simp_all)
    | (simp_all; done)

theorem opBin_fn {t : TypeId} {x y : Operand} {ti : TI} (hti : tiOf P t = some ti) (hkk : ti.kd = .func) (neg : Bool) {a b : V} {r : Bool} (he : eqK (.fn) a b = some r) :
    opBin P (if neg then .neq else .eql) t x y a b = some (ngB neg r) := by
  cases a <;> cases b <;> first | (simp [eqK] at he; done) | skip
  all_goals (simp only [eqK] at he)
  all_goals (cases neg <;> simp only [opBin, eqV, hti, hkk, kdAt, ngB, if_true, if_false, Bool.false_eq_true, Option.map_some])
  all_goals first
    | (simp only [Option.some.injEq] at he; subst he; rfl)
    | (split at he <;> simp_all)
    | (simp_all; done)

theorem opBin_ifc {t : TypeId} {x y : Operand} {ti : TI} {m : Nat} (hti : tiOf P t = some ti) (hkk : ti.kd = .iface m) (neg : Bool) {a b : V} {r : Bool} (he : eqK (.ifc (isConst x || isConst y)) a b = some r) :
    opBin P (if neg then .neq else .eql) t x y a b = some (ngB neg r) := by
  cases a <;> cases b <;> first | (simp [eqK] at he; done) | skip
  all_goals (simp only [eqK] at he)
  all_goals (cases neg <;> simp only [opBin, eqV, hti, hkk, kdAt, ngB, if_true, if_false, Bool.false_eq_true, Option.map_some])
  all_goals first
    | (simp only [Option.some.injEq] at he; subst he; rfl)
    | (split at he <;> simp_all)
    | (simp_all; done)

theorem comp_eq_sound {ρ : Operand → V} {t u : TypeId} {x y : Operand} {o : Oper} {H : Heap} (neg : Bool) (ho : o.op = .binOp (if neg then .neq else .eql) t x y u)
    (hne : mstep P ρ (compEq P neg (if neg then .neq else .eql) t x y o.op) H ≠ .fail) :
    stepOp P ρ o H = mstep P ρ (compEq P neg (if neg then .neq else .eql) t x y o.op) H := by
  have hs : stepOp P ρ o H = .of (opBin P (if neg then .neq else .eql) t x y (ρ x) (ρ y)) H := by unfold stepOp; rw [ho]
  have hgen : stepOp P ρ o H = mstep P ρ (.gen o.op) H := rfl
  have hbin : mstep P ρ (.bin (if neg then .neq else .eql) x y) H ≠ .fail → stepOp P ρ o H = mstep P ρ (.bin (if neg then .neq else .eql) x y) H := by
    intro h
    obtain ⟨v, hv⟩ := of_ne h
    rw [hs]
    simp only [mstep]
    congr 1
    rcases binM_inv hv with ⟨k, n, k', m, h1, h2⟩ | ⟨l, l', h1, h2⟩
    · rw [h1, h2]; cases neg <;> rfl
    · rw [h1, h2]; cases neg <;> rfl
  have hk : ∀ k : EK, (∀ a b r, eqK k a b = some r → opBin P (if neg then .neq else .eql) t x y a b = some (ngB neg r)) → mstep P ρ (.eqk neg k x y) H ≠ .fail → stepOp P ρ o H = mstep P ρ (.eqk neg k x y) H := by
    intro k hr h
    obtain ⟨v, hv⟩ := of_ne h
    rw [hs]
    simp only [mstep, hv]
    congr 1
    cases he : eqK k (ρ x) (ρ y) with
    | none => rw [he] at hv; cases hv
    | some r => rw [hr _ _ r he]; rw [he] at hv; exact hv
  unfold compEq at hne ⊢
  cases hti : tiOf P t with
  | none =>
    have : kdAt P t = none := by unfold kdAt; rw [hti]; rfl
    rw [this]; exact hgen
  | some ti =>
    have hkd := kdAt_of hti
    rw [hkd] at hne ⊢
    cases hkk : ti.kd with
    | bool =>
      rw [hkk] at hne
      simp only [mstep] at hne ⊢
      split at hne
      · rename_i a b ha hb
        rw [hs, ha, hb]
        have : eqV P t (.bool a) (.bool b) = some (a == b) := by unfold eqV; rw [hti]; simp only [hkk]; rfl
        cases neg
        · show OpR.of (opBin P .eql t x y _ _) H = _; simp only [opBin, this]; rfl
        · show OpR.of (opBin P .neq t x y _ _) H = _; simp only [opBin, this]; rfl
      · exact absurd rfl hne
    | int k => rw [hkk] at hne; exact hbin hne
    | str => rw [hkk] at hne; exact hbin hne
    | ptr e =>
      rw [hkk] at hne
      exact hk _ (fun a b r he => opBin_ptr hti hkk neg he) hne
    | slice e =>
      rw [hkk] at hne
      exact hk _ (fun a b r he => opBin_sl hti hkk neg he) hne
    | func =>
      rw [hkk] at hne
      exact hk _ (fun a b r he => opBin_fn hti hkk neg he) hne
    | iface m =>
      rw [hkk] at hne
      exact hk _ (fun a b r he => opBin_ifc hti hkk neg he) hne
    | struct fs0 =>
      rw [hkk] at hne
      simp only at hne ⊢
      split at hne
      · rename_i fs hfs
        try rw [hfs]
        try simp only
        split at hne
        · rename_i hg
          try rw [if_pos hg]
          split at hne
          · rename_i l hl
            try rw [hl]
            simp only [mstep] at hne ⊢
            split at hne
            · rename_i xs ys hx hy
              rw [hs, hx, hy]
              have : eqV P t (.agg xs) (.agg ys) = eqF xs ys l := by
                unfold eqV; rw [hti]; simp only [hkk, hfs]
                rw [if_pos hg, eqF_fields hl]
              cases neg
              · show OpR.of (opBin P .eql t x y _ _) H = _; simp only [opBin, this]; cases eqF xs ys l <;> rfl
              · show OpR.of (opBin P .neq t x y _ _) H = _; simp only [opBin, this]; cases eqF xs ys l <;> rfl
            · exact absurd rfl hne
          · rename_i hl
            first | exact hgen | (rw [hl]; exact hgen)
        · rename_i hg
          first | exact hgen | (rw [if_neg hg]; exact hgen)
      · exact hgen
    | arr n e => exact hgen
    | uptr => exact hgen
    | other => exact hgen

/-- The short form says the same, where it says something. -/
theorem comp_sound {ρ : Operand → V} {o : Oper} {H : Heap} (hne : mstep P ρ (compile P o.op) H ≠ .fail) : stepOp P ρ o H = mstep P ρ (compile P o.op) H := by
  have hgen : stepOp P ρ o H = mstep P ρ (.gen o.op) H := rfl
  obtain ⟨dst, op, ty, pos, after, guard⟩ := o
  simp only at hgen hne ⊢
  cases op <;> (try exact hgen) <;> simp only [compile] at hne ⊢
  case alloc t =>
    cases hz : (tiOf P t).bind (·.zero) with
    | none => exact hgen
    | some z => simp only [stepOp, hz, mstep]
  case box t x =>
    cases hz : tiOf P t with
    | none => exact hgen
    | some z => simp only [stepOp, hz, mstep, Option.map_some]; cases cellsOf (ρ x) <;> rfl
  case build t ps =>
    cases hti : tiOf P t with
    | none => exact hgen
    | some ti =>
      simp only
      have hs : stepOp P ρ ⟨dst, .build t ps, ty, pos, after, guard⟩ H = .of (buildOp P t (ps.toList.map fun p => (p.1, ρ p.2))) H := rfl
      cases hk : ti.kd <;> (try exact hgen) <;> cases hz : ti.zero <;> (try exact hgen) <;> simp only
      case struct.some fs z =>
        cases hp : placesOf P fs with
        | none => exact hgen
        | some pl =>
          simp only
          cases hr : resPl (fun i => pl[i]?) ps.toList with
          | none => exact hgen
          | some l =>
            rw [hs]
            simp only [buildOp, hti, hk, hz, hp, mstep]
            rw [fill_res z hr]
      case arr.some n e z =>
        cases he : tiOf P e with
        | none => exact hgen
        | some ei =>
          simp only
          cases hr : resPl (fun i => some (i * ei.size, ei.size)) ps.toList with
          | none => exact hgen
          | some l =>
            rw [hs]
            simp only [buildOp, hti, hk, hz, he, mstep]
            rw [fill_res z hr]
  case buildSlice t len ps =>
    cases hti : tiOf P t with
    | none => exact hgen
    | some ti =>
      simp only
      cases hk : ti.kd <;> (try exact hgen) <;> simp only
      case slice e =>
      cases he : tiOf P e with
      | none => exact hgen
      | some ei =>
        simp only
        cases hz : ei.zero with
        | none => exact hgen
        | some z =>
          simp only
          by_cases hc : len * ei.size ≤ 16777216 ∧ ei.size ≠ 0
          · rw [if_pos hc]
            cases hr : resPl (fun i => some (i * ei.size, ei.size)) ps.toList with
            | none => exact hgen
            | some l =>
              simp only [stepOp, buildSliceOp, hti, hk, he, hz, mstep]
              rw [if_pos hc, fill_res _ hr]
              cases fillM (repl len z) (l.map fun p => (p.1, p.2.1, ρ p.2.2)) <;> rfl
          · rw [if_neg hc]; exact hgen
  case load t a =>
    cases hti : tiOf P t with
    | none => exact hgen
    | some ti => simp only [stepOp, hti, mstep]; cases ρ a <;> rfl
  case store t a x =>
    cases hti : tiOf P t with
    | none => exact hgen
    | some ti => simp only [stepOp, hti, mstep]; cases ρ a <;> rfl
  case binOp op t x y u =>
    cases op
    case eql => exact comp_eq_sound (o := ⟨dst, .binOp .eql t x y u, ty, pos, after, guard⟩) false rfl hne
    case neq => exact comp_eq_sound (o := ⟨dst, .binOp .neq t x y u, ty, pos, after, guard⟩) true rfl hne
    all_goals (simp only [stepOp, mstep]; rw [opBin_nat (by simp) (by simp)])
  case convert sT dT x =>
    have hs : stepOp P ρ ⟨dst, .convert sT dT x, ty, pos, after, guard⟩ H = convOp P sT dT (ρ x) H := rfl
    cases h1 : kdAt P sT with
    | none => exact hgen
    | some sk =>
      cases h2 : kdAt P dT with
      | none => rw [h1, h2] at hne; cases sk <;> exact hgen
      | some dk =>
        rw [h1, h2] at hne
        cases dk with
        | int k =>
          rw [hs]
          simp only [convOp, h1, h2, mstep]
          cases ρ x <;> first | rfl | (cases sk <;> rfl)
        | str =>
          rw [hs]
          simp only [convOp, h1, h2, mstep]
          cases hx : ρ x <;> simp only [] <;> (try (cases sk <;> rfl))
          case nilslice => cases sk <;> (try rfl); simp only []; (repeat' split) <;> simp_all
          case slice b o n c ex => cases sk <;> (try rfl); simp only []; (repeat' split) <;> simp_all
        | slice e =>
          cases sk <;> (try exact hgen)
          simp only at hne ⊢
          cases he : tiOf P e with
          | none => exact hgen
          | some ei =>
            rw [he] at hne
            simp only at hne ⊢
            cases hk : ei.kd <;> (try exact hgen)
            rename_i k
            cases k <;> (try exact hgen)
            rw [hk] at hne
            simp only at hne ⊢
            by_cases hc : ei.size = 1
            · rw [if_pos hc] at hne ⊢
              rw [hs]
              simp only [mstep] at hne ⊢
              cases hx : ρ x <;> rw [hx] at hne <;> (try exact absurd rfl hne)
              simp only [convOp, h1, h2, he, hk]
              rw [if_pos hc]
            · rw [if_neg hc]; exact hgen
        | _ => cases sk <;> exact hgen
  case makeInterface t x =>
    cases hk : kdAt P t with
    | none => exact hgen
    | some k => cases k <;> first | exact hgen | (simp only [stepOp, hk, mstep])
  case makeFunc f first cap => cases f <;> first | exact hgen | rfl
  case makeSlice t l c =>
    cases hti : tiOf P t with
    | none => exact hgen
    | some ti =>
      simp only
      cases hk : ti.kd <;> (try exact hgen) <;> simp only
      case slice e =>
      cases he : tiOf P e with
      | none => exact hgen
      | some ei =>
        simp only
        cases hz : ei.zero with
        | none => exact hgen
        | some z =>
          simp only
          by_cases hc : ei.size ≠ 0
          · rw [if_pos hc]
            simp only [stepOp, makeSliceOp, hti, hk, he, hz, mstep]
            cases hl : ρ l <;> (try rfl)
            cases hcc : ρ c <;> (try rfl)
            simp only [hc, ne_eq, not_false_eq_true, and_true]
            split <;> split <;> simp_all
          · rw [if_neg hc]; exact hgen
  case slice t x lo hi mx =>
    cases hti : tiOf P t with
    | none => exact hgen
    | some ti =>
      simp only
      cases hk : ti.kd <;> (try exact hgen) <;> simp only
      case str =>
        cases mx with
        | some m => exact hgen
        | none =>
          simp only [stepOp, sliceOp, hti, hk, mstep]
          cases ρ x <;> rfl
      case slice e =>
        cases he : tiOf P e with
        | none => exact hgen
        | some ei =>
          simp only [stepOp, sliceOp, hti, hk, mstep]
          cases hx : ρ x <;> simp only [he, sslM] <;> (try rfl)
          all_goals (generalize bounds _ _ _ _ _ = q; cases q <;> rfl)
      case arr n e =>
        cases he : tiOf P e with
        | none => exact hgen
        | some ei =>
          simp only [stepOp, sliceOp, hti, hk, mstep]
          cases hx : ρ x <;> simp only [he] <;> (try rfl)
          cases bounds n n (lo.map ρ) (hi.map ρ) (mx.map ρ) <;> rfl
  case fieldAddr sT x i =>
    cases hti : tiOf P sT with
    | none => exact hgen
    | some ti =>
      simp only
      cases hk : ti.kd <;> (try exact hgen) <;> simp only
      case struct fs =>
      cases hf : fs[i]? with
      | none => exact hgen
      | some q =>
        obtain ⟨ft, off⟩ := q
        simp only
        cases he : tiOf P ft with
        | none => exact hgen
        | some fi =>
          simp only
          by_cases hc : fi.size = 0
          · rw [if_pos hc]; exact hgen
          · rw [if_neg hc]
            simp only [stepOp, fieldAddrOp, hti, mstep]
            cases hx : ρ x <;> simp only [hk, hf, he] <;> (try rfl)
            rw [if_neg hc]; rfl
  case field t x i =>
    cases hti : tiOf P t with
    | none => exact hgen
    | some ti =>
      simp only
      cases hk : ti.kd <;> (try exact hgen) <;> simp only
      case struct fs =>
      cases hf : fs[i]? with
      | none => exact hgen
      | some q =>
        obtain ⟨ft, off⟩ := q
        simp only
        cases he : tiOf P ft with
        | none => exact hgen
        | some fi =>
          simp only [stepOp, fieldOp, hti, mstep]
          cases hx : ρ x <;> simp only [hk, hf, he] <;> rfl
  case indexAddr t x i =>
    cases hti : tiOf P t with
    | none => exact hgen
    | some ti =>
      simp only
      cases hk : ti.kd <;> (try exact hgen) <;> simp only
      case slice e =>
        cases he : tiOf P e with
        | none => exact hgen
        | some ei =>
          simp only [stepOp, indexAddrOp, hti, mstep]
          cases hi : ρ i <;> cases hx : ρ x <;> simp only [hk, he] <;> (try rfl)
          split <;> rfl
      case arr n e =>
        cases he : tiOf P e with
        | none => exact hgen
        | some ei =>
          simp only [stepOp, indexAddrOp, hti, mstep]
          cases hi : ρ i <;> cases hx : ρ x <;> simp only [hk, he] <;> (try rfl)
          split <;> rfl
  case index t x i =>
    cases hti : tiOf P t with
    | none => exact hgen
    | some ti =>
      simp only
      cases hk : ti.kd <;> (try exact hgen) <;> simp only
      case str =>
        simp only [stepOp, indexOp, hti, mstep]
        cases hi : ρ i <;> cases hx : ρ x <;> simp only [hk] <;> (try rfl)
        split <;> rfl
      case arr n e =>
        cases he : tiOf P e with
        | none => exact hgen
        | some ei =>
          simp only [stepOp, indexOp, hti, mstep]
          cases hi : ρ i <;> cases hx : ρ x <;> simp only [hk, he] <;> (try rfl)
          split <;> rfl
  case range t x =>
    cases hti : tiOf P t with
    | none => exact hgen
    | some ti =>
      simp only
      cases hk : ti.kd <;> (try exact hgen)
      simp only [stepOp, rangeOp, hti, mstep]
      cases hx : ρ x <;> simp only [hk]
  case next x b => cases b <;> first | exact hgen | rfl
  case call c =>
    obtain ⟨callee, args, ts⟩ := c
    cases callee with
    | value f => rfl
    | invoke recv name => rfl
    | builtin b =>
      simp only at hne ⊢
      have hs : stepOp P ρ ⟨dst, .call ⟨.builtin b, args, ts⟩, ty, pos, after, guard⟩ H = builtinOp P b ts.toList (args.toList.map ρ) H := rfl
      unfold compBuiltin at hne ⊢
      simp only at hne ⊢
      cases b <;> (try exact hgen)
      case len =>
        cases h1 : ts.toList with
        | nil => exact hgen
        | cons t tr =>
          cases h2 : args.toList with
          | nil => exact hgen
          | cons x xr =>
            simp only
            cases hti : tiOf P t with
            | none =>
              have : kdAt P t = none := by unfold kdAt; rw [hti]; rfl
              rw [this]; exact hgen
            | some ti =>
              rw [kdAt_of hti]
              cases hk : ti.kd <;> (try exact hgen)
              all_goals
                rw [hs, h1, h2]
                simp only [List.map_cons, builtinOp, lenOp, hti, hk, mstep]
                (try rfl)
              all_goals (cases hx : ρ x <;> rfl)
      case min => rcases hh : args.toList with _ | ⟨x, _ | ⟨y, _ | ⟨z, r⟩⟩⟩ <;> first | exact hgen | (rw [hs, hh]; rfl)
      case max => rcases hh : args.toList with _ | ⟨x, _ | ⟨y, _ | ⟨z, r⟩⟩⟩ <;> first | exact hgen | (rw [hs, hh]; rfl)
      case append =>
        rcases h1 : ts.toList with _ | ⟨t, _ | ⟨xt, _ | ⟨z, r⟩⟩⟩ <;> (try exact hgen)
        rcases h2 : args.toList with _ | ⟨sx, _ | ⟨x, _ | ⟨z, r⟩⟩⟩ <;> (try exact hgen)
        simp only
        cases hti : tiOf P t with
        | none => exact hgen
        | some ti =>
          cases hxi : tiOf P xt with
          | none => exact hgen
          | some xi =>
            simp only
            have key : ∀ e, ti.kd = .slice e → (∀ k, xi.kd ≠ .int k) → ∀ ei z, tiOf P e = some ei → ei.zero = some z → stepOp P ρ ⟨dst, .call ⟨.builtin .append, args, ts⟩, ty, pos, after, guard⟩ H = mstep P ρ (.app e ei.size ei.bytes sx x) H := by
              intro e hk hx ei z he hz
              rw [hs, h1, h2]
              simp only [List.map_cons, List.map_nil, builtinOp, appendOp, hti, hxi, hk, mstep, appM]
              cases hxk : xi.kd <;> first | (exact absurd hxk (hx _)) | skip
              all_goals
                simp only [he, hz]
                cases newCells ei.size (ρ x) H with
                | none => rfl
                | some q => rfl
            cases hk : ti.kd <;> (try (cases xi.kd <;> exact hgen))
            rename_i e
            cases he : tiOf P e with
            | none => cases xi.kd <;> (try exact hgen) <;> (simp only [he]; exact hgen)
            | some ei =>
              cases hz : ei.zero with
              | none => cases xi.kd <;> (try exact hgen) <;> (simp only [he, hz]; exact hgen)
              | some z =>
                cases hxk : xi.kd with
                | int k => exact hgen
                | _ => simp only [he, hz]; exact key _ hk (fun k hh => by rw [hxk] at hh; cases hh) _ _ he hz
      case copy =>
        rcases h1 : ts.toList with _ | ⟨t, tr⟩ <;> (try exact hgen)
        rcases h2 : args.toList with _ | ⟨d, _ | ⟨x, _ | ⟨z, r⟩⟩⟩ <;> (try exact hgen)
        simp only
        cases hti : tiOf P t with
        | none => exact hgen
        | some ti =>
          simp only
          cases hk : ti.kd <;> (try exact hgen)
          rename_i e
          simp only
          cases he : tiOf P e with
          | none => exact hgen
          | some ei =>
            rw [hs, h1, h2]
            simp only [List.map_cons, List.map_nil, builtinOp, copyOp, hti, hk, he, mstep, cpyM]
            cases newCells ei.size (ρ x) H with
            | none => rfl
            | some q => rfl
  case defer c =>
    obtain ⟨callee, args, ts⟩ := c
    cases callee <;> first | exact hgen | rfl

end
end Go.Cm
