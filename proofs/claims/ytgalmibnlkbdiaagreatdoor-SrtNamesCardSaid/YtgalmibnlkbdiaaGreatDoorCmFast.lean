/- Steps, laid out so that the kernel has little to copy. -/
import Derived.Test.YtgalmibnlkbdiaaGreatDoorCmEx
set_option linter.unusedVariables false
namespace Go.Cm
open Go Go.RowKit

def f_mv (ρ : Operand → V) (H : Heap) (x : Operand) : OpR :=
  .val (ρ x) H
def f_pick (ρ : Operand → V) (H : Heap) (c : Operand) (a : Operand) (b : Operand) : OpR :=
  (match ρ c with | .bool true => .val (ρ a) H | .bool false => .val (ρ b) H | _ => .fail)
def f_alloc (ρ : Operand → V) (H : Heap) (z : List V) (e : TypeId) : OpR :=
  .val (.ptr H.nc 0) (H.push ⟨z, e, .own, true⟩)
def f_box (ρ : Operand → V) (H : Heap) (e : TypeId) (x : Operand) : OpR :=
  (match cellsOf (ρ x) with | some cs => .val (.ptr H.nc 0) (H.push ⟨cs, e, .own, true⟩) | none => .fail)
def f_build (ρ : Operand → V) (H : Heap) (z : List V) (ps : List (Nat × Nat × Operand)) : OpR :=
  .of ((fillM z (ps.map fun p => (p.1, p.2.1, ρ p.2.2))).map V.agg) H
def f_bslice (ρ : Operand → V) (H : Heap) (e : TypeId) (len : Nat) (z : List V) (ps : List (Nat × Nat × Operand)) : OpR :=
  (match fillM z (ps.map fun p => (p.1, p.2.1, ρ p.2.2)) with
    | some cells => .val (.slice H.nc 0 len len true) (H.push ⟨cells, e, .own, false⟩)
    | none => .fail)
def f_load (ρ : Operand → V) (H : Heap) (agg : Bool) (size : Nat) (a : Operand) : OpR :=
  (match ρ a with | .ptr b o => .of (loadM H agg size b o) H | _ => .fail)
def f_store (ρ : Operand → V) (H : Heap) (size : Nat) (a : Operand) (x : Operand) : OpR :=
  (match ρ a with | .ptr b o => (match storeM H size b o (ρ x) with | some H' => .val (.tuple []) H' | none => .fail) | _ => .fail)
def f_nilck (ρ : Operand → V) (H : Heap) (x : Operand) : OpR :=
  (match ρ x with | .ptr b o => .val (.ptr b o) H | .fn (.func g) a c => .val (.fn (.func g) a c) H | .fn (.yield l) a c => .val (.fn (.yield l) a c) H | .iface t v => .val (.iface t v) H | _ => .fail)
def f_bin (ρ : Operand → V) (H : Heap) (op : BinOp) (x : Operand) (y : Operand) : OpR :=
  .of (binM op (ρ x) (ρ y)) H
def f_eqb (ρ : Operand → V) (H : Heap) (neg : Bool) (x : Operand) (y : Operand) : OpR :=
  (match ρ x, ρ y with | .bool a, .bool b => .val (ngB neg (a == b)) H | _, _ => .fail)
def f_eqk (ρ : Operand → V) (H : Heap) (neg : Bool) (k : EK) (x : Operand) (y : Operand) : OpR :=
  .of ((eqK k (ρ x) (ρ y)).map (ngB neg)) H
def f_eqs (ρ : Operand → V) (H : Heap) (neg : Bool) (fs : List (Nat × SK)) (x : Operand) (y : Operand) : OpR :=
  (match ρ x, ρ y with | .agg xs, .agg ys => .of ((eqF xs ys fs).map (ngB neg)) H | _, _ => .fail)
def f_un (ρ : Operand → V) (H : Heap) (op : UnOp) (x : Operand) : OpR :=
  .of (opUn op (ρ x)) H
def f_cint (ρ : Operand → V) (H : Heap) (k : IntKind) (x : Operand) : OpR :=
  (match ρ x with | .int _ n => .val (.int k (k.wrap n)) H | _ => .fail)
def f_cstr (ρ : Operand → V) (H : Heap) (bs : Bool) (x : Operand) : OpR :=
  (match ρ x with
    | .int _ n => .val (.str (Utf8.encode n).data.toList) H
    | .str s => .val (.str s) H
    | .nilslice => if bs then .val (.str []) H else .fail
    | .slice b o n _ _ => if bs then (match (H.cs b).bind fun ob => readCells ob.l o n with
      | some cs => (match bytesOf? cs with | some s => .val (.str s) H | none => .fail)
      | none => .fail) else .fail
    | _ => .fail)
def f_cbytes (ρ : Operand → V) (H : Heap) (e : TypeId) (x : Operand) : OpR :=
  (match ρ x with | .str s => .val (.slice H.nc 0 s.length s.length false) (H.push ⟨u8s s, e, .own, false⟩) | _ => .fail)
def f_ifc (ρ : Operand → V) (H : Heap) (t : TypeId) (x : Operand) : OpR :=
  .val (.iface t (ρ x)) H
def f_fnc (ρ : Operand → V) (H : Heap) (g : FuncId) (first : List Operand) (cap : List Operand) : OpR :=
  .val (.fn (.func g) (first.map ρ) (cap.map ρ)) H
def f_mkslice (ρ : Operand → V) (H : Heap) (e : TypeId) (bytes : Nat) (z : List V) (l : Operand) (c : Operand) : OpR :=
  (match ρ l, ρ c with
    | .int _ l, .int _ c =>
      if 0 ≤ l ∧ l ≤ c ∧ bytes * c ≤ 281474976710656 ∧ c ≤ 9223372036854775807 then
        .val (.slice H.nc 0 l.toNat c.toNat true) (H.push ⟨repl c.toNat z, e, .own, false⟩)
      else .fail
    | _, _ => .fail)
def f_sstr (ρ : Operand → V) (H : Heap) (x : Operand) (lo : Option Operand) (hi : Option Operand) : OpR :=
  (match ρ x with
    | .str s => (match bounds s.length s.length (lo.map ρ) (hi.map ρ) none with
      | some (l, h, _) => .val (.str ((s.take h).drop l)) H
      | none => .fail)
    | _ => .fail)
def f_ssl (ρ : Operand → V) (H : Heap) (e : TypeId) (size : Nat) (x : Operand) (lo : Option Operand) (hi : Option Operand) (mx : Option Operand) : OpR :=
  sslM e size (ρ x) (lo.map ρ) (hi.map ρ) (mx.map ρ) H
def f_sarr (ρ : Operand → V) (H : Heap) (n : Nat) (size : Nat) (x : Operand) (lo : Option Operand) (hi : Option Operand) (mx : Option Operand) : OpR :=
  (match ρ x with
    | .ptr b o => (match bounds n n (lo.map ρ) (hi.map ρ) (mx.map ρ) with
      | some (l, h, m) => .val (.slice b (o + l * size) (h - l) (m - l) true) H
      | none => .fail)
    | _ => .fail)
def f_faddr (ρ : Operand → V) (H : Heap) (off : Nat) (x : Operand) : OpR :=
  (match ρ x with | .ptr b o => .val (.ptr b (o + off)) H | _ => .fail)
def f_fld (ρ : Operand → V) (H : Heap) (agg : Bool) (size : Nat) (off : Nat) (x : Operand) : OpR :=
  (match ρ x with | .agg cs => .of (partM agg size cs off) H | _ => .fail)
def f_iaa (ρ : Operand → V) (H : Heap) (n : Nat) (size : Nat) (x : Operand) (i : Operand) : OpR :=
  (match ρ x, ρ i with | .ptr b o, .int _ i => if 0 ≤ i ∧ i < (n : Int) then .val (.ptr b (o + i.toNat * size)) H else .fail | _, _ => .fail)
def f_ias (ρ : Operand → V) (H : Heap) (size : Nat) (x : Operand) (i : Operand) : OpR :=
  (match ρ x, ρ i with | .slice b o n _ _, .int _ i => if 0 ≤ i ∧ i < (n : Int) then .val (.ptr b (o + i.toNat * size)) H else .fail | _, _ => .fail)
def f_ixa (ρ : Operand → V) (H : Heap) (n : Nat) (size : Nat) (agg : Bool) (x : Operand) (i : Operand) : OpR :=
  (match ρ x, ρ i with | .agg cs, .int _ i => if 0 ≤ i ∧ i < (n : Int) then .of (partM agg size cs (i.toNat * size)) H else .fail | _, _ => .fail)
def f_ixs (ρ : Operand → V) (H : Heap) (x : Operand) (i : Operand) : OpR :=
  (match ρ x, ρ i with | .str s, .int _ i => if 0 ≤ i then .of ((s[i.toNat]?).map fun c => V.int .u8 c.toNat) H else .fail | _, _ => .fail)
def f_rng (ρ : Operand → V) (H : Heap) (x : Operand) : OpR :=
  (match ρ x with | .str s => .val (.it H.ni) (H.pushIt s) | _ => .fail)
def f_nxt (ρ : Operand → V) (H : Heap) (x : Operand) : OpR :=
  nextOp (ρ x) H
def f_ext (ρ : Operand → V) (H : Heap) (x : Operand) (i : Nat) : OpR :=
  .of (extractOp (ρ x) i) H
def f_lenstr (ρ : Operand → V) (H : Heap) (x : Operand) : OpR :=
  (match ρ x with | .str s => .val (.int .i64 s.length) H | _ => .fail)
def f_lenarr (ρ : Operand → V) (H : Heap) (n : Nat) : OpR :=
  .val (.int .i64 n) H
def f_lensl (ρ : Operand → V) (H : Heap) (x : Operand) : OpR :=
  (match ρ x with | .nilslice => .val (.int .i64 0) H | .slice _ _ n _ _ => .val (.int .i64 n) H | _ => .fail)
def f_app (ρ : Operand → V) (H : Heap) (e : TypeId) (size : Nat) (bytes : Nat) (s : Operand) (x : Operand) : OpR :=
  appM e size bytes (ρ s) (ρ x) H
def f_cpy (ρ : Operand → V) (H : Heap) (size : Nat) (d : Operand) (s : Operand) : OpR :=
  cpyM size (ρ d) (ρ s) H
def f_mn (ρ : Operand → V) (H : Heap) (x : Operand) (y : Operand) : OpR :=
  .of (minOp [ρ x, ρ y]) H
def f_mx (ρ : Operand → V) (H : Heap) (x : Operand) (y : Operand) : OpR :=
  .of (maxOp [ρ x, ρ y]) H
def f_call (ρ : Operand → V) (H : Heap) (f : Operand) (args : List Operand) : OpR :=
  .call (ρ f) (args.map ρ)
def f_inv (P : Program) (ρ : Operand → V) (H : Heap) (recv : Operand) (name : String) (args : List Operand) : OpR :=
  (match ρ recv with
    | .iface t v => (match methOp P t name with | some f => .call (.fn (.func f) [] []) (v :: args.map ρ) | none => .fail)
    | _ => .fail)
def f_dfr (ρ : Operand → V) (H : Heap) (f : Operand) (args : List Operand) : OpR :=
  .dfr (ρ f) (args.map ρ)
def f_gen (P : Program) (ρ : Operand → V) (H : Heap) (o : Op) : OpR :=
  stepOp P ρ ⟨none, o, 0, "", #[], none⟩ H

inductive OpF where
  | pure (v : V)
  | act (v : V) (H : Heap) (bs is : List Nat)
  | call (fv : V) (args : List V)
  | dfr (fv : V) (args : List V)
  | recov
  | fail

def toP : OpR → OpF
  | .val v _ => .pure v
  | .call f a => .call f a
  | .dfr f a => .dfr f a
  | .recov => .recov
  | .fail => .fail
def toA (bs is : List Nat) : OpR → OpF
  | .val v H => .act v H bs is
  | .call f a => .call f a
  | .dfr f a => .dfr f a
  | .recov => .recov
  | .fail => .fail

structure XOp where
  f : (Operand → V) → Heap → OpF

def disp (P : Program) (m : MOp) : XOp :=
  @MOp.casesOn (fun _ => XOp) m
    (fun a0 => ⟨fun ρ H => toP (f_mv ρ H a0)⟩)
    (fun a0 a1 a2 => ⟨fun ρ H => toP (f_pick ρ H a0 a1 a2)⟩)
    (fun a0 a1 => ⟨fun ρ H => toA [] [] (f_alloc ρ H a0 a1)⟩)
    (fun a0 a1 => ⟨fun ρ H => toA [] [] (f_box ρ H a0 a1)⟩)
    (fun a0 a1 => ⟨fun ρ H => toP (f_build ρ H a0 a1)⟩)
    (fun a0 a1 a2 a3 => ⟨fun ρ H => toA [] [] (f_bslice ρ H a0 a1 a2 a3)⟩)
    (fun a0 a1 a2 => ⟨fun ρ H => toP (f_load ρ H a0 a1 a2)⟩)
    (fun a0 a1 a2 => ⟨fun ρ H => toA (ρ a1).blks [] (f_store ρ H a0 a1 a2)⟩)
    (fun a0 => ⟨fun ρ H => toP (f_nilck ρ H a0)⟩)
    (fun a0 a1 a2 => ⟨fun ρ H => toP (f_bin ρ H a0 a1 a2)⟩)
    (fun a0 a1 a2 => ⟨fun ρ H => toP (f_eqb ρ H a0 a1 a2)⟩)
    (fun a0 a1 a2 a3 => ⟨fun ρ H => toP (f_eqk ρ H a0 a1 a2 a3)⟩)
    (fun a0 a1 a2 a3 => ⟨fun ρ H => toP (f_eqs ρ H a0 a1 a2 a3)⟩)
    (fun a0 a1 => ⟨fun ρ H => toP (f_un ρ H a0 a1)⟩)
    (fun a0 a1 => ⟨fun ρ H => toP (f_cint ρ H a0 a1)⟩)
    (fun a0 a1 => ⟨fun ρ H => toP (f_cstr ρ H a0 a1)⟩)
    (fun a0 a1 => ⟨fun ρ H => toA [] [] (f_cbytes ρ H a0 a1)⟩)
    (fun a0 a1 => ⟨fun ρ H => toP (f_ifc ρ H a0 a1)⟩)
    (fun a0 a1 a2 => ⟨fun ρ H => toP (f_fnc ρ H a0 a1 a2)⟩)
    (fun a0 a1 a2 a3 a4 => ⟨fun ρ H => toA [] [] (f_mkslice ρ H a0 a1 a2 a3 a4)⟩)
    (fun a0 a1 a2 => ⟨fun ρ H => toP (f_sstr ρ H a0 a1 a2)⟩)
    (fun a0 a1 a2 a3 a4 a5 => ⟨fun ρ H => toP (f_ssl ρ H a0 a1 a2 a3 a4 a5)⟩)
    (fun a0 a1 a2 a3 a4 a5 => ⟨fun ρ H => toP (f_sarr ρ H a0 a1 a2 a3 a4 a5)⟩)
    (fun a0 a1 => ⟨fun ρ H => toP (f_faddr ρ H a0 a1)⟩)
    (fun a0 a1 a2 a3 => ⟨fun ρ H => toP (f_fld ρ H a0 a1 a2 a3)⟩)
    (fun a0 a1 a2 a3 => ⟨fun ρ H => toP (f_iaa ρ H a0 a1 a2 a3)⟩)
    (fun a0 a1 a2 => ⟨fun ρ H => toP (f_ias ρ H a0 a1 a2)⟩)
    (fun a0 a1 a2 a3 a4 => ⟨fun ρ H => toP (f_ixa ρ H a0 a1 a2 a3 a4)⟩)
    (fun a0 a1 => ⟨fun ρ H => toP (f_ixs ρ H a0 a1)⟩)
    (fun a0 => ⟨fun ρ H => toA [] [] (f_rng ρ H a0)⟩)
    (fun a0 => ⟨fun ρ H => toA [] (ρ a0).itrs (f_nxt ρ H a0)⟩)
    (fun a0 a1 => ⟨fun ρ H => toP (f_ext ρ H a0 a1)⟩)
    (fun a0 => ⟨fun ρ H => toP (f_lenstr ρ H a0)⟩)
    (fun a0 => ⟨fun ρ H => toP (f_lenarr ρ H a0)⟩)
    (fun a0 => ⟨fun ρ H => toP (f_lensl ρ H a0)⟩)
    (fun a0 a1 a2 a3 a4 => ⟨fun ρ H => toA (ρ a3).blks [] (f_app ρ H a0 a1 a2 a3 a4)⟩)
    (fun a0 a1 a2 => ⟨fun ρ H => toA (ρ a1).blks [] (f_cpy ρ H a0 a1 a2)⟩)
    (fun a0 a1 => ⟨fun ρ H => toP (f_mn ρ H a0 a1)⟩)
    (fun a0 a1 => ⟨fun ρ H => toP (f_mx ρ H a0 a1)⟩)
    (fun a0 a1 => ⟨fun ρ H => toP (f_call ρ H a0 a1)⟩)
    (fun a0 a1 a2 => ⟨fun ρ H => toP (f_inv P ρ H a0 a1 a2)⟩)
    ⟨fun _ _ => .recov⟩
    (fun a0 a1 => ⟨fun ρ H => toP (f_dfr ρ H a0 a1)⟩)
    (fun a0 => ⟨fun ρ H => toA (touchB ρ ⟨none, a0, 0, "", #[], none⟩) (touchI ρ ⟨none, a0, 0, "", #[], none⟩) (f_gen P ρ H a0)⟩)

theorem disp_pure {P : Program} {ρ : Operand → V} {m : MOp} {H : Heap} (h : m.acts = false) : (disp P m).f ρ H = toP (mstep P ρ m H) := by
  cases m <;> first | rfl | cases h
theorem disp_acts {P : Program} {ρ : Operand → V} {m : MOp} {H : Heap} (h : m.acts = true) : (disp P m).f ρ H = toA (touchBM ρ m) (touchIM ρ m) (mstep P ρ m H) := by
  cases m <;> first | rfl | cases h

theorem disp_inv {P : Program} {ρ : Operand → V} {m : MOp} {H : Heap} : match (disp P m).f ρ H with
    | .pure v => mstep P ρ m H = .val v H
    | .act v H' bs is => mstep P ρ m H = .val v H' ∧ Chg H H' bs is
    | .call fv args => mstep P ρ m H = .call fv args
    | .dfr fv args => mstep P ρ m H = .dfr fv args
    | .recov => mstep P ρ m H = .recov
    | .fail => True := by
  cases ha : m.acts with
  | false =>
    rw [disp_pure ha]
    cases hs : mstep P ρ m H with
    | val v H' => rw [stays_m ha hs]; rfl
    | call => rfl
    | dfr => rfl
    | recov => rfl
    | fail => trivial
  | true =>
    rw [disp_acts ha]
    cases hs : mstep P ρ m H with
    | val v H' => exact ⟨rfl, chg_m hs⟩
    | call => rfl
    | dfr => rfl
    | recov => rfl
    | fail => trivial

end Go.Cm
