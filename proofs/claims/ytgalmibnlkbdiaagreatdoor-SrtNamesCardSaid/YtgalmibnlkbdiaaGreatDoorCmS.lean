/- The equations by which a walk goes. -/
import Derived.Test.YtgalmibnlkbdiaaGreatDoorCmFn
import Derived.Attr
set_option linter.unusedVariables false
set_option linter.unusedSimpArgs false
namespace Go.Cm
open Go Go.RowKit

attribute [go_sem] put_ET put_none ds_ET ev_tmp ev_const ev_global ev_func env0_0 env0_1 env0_2 env0_3 env0_4 env0_5 env0_6
attribute [go_sem] HH_nc HH_ni HH_nl HH_nd HH_lps HH_cs_new HH_cs_new0 HH_cs_old HH_push HH_put_new HH_put_new0 HH_put_old HH_its_new HH_its_new0 HH_pushIt HH_putIt HH_putIt0 HH_pushDs HH_ds_new HH_ds_new0 HH_dropDs HH_dropDs0
theorem HH_putIt_cons {H : Heap} {ov : List (Nat × Option Obj)} {nw : List (Option Obj)} {a : Option (List UInt8 × Nat)} {it : List (Option (List UInt8 × Nat))} {kd : List Bool} (s : List UInt8) (p : Nat) : (HH H ⟨ov, nw, a :: it, kd⟩).putIt H.ni s p = HH H ⟨ov, nw, some (s, p) :: it, kd⟩ := HH_putIt 0 s p (Nat.zero_lt_succ _)
theorem HH_put_cons {H : Heap} {ov : List (Nat × Option Obj)} {a : Option Obj} {nw : List (Option Obj)} {it : List (Option (List UInt8 × Nat))} {kd : List Bool} (o : Option Obj) : (HH H ⟨ov, a :: nw, it, kd⟩).put H.nc o = HH H ⟨ov, o :: nw, it, kd⟩ := HH_put_new 0 o (Nat.zero_lt_succ _)
attribute [go_sem] HH_putIt_cons HH_put_cons
attribute [go_sem] seqK_normal seqK_exit seqK_ret seqK_goto blockK_normal blockK_ret blockK_goto blockK_exit
attribute [go_sem] binM_add binM_sub binM_mul binM_eql binM_neq binM_lss binM_leq binM_gtr binM_geq binM_seql binM_sneq binM_sadd binM_shl binM_shr binM_and binM_or
attribute [go_sem] ofVal_int ofVal_bool ofVal_str ofVal_nilptr ofVal_nilslice ofVal_nilfn ofVal_nilif ofVal_agg ofScalar_int ofScalar_bool ofScalar_str ofScalar_nilptr ofScalar_nilslice ofScalar_nilfn ofScalar_nilif
attribute [go_sem] retR_ret retR_normal leaveR_nil

@[go_sem] theorem ET_nil (j : Nat) : ET [] j = .undef := rfl
@[go_sem] theorem ET_cons (k : Nat) (u : V) (r : List (Nat × V)) (j : Nat) : ET ((k, u) :: r) j = if j = k then u else ET r j := rfl
@[go_sem] theorem upE_nil (d : Nat) (v : V) : upE [] d v = [(d, v)] := rfl
@[go_sem] theorem upE_cons (k : Nat) (u : V) (r : List (Nat × V)) (d : Nat) (v : V) : upE ((k, u) :: r) d v = if d = k then (d, v) :: r else (k, u) :: upE r d v := rfl
@[go_sem] theorem lkp_nil (j : Nat) : lkp [] j = none := rfl
@[go_sem] theorem lkp_cons (k : Nat) (u : Option Obj) (r : List (Nat × Option Obj)) (j : Nat) : lkp ((k, u) :: r) j = if j = k then some u else lkp r j := rfl
@[go_sem] theorem upO_nil (d : Nat) (v : Option Obj) : upO [] d v = [(d, v)] := rfl
@[go_sem] theorem upO_cons (k : Nat) (u : Option Obj) (r : List (Nat × Option Obj)) (d : Nat) (v : Option Obj) : upO ((k, u) :: r) d v = if d = k then (d, v) :: r else (k, u) :: upO r d v := rfl

section
variable {P : Program} {r : Rd} {K : Env → Heap → Prop} {e : Env} {H H' : Heap} {ρ : Operand → V}

@[go_sem] theorem wpM_nil : wpM P r [] K e H = K e H := rfl
@[go_sem] theorem wpM_op {d : Option Tmp} {m : MOp} {l : List MI} : wpM P r (.op d m :: l) K e H = MR P r e d (wpM P r l K) H (mstep P e.ev m H) := rfl
@[go_sem] theorem wpM_gd {s : Option Tmp} {w : Bool} {d : Option Tmp} {m : MOp} {l : List MI} : wpM P r (.gd s w d m :: l) K e H = ∃ b, gval e s w = some b ∧ (b = false → wpM P r l K (e.put d (.tuple [])) H) ∧ (b = true → MR P r e d (wpM P r l K) H (mstep P e.ev m H)) := rfl
@[go_sem] theorem wpM_nt {g : Gd} {d : Option Tmp} {m : MOp} {l : List MI} : wpM P r (.nt g d m :: l) K e H = ∃ v, GdM e g v (EvM P e H m v) ∧ wpM P r l K (e.put d v) H := rfl
@[go_sem] theorem wpM_ck {n : Bool} {g : Gd} {d : Option Tmp} {m : MOp} {l : List MI} : wpM P r (.ck n g d m :: l) K e H = (ckM P e H n g d m ∧ wpM P r l K e H) := rfl
@[go_sem] theorem MR_val {d : Option Tmp} {v : V} : MR P r e d K H (.val v H') = K (e.put d v) H' := rfl
@[go_sem] theorem MR_call {d : Option Tmp} {fv : V} {args : List V} : MR P r e d K H (.call fv args) = InvS P fv args H (fun v H' => K (e.put d v) H') := rfl
@[go_sem] theorem MR_dfr {d : Option Tmp} {fv : V} {args : List V} : MR P r e d K H (.dfr fv args) = (r.l = none ∧ (∃ g fi ca, fv = .fn (.func g) fi ca) ∧ K ({ e with ds := .call fv args :: e.ds }.put d (.tuple [])) H) := rfl
@[go_sem] theorem MR_recov {d : Option Tmp} : MR P r e d K H .recov = (r.l = none ∧ K (e.put d .nilif) H) := rfl
@[go_sem] theorem OpR_some {v : V} : OpR.of (some v) H = .val v H := rfl
@[go_sem] theorem ckM_some {n : Bool} {g : Gd} {d : Tmp} {m : MOp} : ckM P e H n g (some d) m = GdM e g (e.t d) (if n then EvM P e H m (e.t d) else LkM P e H m (e.t d)) := rfl
@[go_sem] theorem ckM_none {n : Bool} {g : Gd} {m : MOp} : ckM P e H n g none m = ∃ v, GdM e g v (if n then EvM P e H m v else LkM P e H m v) := rfl
@[go_sem] theorem GdM_none {v : V} {p : Prop} : GdM e none v p = p := rfl
@[go_sem] theorem GdM_some {s : Option Tmp} {w : Bool} {v : V} {p : Prop} : GdM e (some (s, w)) v p = ∃ b, gval e s w = some b ∧ (b = false → v = .tuple []) ∧ (b = true → p) := rfl
@[go_sem] theorem EvM_eq {m : MOp} {v : V} : EvM P e H m v = (match mstep P e.ev m H with
  | .val u H' => u = v ∧ H' = H
  | .call fv args => InvS P fv args H (fun v' H' => v' = v ∧ H' = H)
  | _ => False) := rfl
@[go_sem] theorem LkM_eq {m : MOp} {v : V} : LkM P e H m v = (match mstep P e.ev m H with
  | .val u _ => u = v
  | _ => False) := rfl
@[go_sem] theorem gval_some {s : Tmp} {w : Bool} : gval e (some s) w = (match e.t s with
    | .bool b => some (b == w)
    | .tuple [] => some false
    | _ => none) := rfl
@[go_sem] theorem t_ET {l : List (Nat × V)} {ds : List Dfr} : (⟨ET l, ds⟩ : Env).t = ET l := rfl
@[go_sem] theorem ds_of_ET {l : List (Nat × V)} {ds : List Dfr} : (⟨ET l, ds⟩ : Env).ds = ds := rfl

@[go_sem] theorem mstep_mv {x : Operand} : mstep P ρ (.mv x) H = .val (ρ x) H := rfl
@[go_sem] theorem mstep_pick {c a b : Operand} : mstep P ρ (.pick c a b) H = (match ρ c with | .bool true => .val (ρ a) H | .bool false => .val (ρ b) H | _ => .fail) := rfl
@[go_sem] theorem mstep_alloc {z : List V} {t : TypeId} : mstep P ρ (.alloc z t) H = .val (.ptr H.nc 0) (H.push ⟨z, t, .own, true⟩) := rfl
@[go_sem] theorem mstep_box {t : TypeId} {x : Operand} : mstep P ρ (.box t x) H = (match cellsOf (ρ x) with | some cs => .val (.ptr H.nc 0) (H.push ⟨cs, t, .own, true⟩) | none => .fail) := rfl
@[go_sem] theorem mstep_build {z : List V} {ps : List (Nat × Nat × Operand)} : mstep P ρ (.build z ps) H = .of ((fillM z (ps.map fun p => (p.1, p.2.1, ρ p.2.2))).map .agg) H := rfl
@[go_sem] theorem mstep_bslice {t : TypeId} {len : Nat} {z : List V} {ps : List (Nat × Nat × Operand)} : mstep P ρ (.bslice t len z ps) H = (match fillM z (ps.map fun p => (p.1, p.2.1, ρ p.2.2)) with
    | some cells => .val (.slice H.nc 0 len len true) (H.push ⟨cells, t, .own, false⟩)
    | none => .fail) := rfl
@[go_sem] theorem mstep_load {agg : Bool} {size : Nat} {a : Operand} : mstep P ρ (.load agg size a) H = (match ρ a with | .ptr b o => .of (loadM H agg size b o) H | _ => .fail) := rfl
@[go_sem] theorem mstep_store {size : Nat} {a x : Operand} : mstep P ρ (.store size a x) H = (match ρ a with | .ptr b o => (match storeM H size b o (ρ x) with | some H' => .val (.tuple []) H' | none => .fail) | _ => .fail) := rfl
@[go_sem] theorem mstep_nilck {x : Operand} : mstep P ρ (.nilck x) H = (match ρ x with | .ptr b o => .val (.ptr b o) H | .fn (.func g) a c => .val (.fn (.func g) a c) H | .fn (.yield l) a c => .val (.fn (.yield l) a c) H | .iface t v => .val (.iface t v) H | _ => .fail) := rfl
@[go_sem] theorem mstep_bin {op : BinOp} {x y : Operand} : mstep P ρ (.bin op x y) H = .of (binM op (ρ x) (ρ y)) H := rfl
@[go_sem] theorem mstep_eqb {neg : Bool} {x y : Operand} : mstep P ρ (.eqb neg x y) H = (match ρ x, ρ y with | .bool a, .bool b => .val (ngB neg (a == b)) H | _, _ => .fail) := rfl
@[go_sem] theorem mstep_eqk {neg : Bool} {k : EK} {x y : Operand} : mstep P ρ (.eqk neg k x y) H = .of ((eqK k (ρ x) (ρ y)).map (ngB neg)) H := rfl
@[go_sem] theorem mstep_eqs {neg : Bool} {fs : List (Nat × SK)} {x y : Operand} : mstep P ρ (.eqs neg fs x y) H = (match ρ x, ρ y with | .agg xs, .agg ys => .of ((eqF xs ys fs).map (ngB neg)) H | _, _ => .fail) := rfl
@[go_sem] theorem mstep_un {op : UnOp} {x : Operand} : mstep P ρ (.un op x) H = .of (opUn op (ρ x)) H := rfl
@[go_sem] theorem mstep_cint {k : IntKind} {x : Operand} : mstep P ρ (.cint k x) H = (match ρ x with | .int _ n => .val (.int k (k.wrap n)) H | _ => .fail) := rfl
@[go_sem] theorem mstep_cstr {bs : Bool} {x : Operand} : mstep P ρ (.cstr bs x) H = (match ρ x with
    | .int _ n => .val (.str (Utf8.encode n).data.toList) H
    | .str s => .val (.str s) H
    | .nilslice => if bs then .val (.str []) H else .fail
    | .slice b o n _ _ => if bs then (match (H.cs b).bind fun ob => readCells ob.l o n with
      | some cs => (match bytesOf? cs with | some s => .val (.str s) H | none => .fail)
      | none => .fail) else .fail
    | _ => .fail) := rfl
@[go_sem] theorem mstep_cbytes {t : TypeId} {x : Operand} : mstep P ρ (.cbytes t x) H = (match ρ x with | .str s => .val (.slice H.nc 0 s.length s.length false) (H.push ⟨u8s s, t, .own, false⟩) | _ => .fail) := rfl
@[go_sem] theorem mstep_ifc {t : TypeId} {x : Operand} : mstep P ρ (.ifc t x) H = .val (.iface t (ρ x)) H := rfl
@[go_sem] theorem mstep_fnc {g : FuncId} {a b : List Operand} : mstep P ρ (.fnc g a b) H = .val (.fn (.func g) (a.map ρ) (b.map ρ)) H := rfl
@[go_sem] theorem mstep_mkslice {t : TypeId} {bytes : Nat} {z : List V} {l c : Operand} : mstep P ρ (.mkslice t bytes z l c) H = (match ρ l, ρ c with
    | .int _ l, .int _ c =>
      if 0 ≤ l ∧ l ≤ c ∧ bytes * c ≤ 281474976710656 ∧ c ≤ 9223372036854775807 then
        .val (.slice H.nc 0 l.toNat c.toNat true) (H.push ⟨repl c.toNat z, t, .own, false⟩)
      else .fail
    | _, _ => .fail) := rfl
@[go_sem] theorem mstep_sstr {x : Operand} {lo hi : Option Operand} : mstep P ρ (.sstr x lo hi) H = (match ρ x with
    | .str s => (match bounds s.length s.length (lo.map ρ) (hi.map ρ) none with
      | some (l, h, _) => .val (.str ((s.take h).drop l)) H
      | none => .fail)
    | _ => .fail) := rfl
@[go_sem] theorem mstep_ssl {t : TypeId} {size : Nat} {x : Operand} {lo hi mx : Option Operand} : mstep P ρ (.ssl t size x lo hi mx) H = sslM t size (ρ x) (lo.map ρ) (hi.map ρ) (mx.map ρ) H := rfl
@[go_sem] theorem mstep_sarr {n size : Nat} {x : Operand} {lo hi mx : Option Operand} : mstep P ρ (.sarr n size x lo hi mx) H = (match ρ x with
    | .ptr b o => (match bounds n n (lo.map ρ) (hi.map ρ) (mx.map ρ) with
      | some (l, h, m) => .val (.slice b (o + l * size) (h - l) (m - l) true) H
      | none => .fail)
    | _ => .fail) := rfl
@[go_sem] theorem mstep_faddr {off : Nat} {x : Operand} : mstep P ρ (.faddr off x) H = (match ρ x with | .ptr b o => .val (.ptr b (o + off)) H | _ => .fail) := rfl
@[go_sem] theorem mstep_fld {agg : Bool} {size off : Nat} {x : Operand} : mstep P ρ (.fld agg size off x) H = (match ρ x with | .agg cs => .of (partM agg size cs off) H | _ => .fail) := rfl
@[go_sem] theorem mstep_iaa {n size : Nat} {x i : Operand} : mstep P ρ (.iaa n size x i) H = (match ρ x, ρ i with | .ptr b o, .int _ i => if 0 ≤ i ∧ i < (n : Int) then .val (.ptr b (o + i.toNat * size)) H else .fail | _, _ => .fail) := rfl
@[go_sem] theorem mstep_ias {size : Nat} {x i : Operand} : mstep P ρ (.ias size x i) H = (match ρ x, ρ i with | .slice b o n _ _, .int _ i => if 0 ≤ i ∧ i < (n : Int) then .val (.ptr b (o + i.toNat * size)) H else .fail | _, _ => .fail) := rfl
@[go_sem] theorem mstep_ixa {n size : Nat} {agg : Bool} {x i : Operand} : mstep P ρ (.ixa n size agg x i) H = (match ρ x, ρ i with | .agg cs, .int _ i => if 0 ≤ i ∧ i < (n : Int) then .of (partM agg size cs (i.toNat * size)) H else .fail | _, _ => .fail) := rfl
@[go_sem] theorem mstep_ixs {x i : Operand} : mstep P ρ (.ixs x i) H = (match ρ x, ρ i with | .str s, .int _ i => if 0 ≤ i then .of ((s[i.toNat]?).map fun c => V.int .u8 c.toNat) H else .fail | _, _ => .fail) := rfl
@[go_sem] theorem mstep_rng {x : Operand} : mstep P ρ (.rng x) H = (match ρ x with | .str s => .val (.it H.ni) (H.pushIt s) | _ => .fail) := rfl
@[go_sem] theorem mstep_nxt {x : Operand} : mstep P ρ (.nxt x) H = nextOp (ρ x) H := rfl
@[go_sem] theorem mstep_ext {x : Operand} {i : Nat} : mstep P ρ (.ext x i) H = .of (extractOp (ρ x) i) H := rfl
@[go_sem] theorem mstep_lenstr {x : Operand} : mstep P ρ (.lenstr x) H = (match ρ x with | .str s => .val (.int .i64 s.length) H | _ => .fail) := rfl
@[go_sem] theorem mstep_lenarr {n : Nat} : mstep P ρ (.lenarr n) H = .val (.int .i64 n) H := rfl
@[go_sem] theorem mstep_lensl {x : Operand} : mstep P ρ (.lensl x) H = (match ρ x with | .nilslice => .val (.int .i64 0) H | .slice _ _ n _ _ => .val (.int .i64 n) H | _ => .fail) := rfl
@[go_sem] theorem mstep_app {t : TypeId} {size bytes : Nat} {s x : Operand} : mstep P ρ (.app t size bytes s x) H = appM t size bytes (ρ s) (ρ x) H := rfl
@[go_sem] theorem mstep_cpy {size : Nat} {d s : Operand} : mstep P ρ (.cpy size d s) H = cpyM size (ρ d) (ρ s) H := rfl
@[go_sem] theorem mstep_mn {x y : Operand} : mstep P ρ (.mn x y) H = .of (minOp [ρ x, ρ y]) H := rfl
@[go_sem] theorem mstep_mx {x y : Operand} : mstep P ρ (.mx x y) H = .of (maxOp [ρ x, ρ y]) H := rfl
@[go_sem] theorem mstep_call {f : Operand} {args : List Operand} : mstep P ρ (.call f args) H = .call (ρ f) (args.map ρ) := rfl
@[go_sem] theorem mstep_recov : mstep P ρ .recov H = .recov := rfl
@[go_sem] theorem mstep_dfr {f : Operand} {args : List Operand} : mstep P ρ (.dfr f args) H = .dfr (ρ f) (args.map ρ) := rfl

@[go_sem] theorem opUn_not {b : Bool} : opUn .not (.bool b) = some (.bool (!b)) := rfl
@[go_sem] theorem opUn_neg {k : IntKind} {n : Int} : opUn .neg (.int k n) = some (.int k (k.wrap (0 - n))) := rfl
@[go_sem] theorem minOp_int {k k' : IntKind} {x y : Int} : minOp [.int k x, .int k' y] = if k = k' then some (.int k (if y < x then y else x)) else none := rfl
@[go_sem] theorem maxOp_int {k k' : IntKind} {x y : Int} : maxOp [.int k x, .int k' y] = if k = k' then some (.int k (if x < y then y else x)) else none := rfl
@[go_sem] theorem ext_tuple {vs : List V} {i : Nat} : extractOp (.tuple vs) i = vs[i]? := rfl

@[go_sem] theorem cellsOf_agg {cs : List V} : cellsOf (.agg cs) = if cs.all V.isCell then some cs else none := rfl
@[go_sem] theorem cellsOf_int {k : IntKind} {n : Int} : cellsOf (.int k n) = some [.int k n] := rfl
@[go_sem] theorem cellsOf_bool {b : Bool} : cellsOf (.bool b) = some [.bool b] := rfl
@[go_sem] theorem cellsOf_str {b : List UInt8} : cellsOf (.str b) = some [.str b] := rfl
@[go_sem] theorem cellsOf_ptr {b o : Nat} : cellsOf (.ptr b o) = some [.ptr b o] := rfl
@[go_sem] theorem cellsOf_nilptr : cellsOf .nilptr = some [.nilptr] := rfl
@[go_sem] theorem cellsOf_slice {b o n c : Nat} {ex : Bool} : cellsOf (.slice b o n c ex) = some [.slice b o n c ex] := rfl
@[go_sem] theorem cellsOf_nilslice : cellsOf .nilslice = some [.nilslice] := rfl
@[go_sem] theorem cellsOf_fn {f : Fn} {a b : List V} : cellsOf (.fn f a b) = some [.fn f a b] := rfl
@[go_sem] theorem cellsOf_nilfn : cellsOf .nilfn = some [.nilfn] := rfl
@[go_sem] theorem cellsOf_iface {t : TypeId} {v : V} : cellsOf (.iface t v) = some [.iface t v] := rfl
@[go_sem] theorem cellsOf_nilif : cellsOf .nilif = some [.nilif] := rfl
@[go_sem] theorem isCell_int {k : IntKind} {n : Int} : V.isCell (.int k n) = true := rfl
@[go_sem] theorem isCell_bool {b : Bool} : V.isCell (.bool b) = true := rfl
@[go_sem] theorem isCell_str {b : List UInt8} : V.isCell (.str b) = true := rfl
@[go_sem] theorem isCell_ptr {b o : Nat} : V.isCell (.ptr b o) = true := rfl
@[go_sem] theorem isCell_nilptr : V.isCell .nilptr = true := rfl
@[go_sem] theorem isCell_slice {b o n c : Nat} {ex : Bool} : V.isCell (.slice b o n c ex) = true := rfl
@[go_sem] theorem isCell_nilslice : V.isCell .nilslice = true := rfl
@[go_sem] theorem isCell_fn {f : Fn} {a b : List V} : V.isCell (.fn f a b) = true := rfl
@[go_sem] theorem isCell_nilfn : V.isCell .nilfn = true := rfl
@[go_sem] theorem isCell_iface {t : TypeId} {v : V} : V.isCell (.iface t v) = true := rfl
@[go_sem] theorem isCell_nilif : V.isCell .nilif = true := rfl
@[go_sem] theorem isCell_it {i : Nat} : V.isCell (.it i) = true := rfl

attribute [go_sem] loadM storeM splice readCells partM eqF eqSK ngB bound sslM nextOp resVals oneOr
@[go_sem] theorem bounds_0 {len cap : Nat} : bounds len cap none none none = some (0, len, cap) := rfl
@[go_sem] theorem bounds_l {len cap : Nat} {l : V} : bounds len cap (some l) none none = (match bound l len with | some l => some (l, len, cap) | none => none) := by
  delta bounds
  simp only []
  cases bound l len <;> rfl
@[go_sem] theorem bounds_h {len cap : Nat} {h : V} : bounds len cap none (some h) none = (match bound h cap with | some h => some (0, h, cap) | none => none) := by
  delta bounds
  simp only []
  cases bound h cap <;> rfl
@[go_sem] theorem bounds_lh {len cap : Nat} {l h : V} : bounds len cap (some l) (some h) none = (match bound h cap with | some h => (match bound l h with | some l => some (l, h, cap) | none => none) | none => none) := by
  delta bounds
  simp only []
  cases bound h cap with
  | none => rfl
  | some q => simp only []; cases bound l q <;> rfl
@[go_sem] theorem bounds_lhm {len cap : Nat} {l h m : V} : bounds len cap (some l) (some h) (some m) = (match bound m cap with | some m => (match bound h m with | some h => (match bound l h with | some l => some (l, h, m) | none => none) | none => none) | none => none) := by
  delta bounds
  simp only []
  cases bound m cap with
  | none => rfl
  | some q => simp only []; cases bound h q with
    | none => rfl
    | some q2 => simp only []; cases bound l q2 <;> rfl
@[go_sem] theorem bounds_hm {len cap : Nat} {h m : V} : bounds len cap none (some h) (some m) = (match bound m cap with | some m => (match bound h m with | some h => some (0, h, m) | none => none) | none => none) := by
  delta bounds
  simp only []
  cases bound m cap with
  | none => rfl
  | some q => simp only []; cases bound h q <;> rfl
attribute [go_sem] List.nil_append List.cons_append List.append_nil List.length_nil List.length_cons List.length_append List.map_nil List.map_cons List.getElem?_cons_zero List.getElem?_cons_succ List.getElem?_nil List.set_cons_zero List.set_cons_succ List.take_succ_cons List.take_zero List.drop_succ_cons List.drop_zero List.take_nil List.drop_nil List.all_cons List.all_nil
attribute [go_sem] Option.map_some Option.map_none Option.join_some Option.join_none Option.bind_some Option.bind_none Option.getD_some Option.getD_none Option.isSome_some Option.isSome_none Option.some.injEq
attribute [go_sem] Bool.and_true Bool.true_and Bool.and_false Bool.false_and Bool.or_true Bool.true_or Bool.or_false Bool.false_or Bool.not_true Bool.not_false Bool.and_self Bool.not_not
attribute [go_sem] true_implies false_implies implies_true ge_iff_le gt_iff_lt Int.toNat_natCast Int.natCast_nonneg Int.ofNat_le Int.ofNat_lt beq_self_eq_true beq_eq_false_iff_ne forall_const Nat.zero_le
attribute [go_sem] if_true if_false Nat.add_zero Nat.zero_add ne_eq true_and and_true false_and and_false exists_eq_left' exists_eq_left V.bool.injEq V.int.injEq V.str.injEq forall_eq' decide_true decide_false reduceCtorEq
@[go_sem] theorem beq_ft : ((false : Bool) == true) = false := rfl
@[go_sem] theorem beq_tf : ((true : Bool) == false) = false := rfl
@[go_sem] theorem fillM_nil {z : List V} : fillM z [] = some z := rfl
@[go_sem] theorem fillM_cons {z : List V} {off size : Nat} {v : V} {l : List (Nat × Nat × V)} : fillM z ((off, size, v) :: l) = (match cellsOf v with
    | some cs => if cs.length = size ∧ off + size ≤ z.length then fillM (splice z off cs) l else none
    | none => none) := rfl
end
end Go.Cm
