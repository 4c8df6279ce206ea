/- The abstract machine's runs over code in short, and that they are sound. -/
import Derived.Test.YtgalmibnlkbdiaaGreatDoorCmFast
set_option linter.unusedVariables false
set_option linter.unusedSimpArgs false
namespace Go.Cm
open Go Go.RowKit

/-- A function's table entry. -/
structure FnE where
  n : Nat
  rs : List ResultVar
  m : MC

inductive Task where
  | code (n : Nat) (r : Option Nat) (L : Loc) (m : MC)
  | scope (n : Nat) (r : Option Nat) (L : Loc) (mb : MC) (Lc : Loc) (mc : MC)
  | loop (n : Nat) (r : Option Nat) (L : Loc) (m : MC)
  | call (g : FuncId) (args : List V)
  | inv (fv : V) (args : List V)
  | leave (rs : List ResultVar) (ds : List Dfr)

structure Res where
  x : X
  v : V
  e : CE
  h : CH
  nt : Bool

def same : V → V → Bool
  | .bool a, .bool b => a == b
  | .int k n, .int k' m => decide (k = k') && decide (n = m)
  | .str a, .str b => decide (a = b)
  | .ptr b o, .ptr b' o' => b == b' && o == o'
  | .slice b o n c e, .slice b' o' n' c' e' => b == b' && o == o' && n == n' && c == c' && e == e'
  | .nilptr, .nilptr => true
  | .nilslice, .nilslice => true
  | .nilfn, .nilfn => true
  | .nilif, .nilif => true
  | .tuple [], .tuple [] => true
  | .undef, .undef => true
  | _, _ => false

theorem same_eq {a b : V} (h : same a b = true) : a = b := by
  unfold same at h
  split at h <;> simp_all

def sameL0 : List V → List V → Bool
  | [], [] => true
  | a :: l, b :: m => same a b && sameL0 l m
  | _, _ => false

theorem sameL0_eq : ∀ {l m : List V}, sameL0 l m = true → l = m
  | [], [], _ => rfl
  | [], _ :: _, h => by simp [sameL0] at h
  | _ :: _, [], h => by simp [sameL0] at h
  | a :: l, b :: m, h => by
    simp only [sameL0, Bool.and_eq_true] at h
    rw [same_eq h.1, sameL0_eq h.2]

def same1 : V → V → Bool
  | .agg l, .agg m => sameL0 l m
  | a, b => same a b

theorem same1_eq {a b : V} (h : same1 a b = true) : a = b := by
  unfold same1 at h
  split at h
  · rw [sameL0_eq h]
  · exact same_eq h

def sameL : List V → List V → Bool
  | [], [] => true
  | a :: l, b :: m => same1 a b && sameL l m
  | _, _ => false

theorem sameL_eq : ∀ {l m : List V}, sameL l m = true → l = m
  | [], [], _ => rfl
  | [], _ :: _, h => by simp [sameL] at h
  | _ :: _, [], h => by simp [sameL] at h
  | a :: l, b :: m, h => by
    simp only [sameL, Bool.and_eq_true] at h
    rw [same1_eq h.1, sameL_eq h.2]

def sameV : V → V → Bool
  | .tuple l, .tuple m => sameL l m
  | a, b => same1 a b

theorem sameV_eq {a b : V} (h : sameV a b = true) : a = b := by
  unfold sameV at h
  split at h
  · rw [sameL_eq h]
  · exact same1_eq h

def findM : MC → Nat → Option MC
  | .seq a b, l =>
    match findM a l with
    | some rest => some (.seq rest b)
    | none => findM b l
  | .label l', l => if l' == l then some .skip else none
  | _, _ => none

def mcAt (fns : FuncId → Option FnE) : Loc → Option (Nat × MC)
  | .fn g => (fns g).map fun f => (f.n, f.m)
  | .a l => (match mcAt fns l with
    | some (n, .seq a _) => some (n, a)
    | some (n, .cond _ a _) => some (n, a)
    | some (n, .block _ a) => some (n, a)
    | some (n, .loop a) => some (n, a)
    | some (n, .scope a) => some (n, a)
    | some (n, .range _ _ a _) => some (n, a)
    | _ => none)
  | .b l => (match mcAt fns l with
    | some (n, .seq _ b) => some (n, b)
    | some (n, .cond _ _ b) => some (n, b)
    | some (n, .range _ _ _ b) => some (n, b)
    | _ => none)
  | .lab l k => (match mcAt fns l with
    | some (n, m) => (findM m k).map fun x => (n, x)
    | none => none)

section
variable (P : Program) (fns : FuncId → Option FnE) (ext : FuncId → List V → CH → Option (V × CH)) (ex : Task → CE → CH → Option Res)

def run1 (r : Option Nat) (d : Option Tmp) (m : MOp) (e : CE) (h : CH) : Option (CE × CH) :=
  match disp P m with
  | ⟨f⟩ => match f e.toE.ev (h.toH P) with
    | .pure v => some (e.put d v, h)
    | .act v H' bs is => some (e.put d v, h.sync H' bs is)
    | .call fv args => (match ex (.inv fv args) e h with
      | some res => some (e.put d res.v, res.h)
      | none => none)
    | .dfr (.fn (.func g) fi ca) args => (match r with
      | none => some (({ e with ds := .call (.fn (.func g) fi ca) args :: e.ds } : CE).put d (.tuple []), h)
      | some _ => none)
    | .recov => (match r with
      | none => some (e.put d .nilif, h)
      | some _ => none)
    | _ => none

/-- The value of what leaves the heap alone. -/
def valM (m : MOp) (e : CE) (h : CH) : Option V :=
  match disp P m with
  | ⟨f⟩ => match f e.toE.ev (h.toH P) with
    | .pure v => some v
    | .call fv args => (match ex (.inv fv args) e h with
      | some res => (match res.nt with
        | true => some res.v
        | false => none)
      | none => none)
    | _ => none

def lookM (m : MOp) (e : CE) (h : CH) : Option V :=
  match disp P m with
  | ⟨f⟩ => match f e.toE.ev (h.toH P) with
    | .pure v => some v
    | .act v _ _ _ => some v
    | _ => none

def gvalM (g : Gd) (e : CE) (x : Option V) : Option V :=
  match g with
  | none => x
  | some (s, w) => (match gval e.toE s w with
    | none => none
    | some false => some (.tuple [])
    | some true => x)

def ckR (n : Bool) (g : Gd) (d : Option Tmp) (m : MOp) (e : CE) (h : CH) : Bool :=
  match gvalM g e (match n with | true => valM P ex m e h | false => lookM P m e h) with
  | none => false
  | some v => (match d with
    | none => true
    | some d => sameV v (e.toE.t d))

def mi_op (r : Option Nat) (e : CE) (h : CH) (d : Option Tmp) (m : MOp) : Option (CE × CH) := run1 P ex r d m e h
def mi_gd (r : Option Nat) (e : CE) (h : CH) (s : Option Tmp) (w : Bool) (d : Option Tmp) (m : MOp) : Option (CE × CH) :=
  (match gval e.toE s w with
    | none => none
    | some false => some (e.put d (.tuple []), h)
    | some true => run1 P ex r d m e h)
def mi_nt (e : CE) (h : CH) (g : Gd) (d : Option Tmp) (m : MOp) : Option (CE × CH) :=
  (match gvalM g e (valM P ex m e h) with
    | none => none
    | some v => some (e.put d v, h))
def mi_ck (e : CE) (h : CH) (n : Bool) (g : Gd) (d : Option Tmp) (m : MOp) : Option (CE × CH) :=
  (match ckR P ex n g d m e h with
    | true => some (e, h)
    | false => none)
def mi1 (r : Option Nat) (i : MI) (e : CE) (h : CH) : Option (CE × CH) :=
  @MI.casesOn (fun _ => Option (CE × CH)) i (mi_op P ex r e h) (mi_gd P ex r e h) (mi_nt P ex e h) (mi_ck P ex e h)

def runMI (r : Option Nat) : List MI → CE → CH → Option (CE × CH)
  | [], e, h => some (e, h)
  | i :: l, e, h => (match mi1 P ex r i e h with
    | some (e', h') => runMI r l e' h'
    | none => none)

def xOf : Code → Option X
  | .exit i => some (.exit i)
  | .goto l => some (.goto l)
  | .ret => some .ret
  | _ => none

theorem xOf_spec {c : Code} {x : X} (h : xOf c = some x) : some c = x.code ∧ x ≠ .normal := by
  cases c <;> simp [xOf] at h <;> subst h <;> simp [X.code]

def CH.marked (h : CH) : CH := { h with lc := h.nc, li := h.ni, ll := h.nl, ld := h.nd }

/-- A call's end: what it made for itself is forgotten, where that may be. -/
def fin (h : CH) : Option Res → Option Res
  | none => none
  | some res => if res.v.flat && decide (h.nc ≤ res.h.lc) && decide (h.ni ≤ res.h.li) && decide (h.nl ≤ res.h.ll) && decide (h.nd ≤ res.h.ld) then some { res with h := h, nt := true }
    else some { res with h := { res.h with lc := min res.h.lc h.lc, li := min res.h.li h.li, ll := min res.h.ll h.ll, ld := min res.h.ld h.ld }, nt := false }

def thenR (a : Option Res) (k : CE → CH → Option Res) : Option Res :=
  match a with
  | some { x := .normal, e := e, h := h, .. } => k e h
  | x => x

def setAllC (t : Tr V) : List Tmp → List V → Tr V
  | p :: ps, v :: vs => setAllC (t.up p (some v)) ps vs
  | _, _ => t

def resC (t : Tr V) (h : CH) (rs : List ResultVar) : Option V := (resVals P (slots t) (h.toH P) rs).map oneOr

def runRange (e : CE) (nl : Nat) (e' : CE) : Option Res → Option Res
  | none => none
  | some res => match res.h.lps.get nl with
    | none => none
    | some rec => match rec.st with
      | .busy => none
      | _ => match rec.pend with
        | none => some ⟨.normal, .undef, e', res.h.putLp nl { rec with st := .exhausted }, false⟩
        | some c => match xOf c with
          | some x => some ⟨x, .undef, e', res.h.putLp nl { rec with st := .exhausted }, false⟩
          | none => none

def hasBody (g : FuncId) : Bool :=
  match P.funcs[g]? with
  | none => false
  | some fn => !(fn.name == "runtime.NumGoroutine") && fn.body.isSome

def stepT : Task → CE → CH → Option Res
  | .code n r L m, e, h =>
    (match m with
    | .skip => some ⟨.normal, .undef, e, h, false⟩
    | .label _ => some ⟨.normal, .undef, e, h, false⟩
    | .reg l => (match runMI P ex r l e h with
      | some (e', h') => some ⟨.normal, .undef, e', h', false⟩
      | none => none)
    | .seq a b => thenR (ex (.code n r (.a L) a) e h) fun e h => ex (.code n r (.b L) b) e h
    | .cond c a b => (match e.toE.ev c with
      | .bool true => ex (.code n r (.a L) a) e h
      | .bool false => ex (.code n r (.b L) b) e h
      | _ => none)
    | .block id a => (match ex (.code n r (.a L) a) e h with
      | some ⟨.exit j, v, e', h', _⟩ => if j = id then some ⟨.normal, v, e', h', false⟩ else some ⟨.exit j, v, e', h', false⟩
      | x => x)
    | .loop a => ex (.loop n r (.a L) a) e h
    | .scope a => ex (.scope n r (.a L) a (.a L) a) e h
    | .range g _ _ _ => (match r with
      | none => runRange e h.nl { e with ds := .col h.nd :: e.ds } (ex (.inv (e.toE.ev g) [.fn (.yield h.nl) [] []]) e (h.pushDs.pushLp ⟨.ready, none, e.t, n, L, h.nd⟩))
      | some l0 => (match h.lps.get l0 with
        | none => none
        | some r0 => runRange e h.nl e (ex (.inv (e.toE.ev g) [.fn (.yield h.nl) [] []]) e (h.pushLp ⟨.ready, none, e.t, n, L, r0.dfr⟩))))
    | .exit id => some ⟨.exit id, .undef, e, h, false⟩
    | .goto l => some ⟨.goto l, .undef, e, h, false⟩
    | .ret => some ⟨.ret, .undef, e, h, false⟩
    | .refuse => none)
  | .loop n r L m, e, h => thenR (ex (.code n r L m) e h) fun e h => ex (.loop n r L m) e h
  | .scope n r L mb Lc mc, e, h =>
    (match ex (.code n r Lc mc) e h with
    | some ⟨.goto l, v, e', h', _⟩ => (match findM mb l with
      | some rest => ex (.scope n r L mb (.lab L l) rest) e' h'
      | none => some ⟨.goto l, v, e', h', false⟩)
    | x => x)
  | .call g args, e, h =>
    (match fns g with
    | none => none
    | some f => (match Nat.ble args.length f.n with
      | false => none
      | true => (match ex (.code f.n none (.fn g) f.m) ⟨setAllC .nil (List.range args.length) args, []⟩ h.marked with
        | some ⟨.normal, _, e', h', _⟩ => fin h (ex (.leave f.rs e'.ds) e' h')
        | some ⟨.ret, _, e', h', _⟩ => fin h (ex (.leave f.rs e'.ds) e' h')
        | _ => none)))
  | .leave rs [], e, h => (resC P e.t h rs).map fun v => ⟨.normal, v, e, h, false⟩
  | .leave rs (.col j :: ds), e, h => if (h.ds.get j).getD false then ex (.leave rs ds) e (h.dropDs j) else none
  | .leave rs (.call (.fn (.func g) fi ca) args :: ds), e, h => (match fns g with
    | none => none
    | some _ => (match ex (.call g (fi ++ args ++ ca)) e h with
      | some res => ex (.leave rs ds) e res.h
      | none => none))
  | .leave _ (.call _ _ :: _), _, _ => none
  | .inv (.fn (.func g) fi ca) args, e, h =>
    (match ext g (fi ++ args ++ ca) h with
    | some (v, h') => some ⟨.normal, v, e, h', false⟩
    | none => ex (.call g (fi ++ args ++ ca)) e h)
  | .inv (.fn (.yield l) [] []) args, e, h =>
    (match h.lps.get l with
    | none => none
    | some rec =>
      match rec.st with
      | .ready =>
        (match mcAt fns rec.loc with
        | some (n, .range _ ps asg body) =>
          if n == rec.n && ps.length == args.length then
          (match ex (.code rec.n (some l) (.a rec.loc) asg) ⟨setAllC rec.t ps args, []⟩ h with
          | some ⟨.normal, _, e1, h1, _⟩ =>
            (match h1.lps.get l with
            | none => none
            | some rec1 => match rec1.st with
              | .ready => (match ex (.code rec.n (some l) (.b rec.loc) body) e1 (h1.putLp l { rec1 with st := .busy }) with
                | none => none
                | some res => (match res.h.lps.get l with
                  | none => none
                  | some rec2 => (match res.x with
                    | .normal => some ⟨.normal, .bool true, e, res.h.putLp l { rec2 with st := .ready, pend := none }, false⟩
                    | x => some ⟨.normal, .bool false, e, res.h.putLp l { rec2 with st := .done, pend := x.code }, false⟩)))
              | _ => none)
          | _ => none)
          else none
        | _ => none)
      | _ => none)
  | .inv _ _, _, _ => none

def sf_nrm (e : CE) (h : CH) : Option Res := some ⟨.normal, .undef, e, h, false⟩
def sf_nrm1 (e : CE) (h : CH) (_ : Nat) : Option Res := some ⟨.normal, .undef, e, h, false⟩
def sf_reg (r : Option Nat) (e : CE) (h : CH) (l : List MI) : Option Res := (match runMI P ex r l e h with
      | some (e', h') => some ⟨.normal, .undef, e', h', false⟩
      | none => none)
def sf_seq (n : Nat) (r : Option Nat) (L : Loc) (e : CE) (h : CH) (a b : MC) : Option Res := thenR (ex (.code n r (.a L) a) e h) fun e h => ex (.code n r (.b L) b) e h
def sf_cond (n : Nat) (r : Option Nat) (L : Loc) (e : CE) (h : CH) (c : Operand) (a b : MC) : Option Res := (match e.toE.ev c with
      | .bool true => ex (.code n r (.a L) a) e h
      | .bool false => ex (.code n r (.b L) b) e h
      | _ => none)
def sf_block (n : Nat) (r : Option Nat) (L : Loc) (e : CE) (h : CH) (id : Nat) (a : MC) : Option Res := (match ex (.code n r (.a L) a) e h with
      | some ⟨.exit j, v, e', h', _⟩ => if j = id then some ⟨.normal, v, e', h', false⟩ else some ⟨.exit j, v, e', h', false⟩
      | x => x)
def sf_loop0 (n : Nat) (r : Option Nat) (L : Loc) (e : CE) (h : CH) (a : MC) : Option Res := ex (.loop n r (.a L) a) e h
def sf_scope0 (n : Nat) (r : Option Nat) (L : Loc) (e : CE) (h : CH) (a : MC) : Option Res := ex (.scope n r (.a L) a (.a L) a) e h
def sf_range (n : Nat) (r : Option Nat) (L : Loc) (e : CE) (h : CH) (g : Operand) (_ : List Tmp) (_ _ : MC) : Option Res := (match r with
      | none => runRange e h.nl { e with ds := .col h.nd :: e.ds } (ex (.inv (e.toE.ev g) [.fn (.yield h.nl) [] []]) e (h.pushDs.pushLp ⟨.ready, none, e.t, n, L, h.nd⟩))
      | some l0 => (match h.lps.get l0 with
        | none => none
        | some r0 => runRange e h.nl e (ex (.inv (e.toE.ev g) [.fn (.yield h.nl) [] []]) e (h.pushLp ⟨.ready, none, e.t, n, L, r0.dfr⟩))))
def sf_exit (e : CE) (h : CH) (id : Nat) : Option Res := some ⟨.exit id, .undef, e, h, false⟩
def sf_goto (e : CE) (h : CH) (l : Nat) : Option Res := some ⟨.goto l, .undef, e, h, false⟩
def sf_ret (e : CE) (h : CH) : Option Res := some ⟨.ret, .undef, e, h, false⟩
structure XC where
  f : (Task → CE → CH → Option Res) → Nat → Option Nat → Loc → CE → CH → Option Res
def dispC (m : MC) : XC :=
  @MC.casesOn (fun _ => XC) m ⟨fun _ _ _ _ e h => sf_nrm e h⟩ (fun l => ⟨fun ex _ r _ e h => sf_reg P ex r e h l⟩) (fun a b => ⟨fun ex n r L e h => sf_seq ex n r L e h a b⟩) (fun c a b => ⟨fun ex n r L e h => sf_cond ex n r L e h c a b⟩)
    (fun id a => ⟨fun ex n r L e h => sf_block ex n r L e h id a⟩) (fun a => ⟨fun ex n r L e h => sf_loop0 ex n r L e h a⟩) (fun f ps a b => ⟨fun ex n r L e h => sf_range ex n r L e h f ps a b⟩) (fun a => ⟨fun ex n r L e h => sf_scope0 ex n r L e h a⟩)
    (fun l => ⟨fun _ _ _ _ e h => sf_nrm1 e h l⟩) (fun id => ⟨fun _ _ _ _ e h => sf_exit e h id⟩) (fun l => ⟨fun _ _ _ _ e h => sf_goto e h l⟩) ⟨fun _ _ _ _ e h => sf_ret e h⟩ ⟨fun _ _ _ _ _ _ => none⟩
def sf_code (e : CE) (h : CH) (n : Nat) (r : Option Nat) (L : Loc) (m : MC) : Option Res :=
  match dispC P m with
  | ⟨f⟩ => f ex n r L e h
def sf_scope (e : CE) (h : CH) (n : Nat) (r : Option Nat) (L : Loc) (mb : MC) (Lc : Loc) (mc : MC) : Option Res :=
    (match ex (.code n r Lc mc) e h with
    | some ⟨.goto l, v, e', h', _⟩ => (match findM mb l with
      | some rest => ex (.scope n r L mb (.lab L l) rest) e' h'
      | none => some ⟨.goto l, v, e', h', false⟩)
    | x => x)
def sf_loop (e : CE) (h : CH) (n : Nat) (r : Option Nat) (L : Loc) (m : MC) : Option Res := thenR (ex (.code n r L m) e h) fun e h => ex (.loop n r L m) e h
def sf_call (e : CE) (h : CH) (g : FuncId) (args : List V) : Option Res :=
    (match fns g with
    | none => none
    | some f => (match Nat.ble args.length f.n with
      | false => none
      | true => (match ex (.code f.n none (.fn g) f.m) ⟨setAllC .nil (List.range args.length) args, []⟩ h.marked with
        | some ⟨.normal, _, e', h', _⟩ => fin h (ex (.leave f.rs e'.ds) e' h')
        | some ⟨.ret, _, e', h', _⟩ => fin h (ex (.leave f.rs e'.ds) e' h')
        | _ => none)))
def sf_inv (e : CE) (h : CH) (fv : V) (args : List V) : Option Res := stepT P fns ext ex (.inv fv args) e h
def sf_leave (e : CE) (h : CH) (rs : List ResultVar) (ds : List Dfr) : Option Res := stepT P fns ext ex (.leave rs ds) e h
def stepF (t : Task) (e : CE) (h : CH) : Option Res :=
  @Task.casesOn (fun _ => Option Res) t (sf_code P ex e h) (sf_scope ex e h) (sf_loop ex e h) (sf_call fns ex e h) (sf_inv P fns ext ex e h) (sf_leave P fns ext ex e h)

theorem stepF_eq : stepF P fns ext ex = stepT P fns ext ex := by
  funext t e h
  cases t with
  | code n r L m => cases m <;> rfl
  | scope => rfl
  | loop => rfl
  | call => rfl
  | inv => rfl
  | leave => rfl

def exec : Nat → Task → CE → CH → Option Res := fun n => Nat.rec (fun _ _ _ => none) (fun _ ih => stepF P fns ext ih) n

def At (n : Nat) (L : Loc) (m : MC) (c : Code) : Prop := codeAt P L = some c ∧ (∃ o, mcode P o c = some m) ∧ Code.okN n P.globals.size c = true

structure ExSound : Prop where
  keeps : ∀ t e h res, ex t e h = some res → Keeps h res.h
  nt : ∀ fv args e h res, ex (.inv fv args) e h = some res → res.nt = true → res.h.toH P = h.toH P
  ntc : ∀ g args e h res, ex (.call g args) e h = some res → res.nt = true → res.h.toH P = h.toH P
  code : ∀ n r mk L m c e h res, ex (.code n r L m) e h = some res → At P n L m c → ∀ Q : Post, Q res.x res.e.toE (res.h.toH P) → Sm P n ⟨r, mk⟩ c Q e.toE (h.toH P)
  scope : ∀ n r mk L mb cb Lc mc cc e h res, ex (.scope n r L mb Lc mc) e h = some res → At P n L mb cb → At P n Lc mc cc → ∀ Q : Post, Q res.x res.e.toE (res.h.toH P) → ∃ k, scopeN cb (fun c Q e H => Sm P n ⟨r, mk⟩ c Q e H) Q k cc e.toE (h.toH P)
  loop : ∀ n r mk L m c e h res, ex (.loop n r L m) e h = some res → At P n L m c → ∀ Q : Post, Q res.x res.e.toE (res.h.toH P) → ∃ k, loopN (fun Q e H => Sm P n ⟨r, mk⟩ c Q e H) Q k e.toE (h.toH P)
  call : ∀ g args e h res, ex (.call g args) e h = some res → ∀ K : V → Heap → Prop, K res.v (res.h.toH P) → (fns g).isSome = true ∧ CallS P g args (h.toH P) K
  inv : ∀ fv args e h res, ex (.inv fv args) e h = some res → ∀ K : V → Heap → Prop, K res.v (res.h.toH P) → InvS P fv args (h.toH P) K
  leave : ∀ rs ds e h res, ex (.leave rs ds) e h = some res → ∀ K : V → Heap → Prop, K res.v (res.h.toH P) → leaveR P rs e.toE.t K ds (h.toH P)

structure ExtSound : Prop where
  inv : ∀ g fi args ca h v h', ext g (fi ++ args ++ ca) h = some (v, h') → ∀ K : V → Heap → Prop, K v (h'.toH P) → InvS P (.fn (.func g) fi ca) args (h.toH P) K
  keeps : ∀ g args h v h', ext g args h = some (v, h') → Keeps h h'

def FnsOK : Prop := ∀ g f, fns g = some f → FnOK P g f.n f.rs f.m
end

section
variable {P : Program} {fns : FuncId → Option FnE} {ext : FuncId → List V → CH → Option (V × CH)} {ex : Task → CE → CH → Option Res}

theorem mcode_inv {o : Orc} {c : Code} {m : MC} (h : mcode P o c = some m) : match m with
    | .skip => c = .skip
    | .reg l => ∃ id ops d, c = .region id ops d ∧ regMI P ops (o.at id).1 (o.at id).2 d = some l
    | .seq x y => ∃ a b, c = .seq a b ∧ mcode P o a = some x ∧ mcode P o b = some y
    | .cond d x y => ∃ a b, c = .cond d a b ∧ mcode P o a = some x ∧ mcode P o b = some y
    | .block id x => ∃ a, c = .block id a ∧ mcode P o a = some x
    | .loop x => ∃ a, c = .loop a ∧ mcode P o a = some x
    | .scope x => ∃ a, c = .scope a ∧ mcode P o a = some x
    | .range f ps x y => ∃ ps' a b, c = .rangeFunc f ps' a b ∧ ps'.toList = ps ∧ mcode P o a = some x ∧ mcode P o b = some y
    | .label l => c = .label l
    | .exit l => c = .exit l
    | .goto l => c = .goto l
    | .ret => c = .ret
    | .refuse => ∃ s, c = .refuse s := by
  cases c <;> simp only [mcode, Option.map_eq_some_iff] at h
  case seq a b =>
    split at h
    · rename_i x y hx hy; cases h; exact ⟨_, _, rfl, hx, hy⟩
    · cases h
  case cond d a b =>
    split at h
    · rename_i x y hx hy; cases h; exact ⟨_, _, rfl, hx, hy⟩
    · cases h
  case rangeFunc f ps a b =>
    split at h
    · rename_i x y hx hy; cases h; exact ⟨_, _, _, rfl, rfl, hx, hy⟩
    · cases h
  case region id ops d => obtain ⟨l, hl, h⟩ := h; cases h; exact ⟨_, _, _, rfl, hl⟩
  case block id a => obtain ⟨l, hl, h⟩ := h; cases h; exact ⟨_, rfl, hl⟩
  case loop a => obtain ⟨l, hl, h⟩ := h; cases h; exact ⟨_, rfl, hl⟩
  case scope a => obtain ⟨l, hl, h⟩ := h; cases h; exact ⟨_, rfl, hl⟩
  all_goals (cases h; first | rfl | exact ⟨_, rfl⟩)

theorem findM_spec {o : Orc} {l : Nat} : ∀ {m : MC} {c : Code}, mcode P o c = some m → match findM m l with
    | none => findLabel c l = none
    | some x => ∃ rest, findLabel c l = some rest ∧ mcode P o rest = some x := by
  intro m
  induction m with
  | seq x y ihx ihy =>
    intro c h
    obtain ⟨a, b, rfl, hx, hy⟩ := mcode_inv h
    have h1 := ihx hx
    have h2 := ihy hy
    simp only [findM, findLabel]
    cases ha : findM x l with
    | some xr =>
      rw [ha] at h1
      obtain ⟨rest, hr, hm⟩ := h1
      simp only [hr]
      exact ⟨_, rfl, by simp only [mcode, hm, hy]⟩
    | none =>
      rw [ha] at h1
      simp only at h1
      simp only [h1]
      exact h2
  | label l' =>
    intro c h
    have := mcode_inv h
    simp only at this
    subst this
    simp only [findM, findLabel]
    split <;> rename_i h <;> split at h <;> simp_all [mcode]
  | skip => intro c h; have := mcode_inv h; simp only at this; subst this; rfl
  | reg => intro c h; obtain ⟨_, _, _, rfl, _⟩ := mcode_inv h; rfl
  | cond => intro c h; obtain ⟨_, _, rfl, _⟩ := mcode_inv h; rfl
  | block => intro c h; obtain ⟨_, rfl, _⟩ := mcode_inv h; rfl
  | loop => intro c h; obtain ⟨_, rfl, _⟩ := mcode_inv h; rfl
  | scope => intro c h; obtain ⟨_, rfl, _⟩ := mcode_inv h; rfl
  | range => intro c h; obtain ⟨_, _, _, rfl, _⟩ := mcode_inv h; rfl
  | exit => intro c h; have := mcode_inv h; simp only at this; subst this; rfl
  | goto => intro c h; have := mcode_inv h; simp only at this; subst this; rfl
  | ret => intro c h; have := mcode_inv h; simp only at this; subst this; rfl
  | refuse => intro c h; obtain ⟨_, rfl⟩ := mcode_inv h; rfl

theorem at_seq {n : Nat} {L : Loc} {x y : MC} {c : Code} (h : At P n L (.seq x y) c) : ∃ a b, c = .seq a b ∧ At P n (.a L) x a ∧ At P n (.b L) y b := by
  obtain ⟨h1, ⟨o, h2⟩, h3⟩ := h
  obtain ⟨a, b, rfl, hx, hy⟩ := mcode_inv h2
  simp only [Code.okN, Bool.and_eq_true] at h3
  exact ⟨a, b, rfl, ⟨by simp only [codeAt, h1], ⟨o, hx⟩, h3.1⟩, ⟨by simp only [codeAt, h1], ⟨o, hy⟩, h3.2⟩⟩
theorem at_cond {n : Nat} {L : Loc} {d : Operand} {x y : MC} {c : Code} (h : At P n L (.cond d x y) c) : ∃ a b, c = .cond d a b ∧ okG P.globals.size d = true ∧ At P n (.a L) x a ∧ At P n (.b L) y b := by
  obtain ⟨h1, ⟨o, h2⟩, h3⟩ := h
  obtain ⟨a, b, rfl, hx, hy⟩ := mcode_inv h2
  simp only [Code.okN, Bool.and_eq_true] at h3
  exact ⟨a, b, rfl, h3.1.1, ⟨by simp only [codeAt, h1], ⟨o, hx⟩, h3.1.2⟩, ⟨by simp only [codeAt, h1], ⟨o, hy⟩, h3.2⟩⟩
theorem at_block {n : Nat} {L : Loc} {id : Nat} {x : MC} {c : Code} (h : At P n L (.block id x) c) : ∃ a, c = .block id a ∧ At P n (.a L) x a := by
  obtain ⟨h1, ⟨o, h2⟩, h3⟩ := h
  obtain ⟨a, rfl, hx⟩ := mcode_inv h2
  simp only [Code.okN] at h3
  exact ⟨a, rfl, ⟨by simp only [codeAt, h1], ⟨o, hx⟩, h3⟩⟩
theorem at_loop {n : Nat} {L : Loc} {x : MC} {c : Code} (h : At P n L (.loop x) c) : ∃ a, c = .loop a ∧ At P n (.a L) x a := by
  obtain ⟨h1, ⟨o, h2⟩, h3⟩ := h
  obtain ⟨a, rfl, hx⟩ := mcode_inv h2
  simp only [Code.okN] at h3
  exact ⟨a, rfl, ⟨by simp only [codeAt, h1], ⟨o, hx⟩, h3⟩⟩
theorem at_scope {n : Nat} {L : Loc} {x : MC} {c : Code} (h : At P n L (.scope x) c) : ∃ a, c = .scope a ∧ At P n (.a L) x a := by
  obtain ⟨h1, ⟨o, h2⟩, h3⟩ := h
  obtain ⟨a, rfl, hx⟩ := mcode_inv h2
  simp only [Code.okN] at h3
  exact ⟨a, rfl, ⟨by simp only [codeAt, h1], ⟨o, hx⟩, h3⟩⟩
theorem at_range {n : Nat} {L : Loc} {f : Operand} {ps : List Tmp} {x y : MC} {c : Code} (h : At P n L (.range f ps x y) c) : ∃ ps' a b, c = .rangeFunc f ps' a b ∧ ps'.toList = ps ∧ okG P.globals.size f = true ∧ (∀ p ∈ ps'.toList, p < n) ∧ codeAt P L = some (.rangeFunc f ps' a b) ∧ At P n (.a L) x a ∧ At P n (.b L) y b := by
  obtain ⟨h1, ⟨o, h2⟩, h3⟩ := h
  obtain ⟨⟨ps'⟩, a, b, rfl, hp, hx, hy⟩ := mcode_inv h2
  simp only [Code.okN, Bool.and_eq_true] at h3
  exact ⟨_, a, b, rfl, hp, h3.1.1.1, fun p hp' => by have := List.all_eq_true.1 h3.1.1.2 p hp'; simpa using this, h1, ⟨by simp only [codeAt, h1], ⟨o, hx⟩, h3.1.2⟩, ⟨by simp only [codeAt, h1], ⟨o, hy⟩, h3.2⟩⟩
theorem at_lab {n : Nat} {L : Loc} {m x : MC} {l : Nat} {c : Code} (h : At P n L m c) (hf : findM m l = some x) : ∃ rest, findLabel c l = some rest ∧ At P n (.lab L l) x rest := by
  obtain ⟨h1, ⟨o, h2⟩, h3⟩ := h
  have := findM_spec (l := l) h2
  rw [hf] at this
  obtain ⟨rest, hr, hm⟩ := this
  exact ⟨rest, hr, by simp only [codeAt, h1, Option.bind_some, hr], ⟨o, hm⟩, okN_findLabel h3 hr⟩
theorem at_nolab {n : Nat} {L : Loc} {m : MC} {l : Nat} {c : Code} (h : At P n L m c) (hf : findM m l = none) : findLabel c l = none := by
  obtain ⟨h1, ⟨o, h2⟩, h3⟩ := h
  have := findM_spec (l := l) h2
  rw [hf] at this
  exact this

theorem mcAt_spec (hF : FnsOK P fns) : ∀ {L : Loc} {n : Nat} {m : MC}, mcAt fns L = some (n, m) → ∃ c, At P n L m c
  | .fn g, n, m, h => by
    simp only [mcAt, Option.map_eq_some_iff, Prod.mk.injEq] at h
    obtain ⟨f, hf, rfl, rfl⟩ := h
    obtain ⟨fn, c, o, h1, h2, h3, h4, h5, h6, h7⟩ := (hF g f hf).ex
    exact ⟨c, by simp only [codeAt, h1, Option.bind_some, h2], ⟨o, h3⟩, h4⟩
  | .a l, n, m, h => by
    simp only [mcAt] at h
    split at h
    all_goals first | (cases h; done) | (rename_i hl; cases h; obtain ⟨c, hc⟩ := mcAt_spec hF hl)
    · obtain ⟨a, b, _, ha, _⟩ := at_seq hc; exact ⟨a, ha⟩
    · obtain ⟨a, b, _, _, ha, _⟩ := at_cond hc; exact ⟨a, ha⟩
    · obtain ⟨a, _, ha⟩ := at_block hc; exact ⟨a, ha⟩
    · obtain ⟨a, _, ha⟩ := at_loop hc; exact ⟨a, ha⟩
    · obtain ⟨a, _, ha⟩ := at_scope hc; exact ⟨a, ha⟩
    · obtain ⟨_, a, b, _, _, _, _, _, ha, _⟩ := at_range hc; exact ⟨a, ha⟩
  | .b l, n, m, h => by
    simp only [mcAt] at h
    split at h
    all_goals first | (cases h; done) | (rename_i hl; cases h; obtain ⟨c, hc⟩ := mcAt_spec hF hl)
    · obtain ⟨a, b, _, _, hb⟩ := at_seq hc; exact ⟨b, hb⟩
    · obtain ⟨a, b, _, _, _, hb⟩ := at_cond hc; exact ⟨b, hb⟩
    · obtain ⟨_, a, b, _, _, _, _, _, _, hb⟩ := at_range hc; exact ⟨b, hb⟩
  | .lab l k, n, m, h => by
    simp only [mcAt] at h
    split at h
    · rename_i n' m' hl
      simp only [Option.map_eq_some_iff, Prod.mk.injEq] at h
      obtain ⟨x, hx, rfl, rfl⟩ := h
      obtain ⟨c, hc⟩ := mcAt_spec hF hl
      obtain ⟨rest, _, ha⟩ := at_lab hc hx
      exact ⟨rest, ha⟩
    · cases h

theorem run1_sound (hs : ExSound P fns ex) {r : Option Nat} {mk : Marks} {d : Option Tmp} {m : MOp} {e e' : CE} {h h' : CH} (he : run1 P ex r d m e h = some (e', h')) {K : Env → Heap → Prop} (hK : K e'.toE (h'.toH P)) : MR P ⟨r, mk⟩ e.toE d K (h.toH P) (mstep P e.toE.ev m (h.toH P)) := by
  unfold run1 at he
  have hd := disp_inv (P := P) (ρ := e.toE.ev) (m := m) (H := h.toH P)
  simp only at he
  split at he
  · rename_i v hst
    rw [hst] at hd
    simp only at hd
    cases he
    rw [CE.toE_put] at hK
    rw [hd]
    exact hK
  · rename_i v H' bs is hst
    rw [hst] at hd
    simp only at hd
    cases he
    rw [CE.toE_put, CH.toH_sync h hd.2] at hK
    rw [hd.1]
    exact hK
  · rename_i fv args hst
    rw [hst] at hd
    simp only at hd
    rw [hd]
    simp only [MR]
    split at he
    · rename_i res hres
      cases he
      rw [CE.toE_put] at hK
      exact hs.inv _ _ _ _ _ hres _ hK
    · cases he
  · rename_i g fi ca args hst
    rw [hst] at hd
    simp only at hd
    rw [hd]
    simp only [MR]
    split at he
    · cases he
      rw [CE.toE_put] at hK
      exact ⟨rfl, ⟨_, _, _, rfl⟩, hK⟩
    · cases he
  · rename_i hst
    rw [hst] at hd
    simp only at hd
    rw [hd]
    simp only [MR]
    split at he
    · cases he
      rw [CE.toE_put] at hK
      exact ⟨rfl, hK⟩
    · cases he
  · cases he

theorem valM_sound (hs : ExSound P fns ex) {m : MOp} {e : CE} {h : CH} {v : V} (hv : valM P ex m e h = some v) : EvM P e.toE (h.toH P) m v := by
  unfold valM at hv
  have hd := disp_inv (P := P) (ρ := e.toE.ev) (m := m) (H := h.toH P)
  simp only at hv
  unfold EvM
  split at hv
  · rename_i u hst
    rw [hst] at hd
    simp only at hd
    rw [hd]
    cases hv
    exact ⟨rfl, rfl⟩
  · rename_i fv args hst
    rw [hst] at hd
    simp only at hd
    rw [hd]
    split at hv
    · rename_i res hres
      split at hv
      · rename_i hnt
        cases hv
        exact hs.inv _ _ _ _ _ hres _ ⟨rfl, hs.nt _ _ _ _ _ hres hnt⟩
      · cases hv
    · cases hv
  · cases hv

theorem lookM_sound {m : MOp} {e : CE} {h : CH} {v : V} (hv : lookM P m e h = some v) : LkM P e.toE (h.toH P) m v := by
  unfold lookM at hv
  have hd := disp_inv (P := P) (ρ := e.toE.ev) (m := m) (H := h.toH P)
  simp only at hv
  unfold LkM
  split at hv
  · rename_i u hst
    rw [hst] at hd
    simp only at hd
    rw [hd]
    cases hv
    rfl
  · rename_i u H' bs is hst
    rw [hst] at hd
    simp only at hd
    rw [hd.1]
    cases hv
    rfl
  · cases hv

theorem gvalM_sound {g : Gd} {e : CE} {x : Option V} {v : V} {p : Prop} (hv : gvalM g e x = some v) (hp : x = some v → p) : GdM e.toE g v p := by
  unfold gvalM at hv
  unfold GdM
  cases g with
  | none => exact hp hv
  | some q =>
    obtain ⟨s, w⟩ := q
    simp only at hv ⊢
    split at hv
    · cases hv
    · rename_i hg
      cases hv
      exact ⟨false, hg, fun _ => rfl, fun h => by cases h⟩
    · rename_i hg
      exact ⟨true, hg, fun h => (by cases h), fun _ => hp hv⟩

theorem ckR_sound (hs : ExSound P fns ex) {n : Bool} {g : Gd} {d : Option Tmp} {m : MOp} {e : CE} {h : CH} (hc : ckR P ex n g d m e h = true) : ckM P e.toE (h.toH P) n g d m := by
  unfold ckR at hc
  unfold ckM
  split at hc
  · cases hc
  · rename_i v hv
    have key : GdM e.toE g v (if n then EvM P e.toE (h.toH P) m v else LkM P e.toE (h.toH P) m v) := by
      refine gvalM_sound hv fun hx => ?_
      cases n with
      | true => exact valM_sound hs hx
      | false => exact lookM_sound hx
    cases d with
    | none => exact ⟨v, key⟩
    | some d =>
      simp only at hc ⊢
      rw [← sameV_eq hc]
      exact key

theorem runMI_sound (hs : ExSound P fns ex) {r : Option Nat} {mk : Marks} {Q : Post} : ∀ {l : List MI} {e e' : CE} {h h' : CH}, runMI P ex r l e h = some (e', h') → Q .normal e'.toE (h'.toH P) → wpM P ⟨r, mk⟩ l (fun e H => Q .normal e H) e.toE (h.toH P)
  | [], e, e', h, h', he, hQ => by cases he; exact hQ
  | i :: l, e, e', h, h', he, hQ => by
    simp only [runMI] at he
    split at he
    · rename_i e1 h1 hr
      have ih := runMI_sound hs (mk := mk) (r := r) (l := l) he hQ
      cases i with
      | op d m => exact run1_sound hs hr ih
      | gd s w d m =>
        have hr : mi_gd P ex r e h s w d m = some (e1, h1) := hr
        unfold mi_gd at hr
        simp only [wpM]
        split at hr
        · cases hr
        · rename_i hg
          cases hr
          rw [CE.toE_put] at ih
          exact ⟨false, hg, fun _ => ih, fun h => by cases h⟩
        · rename_i hg
          exact ⟨true, hg, fun h => (by cases h), fun _ => run1_sound hs hr ih⟩
      | nt g d m =>
        have hr : mi_nt P ex e h g d m = some (e1, h1) := hr
        unfold mi_nt at hr
        simp only [wpM]
        split at hr
        · cases hr
        · rename_i v hv
          cases hr
          rw [CE.toE_put] at ih
          exact ⟨v, gvalM_sound hv fun hx => valM_sound hs hx, ih⟩
      | ck n g d m =>
        have hr : mi_ck P ex e h n g d m = some (e1, h1) := hr
        unfold mi_ck at hr
        simp only [wpM]
        split at hr
        · rename_i hc
          cases hr
          exact ⟨ckR_sound hs hc, ih⟩
        · cases hr
    · cases he

theorem slots_setAllC : ∀ (ps : List Tmp) (vs : List V) (t : Tr V), slots (setAllC t ps vs) = setAll (slots t) ps vs
  | [], vs, t => by cases vs <;> rfl
  | p :: ps, [], t => rfl
  | p :: ps, v :: vs, t => by rw [setAllC, setAll, slots_setAllC ps vs, slots_up]

theorem thenR_some {a : Option Res} {k : CE → CH → Option Res} {res : Res} (h : thenR a k = some res) :
    (∃ v e h nt, a = some ⟨.normal, v, e, h, nt⟩ ∧ k e h = some res) ∨ (a = some res ∧ res.x ≠ .normal) := by
  unfold thenR at h
  split at h
  · exact .inl ⟨_, _, _, _, rfl, h⟩
  · rename_i hn
    refine .inr ⟨h, fun hx => ?_⟩
    obtain ⟨x, v, e, h', nt⟩ := res
    simp only at hx
    subst hx
    exact hn _ _ _ _ h

theorem env0_eq (args : List V) : slots (setAllC .nil (List.range args.length) args) = (env0 args).t := by
  rw [slots_setAllC]
  have gen : ∀ (args : List V) (s : Nat) (t : Nat → V), setAll t (List.range' s args.length) args = fun j => if s ≤ j then (args[j - s]?).getD (t j) else t j := by
    intro args
    induction args with
    | nil => intro s t; funext j; simp [setAll]
    | cons a l ih =>
      intro s t
      simp only [List.length_cons, List.range'_succ, setAll]
      rw [ih]
      funext j
      by_cases h : s + 1 ≤ j
      · have e : j - s = (j - (s + 1)) + 1 := by omega
        have h2 : s ≤ j := by omega
        have h3 : j ≠ s := by omega
        simp only [h, if_true, h2, fset, h3, if_false, e, List.getElem?_cons_succ]
      · by_cases h2 : j = s
        · subst h2
          rw [if_neg h]
          simp [fset]
        · have : ¬ s ≤ j := by omega
          simp [h, this, fset, h2]
  rw [List.range_eq_range', gen]
  funext j
  simp [env0, slots, Tr.get_nil, List.getD]

theorem runRange_some {e' : CE} {nl : Nat} {e : CE} {a : Option Res} {res : Res} (h : runRange e nl e' a = some res) :
    ∃ r0 rec, a = some r0 ∧ r0.h.lps.get nl = some rec ∧ rec.st ≠ .busy ∧ res.e = e' ∧ res.h = r0.h.putLp nl { rec with st := .exhausted } ∧ ((rec.pend = none ∧ res.x = .normal) ∨ (rec.pend = res.x.code ∧ res.x ≠ .normal)) := by
  unfold runRange at h
  split at h
  · cases h
  · rename_i r0
    split at h
    · cases h
    · rename_i rec hrec
      have hcase : rec.st ≠ .busy → _ := fun hb => (⟨r0, rec, rfl, hrec, hb⟩ : ∃ r0' rec', some r0 = some r0' ∧ r0'.h.lps.get nl = some rec' ∧ rec'.st ≠ .busy)
      split at h
      · cases h
      · rename_i hb
        refine ⟨r0, rec, rfl, hrec, fun hh => hb hh, ?_⟩
        split at h
        · rename_i hp
          cases h
          exact ⟨rfl, rfl, .inl ⟨hp, rfl⟩⟩
        · rename_i c hp
          split at h
          · rename_i x hx
            cases h
            obtain ⟨h1, h2⟩ := xOf_spec hx
            exact ⟨rfl, rfl, .inr ⟨by rw [hp]; exact h1, h2⟩⟩
          · cases h

theorem agree_of_keeps {h h1 : CH} (hk : Keeps h.marked h1) (a : h.nc ≤ h1.lc) (b : h.ni ≤ h1.li) (c : h.nl ≤ h1.ll) (d : h.nd ≤ h1.ld) (f1 : ∀ b, h.nc ≤ b → (h.toH P).cs b = none) (f2 : ∀ b, h.ni ≤ b → (h.toH P).its b = none) (f3 : ∀ b, h.nl ≤ b → (h.toH P).lps b = none) (f4 : ∀ b, h.nd ≤ b → (h.toH P).ds b = false) : Agree (h.toH P) (h1.toH P) := by
  refine ⟨fun x ob hx => ?_, fun x ob hx => ?_, fun x ob hx => ?_, fun x hx => ?_⟩
  · have : x < h.nc := by
      rcases Nat.lt_or_ge x h.nc with h' | h'
      · exact h'
      · rw [f1 x h'] at hx; cases hx
    exact (hk.c.2 x (by omega)).trans hx
  · have : x < h.ni := by
      rcases Nat.lt_or_ge x h.ni with h' | h'
      · exact h'
      · rw [f2 x h'] at hx; cases hx
    exact (hk.i.2 x (by omega)).trans hx
  · have : x < h.nl := by
      rcases Nat.lt_or_ge x h.nl with h' | h'
      · exact h'
      · rw [f3 x h'] at hx; cases hx
    have e := hk.l.2 x (by omega)
    show (h1.lps.get x).map (CL.toL P) = _
    rw [e]
    exact hx
  · have : x < h.nd := by
      rcases Nat.lt_or_ge x h.nd with h' | h'
      · exact h'
      · rw [f4 x h'] at hx; cases hx
    have e := hk.d.2 x (by omega)
    show (h1.ds.get x).getD false = _
    rw [e]
    exact hx

theorem fin_sound {h h0 : CH} {g : FuncId} {args : List V} {a : Option Res} {res : Res} {K : V → Heap → Prop} (hk0 : Keeps h.marked h0) (hk : ∀ r1, a = some r1 → Keeps h0 r1.h) (hf : fin h a = some res) (hK : K res.v (res.h.toH P))
    (hc : ∀ r1, a = some r1 → ∀ K1 : V → Heap → Prop, K1 r1.v (r1.h.toH P) → CallS P g args (h.toH P) K1) : CallS P g args (h.toH P) K := by
  cases a with
  | none => cases hf
  | some r1 =>
    have h1 := hc r1 rfl (fun v H => v = r1.v ∧ H = (r1.h.toH P)) ⟨rfl, rfl⟩
    simp only [fin] at hf
    split at hf
    · rename_i hcond
      simp only [Bool.and_eq_true, decide_eq_true_eq] at hcond
      obtain ⟨⟨⟨⟨c1, c2⟩, c3⟩, c4⟩, c5⟩ := hcond
      cases hf
      refine callS_fresh fun f1 f2 f3 f4 => callS_gc h1 fun v H1 hv => .inl ⟨by rw [hv.1]; exact c1, ?_, by rw [hv.1]; exact hK⟩
      rw [hv.2]
      exact agree_of_keeps (hk0.trans (hk r1 rfl)) c2 c3 c4 c5 f1 f2 f3 f4
    · cases hf
      exact h1.mono fun v H hv => by rw [hv.1, hv.2]; exact hK

theorem keeps_fin {h h0 : CH} {a : Option Res} {res : Res} (hk0 : Keeps h.marked h0) (hk : ∀ r1, a = some r1 → Keeps h0 r1.h) (hf : fin h a = some res) : Keeps h res.h ∧ (res.nt = true → (res.h.toH P) = (h.toH P)) := by
  cases a with
  | none => cases hf
  | some r1 =>
    simp only [fin] at hf
    split at hf
    · cases hf
      exact ⟨.refl h, fun _ => rfl⟩
    · cases hf
      have k := hk0.trans (hk r1 rfl)
      refine ⟨⟨⟨Nat.min_le_right _ _, fun x hx => k.c.2 x ?_⟩, ⟨Nat.min_le_right _ _, fun x hx => k.i.2 x ?_⟩, ⟨Nat.min_le_right _ _, fun x hx => k.l.2 x ?_⟩, ⟨Nat.min_le_right _ _, fun x hx => k.d.2 x ?_⟩⟩, fun h => by cases h⟩
      all_goals (simp only at hx; omega)

theorem keeps_run1 (hs : ExSound P fns ex) {r : Option Nat} {d : Option Tmp} {m : MOp} {e e' : CE} {h h' : CH} (he : run1 P ex r d m e h = some (e', h')) : Keeps h h' := by
  unfold run1 at he
  simp only at he
  split at he
  · cases he; exact .refl _
  · cases he; exact keeps_sync _ _ _ _
  · split at he
    · rename_i res hres
      cases he
      exact hs.keeps _ _ _ _ hres
    · cases he
  · split at he
    · cases he; exact .refl _
    · cases he
  · split at he
    · cases he; exact .refl _
    · cases he
  · cases he

theorem keeps_MI (hs : ExSound P fns ex) {r : Option Nat} : ∀ {l : List MI} {e e' : CE} {h h' : CH}, runMI P ex r l e h = some (e', h') → Keeps h h'
  | [], e, e', h, h', he => by cases he; exact .refl _
  | i :: l, e, e', h, h', he => by
    simp only [runMI] at he
    split at he
    · rename_i e1 h1 hr
      have ih := keeps_MI hs (r := r) (l := l) he
      refine Keeps.trans ?_ ih
      cases i with
      | op d m => exact keeps_run1 hs (r := r) (d := d) (m := m) hr
      | gd s w d m =>
        have hr : mi_gd P ex r e h s w d m = some (e1, h1) := hr
        unfold mi_gd at hr
        split at hr
        · cases hr
        · cases hr; exact .refl _
        · exact keeps_run1 hs hr
      | nt g d m =>
        have hr : mi_nt P ex e h g d m = some (e1, h1) := hr
        unfold mi_nt at hr
        split at hr
        · cases hr
        · cases hr; exact .refl _
      | ck n g d m =>
        have hr : mi_ck P ex e h n g d m = some (e1, h1) := hr
        unfold mi_ck at hr
        split at hr
        · cases hr; exact .refl _
        · cases hr
    · cases he

theorem keeps_then (hs : ExSound P fns ex) {t : Task} {t2 : Task} {e : CE} {h : CH} {res : Res} (he : thenR (ex t e h) (fun e h => ex t2 e h) = some res) : Keeps h res.h := by
  rcases thenR_some he with ⟨v, e1, h1, nt1, ha, hb⟩ | ⟨ha, hx⟩
  · exact (hs.keeps _ _ _ _ ha).trans (hs.keeps _ _ _ _ hb)
  · exact hs.keeps _ _ _ _ ha

theorem keeps_range (hs : ExSound P fns ex) {t : Task} {e e0 e' : CE} {h h0 : CH} {nl : Nat} {res : Res} (h0k : Keeps h h0) (he : runRange e nl e' (ex t e0 h0) = some res) : Keeps h res.h := by
  obtain ⟨r0, rec, h0, h1, h2, h3, h4, h5⟩ := runRange_some he
  rw [h4]
  exact (h0k.trans (hs.keeps _ _ _ _ h0)).trans (keeps_putLp _ _ _)

theorem step_keeps_code (hs : ExSound P fns ex) (n : Nat) (r : Option Nat) (L : Loc) (m : MC) (e : CE) (h : CH) (res : Res) (he : stepT P fns ext ex (.code n r L m) e h = some res) : Keeps h res.h := by
  cases m with
  | skip => simp only [stepT] at he; cases he; exact .refl _
  | label l => simp only [stepT] at he; cases he; exact .refl _
  | exit l => simp only [stepT] at he; cases he; exact .refl _
  | goto l => simp only [stepT] at he; cases he; exact .refl _
  | ret => simp only [stepT] at he; cases he; exact .refl _
  | refuse => simp only [stepT] at he; cases he
  | reg l =>
    simp only [stepT] at he
    split at he
    · rename_i hrun
      cases he
      exact keeps_MI hs hrun
    · cases he
  | seq a b => simp only [stepT] at he; exact keeps_then hs he
  | cond c a b =>
    simp only [stepT] at he
    split at he
    · exact hs.keeps _ _ _ _ he
    · exact hs.keeps _ _ _ _ he
    · cases he
  | block id c =>
    simp only [stepT] at he
    split at he
    · rename_i hc
      have k := hs.keeps _ _ _ _ hc
      split at he <;> (cases he; exact k)
    · exact hs.keeps _ _ _ _ he
  | loop c => simp only [stepT] at he; exact hs.keeps _ _ _ _ he
  | scope c => simp only [stepT] at he; exact hs.keeps _ _ _ _ he
  | range g ps a b =>
    simp only [stepT] at he
    cases r with
    | none => exact keeps_range hs ((keeps_pushDs h).trans (keeps_pushLp _ _)) he
    | some l0 =>
      simp only at he
      split at he
      · cases he
      · exact keeps_range hs (keeps_pushLp _ _) he

theorem step_keeps_inv (hext : ExtSound P ext) (hs : ExSound P fns ex) (fv : V) (args : List V) (e : CE) (h : CH) (res : Res) (he : stepT P fns ext ex (.inv fv args) e h = some res) : Keeps h res.h ∧ (res.nt = true → res.h.toH P = h.toH P) := by
  cases fv with
  | fn f fi ca =>
    cases f with
    | func g =>
      simp only [stepT] at he
      split at he
      · rename_i hx
        cases he
        exact ⟨hext.keeps _ _ _ _ _ hx, fun h => by cases h⟩
      · exact ⟨hs.keeps _ _ _ _ he, hs.ntc _ _ _ _ _ he⟩
    | yield l =>
      cases fi with
      | cons a as => simp [stepT] at he
      | nil =>
        cases ca with
        | cons a as => simp [stepT] at he
        | nil =>
          simp only [stepT] at he
          split at he
          · cases he
          · split at he
            · split at he
              · split at he
                · split at he
                  · rename_i hrun1
                    split at he
                    · cases he
                    · split at he
                      · split at he
                        · cases he
                        · rename_i hrun2
                          split at he
                          · cases he
                          · have k := ((hs.keeps _ _ _ _ hrun1).trans (keeps_putLp _ _ _)).trans (hs.keeps _ _ _ _ hrun2)
                            split at he <;> (cases he; exact ⟨k.trans (keeps_putLp _ _ _), fun h => by cases h⟩)
                      · cases he
                  · cases he
                · cases he
              · cases he
            · cases he
    | _ => simp [stepT] at he
  | _ => simp [stepT] at he

theorem step_keeps_call (hs : ExSound P fns ex) (g : FuncId) (args : List V) (e : CE) (h : CH) (res : Res) (he : stepT P fns ext ex (.call g args) e h = some res) : Keeps h res.h ∧ (res.nt = true → res.h.toH P = h.toH P) := by
  simp only [stepT] at he
  split at he
  · cases he
  · split at he
    · cases he
    · split at he
      · rename_i hrun
        exact keeps_fin (hs.keeps _ _ _ _ hrun) (fun r1 hr1 => hs.keeps _ _ _ _ hr1) he
      · rename_i hrun
        exact keeps_fin (hs.keeps _ _ _ _ hrun) (fun r1 hr1 => hs.keeps _ _ _ _ hr1) he
      · cases he

theorem step_keeps (hext : ExtSound P ext) (hs : ExSound P fns ex) (t : Task) (e : CE) (h : CH) (res : Res) (he : stepT P fns ext ex t e h = some res) : Keeps h res.h := by
  cases t with
  | code n r L m => exact step_keeps_code hs n r L m e h res he
  | scope n r L mb Lc mc =>
    simp only [stepT] at he
    split at he
    · rename_i hc
      split at he
      · exact (hs.keeps _ _ _ _ hc).trans (hs.keeps _ _ _ _ he)
      · have k := hs.keeps _ _ _ _ hc
        cases he
        exact k
    · exact hs.keeps _ _ _ _ he
  | loop n r L m => simp only [stepT] at he; exact keeps_then hs he
  | call g args => exact (step_keeps_call hs g args e h res he).1
  | inv fv args => exact (step_keeps_inv hext hs fv args e h res he).1
  | leave rs ds =>
    cases ds with
    | nil =>
      simp only [stepT, Option.map_eq_some_iff] at he
      obtain ⟨v, _, rfl⟩ := he
      exact .refl _
    | cons d ds =>
      cases d with
      | col j =>
        simp only [stepT] at he
        split at he
        · exact (keeps_dropDs _ _).trans (hs.keeps _ _ _ _ he)
        · cases he
      | call fv args =>
        cases fv with
        | fn f fi ca =>
          cases f with
          | func g =>
            simp only [stepT] at he
            split at he
            · cases he
            · split at he
              · rename_i hr1
                exact (hs.keeps _ _ _ _ hr1).trans (hs.keeps _ _ _ _ he)
              · cases he
          | _ => simp [stepT] at he
        | _ => simp [stepT] at he

theorem step_code (hm : P.follows .mixedOrders = true) (hs : ExSound P fns ex) : ∀ n r mk L m c e h res, stepT P fns ext ex (.code n r L m) e h = some res → At P n L m c → ∀ Q : Post, Q res.x res.e.toE (res.h.toH P) → Sm P n ⟨r, mk⟩ c Q e.toE (h.toH P) := by
  intro n r mk L m c e h res he hat Q hQ
  cases m with
  | skip => have := mcode_inv hat.2.1.choose_spec; simp only at this; subst this; simp only [stepT] at he; cases he; exact sm_skip hQ
  | label l => have := mcode_inv hat.2.1.choose_spec; simp only at this; subst this; simp only [stepT] at he; cases he; exact sm_label hQ
  | exit id => have := mcode_inv hat.2.1.choose_spec; simp only at this; subst this; simp only [stepT] at he; cases he; exact sm_exit hQ
  | goto l => have := mcode_inv hat.2.1.choose_spec; simp only at this; subst this; simp only [stepT] at he; cases he; exact sm_goto hQ
  | ret => have := mcode_inv hat.2.1.choose_spec; simp only at this; subst this; simp only [stepT] at he; cases he; exact sm_ret hQ
  | refuse => simp only [stepT] at he; cases he
  | reg l =>
    simp only [stepT] at he
    split at he
    · rename_i e' h' hrun
      cases he
      obtain ⟨h1, ⟨o, h2⟩, h3⟩ := hat
      obtain ⟨id, ops, d, rfl, hl⟩ := mcode_inv h2
      exact wp_sound hm _ _ _ _ h3 (reg_sound hl (runMI_sound hs hrun hQ))
    · cases he
  | seq x y =>
    simp only [stepT] at he
    obtain ⟨a, b, rfl, h1, h2⟩ := at_seq hat
    rcases thenR_some he with ⟨v, e1, h1', nt1, ha, hb⟩ | ⟨ha, hx⟩
    · exact sm_seq (hs.code _ _ _ _ _ _ _ _ _ ha h1 _ (hs.code _ _ _ _ _ _ _ _ _ hb h2 _ hQ))
    · refine sm_seq (hs.code _ _ _ _ _ _ _ _ _ ha h1 _ ?_)
      cases hrx : res.x with
      | normal => exact absurd hrx hx
      | _ => rw [hrx] at hQ; exact hQ
  | cond d x y =>
    simp only [stepT] at he
    obtain ⟨a, b, rfl, h0, h1, h2⟩ := at_cond hat
    split at he
    · rename_i hc
      exact sm_cond h0 (by rw [hc]; exact hs.code _ _ _ _ _ _ _ _ _ he h1 _ hQ)
    · rename_i hc
      exact sm_cond h0 (by rw [hc]; exact hs.code _ _ _ _ _ _ _ _ _ he h2 _ hQ)
    · cases he
  | block id x =>
    simp only [stepT] at he
    obtain ⟨a, rfl, h1⟩ := at_block hat
    split at he
    · rename_i j v e' h' nt' hc
      split at he
      · rename_i hj
        cases he
        refine sm_block (hs.code _ _ _ _ _ _ _ _ _ hc h1 _ ?_)
        simp only [blockK, hj, if_true]
        exact hQ
      · rename_i hj
        cases he
        refine sm_block (hs.code _ _ _ _ _ _ _ _ _ hc h1 _ ?_)
        simp only [blockK, hj, if_false]
        exact hQ
    · rename_i hn
      refine sm_block (hs.code _ _ _ _ _ _ _ _ _ he h1 _ ?_)
      obtain ⟨x, v, e', h', nt'⟩ := res
      cases x with
      | exit j => exact absurd he (hn j v e' h' nt')
      | _ => exact hQ
  | loop x =>
    simp only [stepT] at he
    obtain ⟨a, rfl, h1⟩ := at_loop hat
    obtain ⟨k, hk⟩ := hs.loop _ _ mk _ _ _ _ _ _ he h1 _ hQ
    intro B w0 f a w b ks cs h1 h2 h3
    obtain ⟨x, e1, H1, f1, a1, w1, q, hle, s1, s2, harr⟩ := sm_loop k hk B w0 f a w b ks cs h1 h2 h3
    exact ⟨x, e1, H1, f1, a1, w1, q, hle, s1, s2, .of_steps (.one stepR_loop) harr⟩
  | scope x =>
    simp only [stepT] at he
    obtain ⟨a, rfl, h1⟩ := at_scope hat
    obtain ⟨k, hk⟩ := hs.scope _ _ mk _ _ _ _ _ _ _ _ _ he h1 h1 _ hQ
    exact sm_scope k hk
  | range g ps x y =>
    simp only [stepT] at he
    obtain ⟨ps', a, b, rfl, hps, hg, hpn, hcode, h1, h2⟩ := at_range hat
    cases r with
    | none =>
      simp only at he
      obtain ⟨r0, rec, h0, h1, h2, h3, h4, h5⟩ := runRange_some he
      refine sm_range hg ?_
      simp only [rangeS]
      have hinv := hs.inv _ _ _ _ _ h0 (fun _ H3 => ∃ rec, H3.lps (h.toH P).nl = some rec ∧ rec.st ≠ .busy ∧
        ((rec.pend = none ∧ Q .normal { e.toE with ds := .col (h.toH P).nd :: e.toE.ds } (H3.putLp (h.toH P).nl { rec with st := .exhausted })) ∨
         (∃ x : X, rec.pend = x.code ∧ x ≠ .normal ∧ Q x { e.toE with ds := .col (h.toH P).nd :: e.toE.ds } (H3.putLp (h.toH P).nl { rec with st := .exhausted })))) ?_
      · rw [CH.toH_pushLp, CH.toH_pushDs] at hinv
        simp only [CL.toL, hcode, rangeParts] at hinv
        exact hinv
      · refine ⟨rec.toL P, by simp only [CH.toH, h1, Option.map_some], h2, ?_⟩
        rw [h3, h4, CH.toH_putLp] at hQ
        rcases h5 with ⟨h5, h6⟩ | ⟨h5, h6⟩
        · rw [h6] at hQ; exact .inl ⟨h5, hQ⟩
        · exact .inr ⟨res.x, h5, h6, hQ⟩
    | some l0 =>
      simp only at he
      split at he
      · cases he
      · rename_i r00 hl0
        obtain ⟨r0, rec, h0, h1, h2, h3, h4, h5⟩ := runRange_some he
        refine sm_range hg ?_
        simp only [rangeS]
        refine ⟨r00.toL P, by simp only [CH.toH, hl0, Option.map_some], ?_⟩
        have hinv := hs.inv _ _ _ _ _ h0 (fun _ H3 => ∃ rec, H3.lps (h.toH P).nl = some rec ∧ rec.st ≠ .busy ∧
          ((rec.pend = none ∧ Q .normal e.toE (H3.putLp (h.toH P).nl { rec with st := .exhausted })) ∨
           (∃ x : X, rec.pend = x.code ∧ x ≠ .normal ∧ Q x e.toE (H3.putLp (h.toH P).nl { rec with st := .exhausted })))) ?_
        · rw [CH.toH_pushLp] at hinv
          simp only [CL.toL, hcode, rangeParts] at hinv
          exact hinv
        · refine ⟨rec.toL P, by simp only [CH.toH, h1, Option.map_some], h2, ?_⟩
          rw [h3, h4, CH.toH_putLp] at hQ
          rcases h5 with ⟨h5, h6⟩ | ⟨h5, h6⟩
          · rw [h6] at hQ; exact .inl ⟨h5, hQ⟩
          · exact .inr ⟨res.x, h5, h6, hQ⟩

theorem step_sound (hm : P.follows .mixedOrders = true) (hF : FnsOK P fns) (hext : ExtSound P ext) (hs : ExSound P fns ex) : ExSound P fns (stepT P fns ext ex) := by
  refine ⟨step_keeps hext hs, ?_, ?_, step_code hm hs, ?_, ?_, ?_, ?_, ?_⟩
  · exact fun fv args e h res he => (step_keeps_inv hext hs fv args e h res he).2
  · exact fun g args e h res he => (step_keeps_call hs g args e h res he).2
  · intro n r mk L mb cb Lc mc cc e h res he hb hc Q hQ
    simp only [stepT] at he
    split at he
    · rename_i l v e' h' nt' hg
      split at he
      · rename_i rest hl
        obtain ⟨rc, hr, hat⟩ := at_lab hb hl
        obtain ⟨k, hk⟩ := hs.scope _ _ mk _ _ _ _ _ _ _ _ _ he hb hat _ hQ
        refine ⟨k + 1, hs.code _ _ _ _ _ _ _ _ _ hg hc _ ?_⟩
        simp only [hr]
        exact hk
      · rename_i hl
        have hr := at_nolab hb hl
        cases he
        refine ⟨1, hs.code _ _ _ _ _ _ _ _ _ hg hc _ ?_⟩
        simp only [hr]
        exact hQ
    · rename_i hn
      refine ⟨1, hs.code _ _ _ _ _ _ _ _ _ he hc _ ?_⟩
      obtain ⟨x, v, e', h', nt'⟩ := res
      cases x with
      | goto j => exact absurd he (hn j v e' h' nt')
      | _ => exact hQ
  · intro n r mk L m c e h res he hat Q hQ
    simp only [stepT] at he
    rcases thenR_some he with ⟨v, e1, h1, nt1, ha, hb⟩ | ⟨ha, hx⟩
    · obtain ⟨k, hk⟩ := hs.loop _ _ mk _ _ _ _ _ _ hb hat _ hQ
      exact ⟨k + 1, hs.code _ _ _ _ _ _ _ _ _ ha hat _ hk⟩
    · refine ⟨1, hs.code _ _ _ _ _ _ _ _ _ ha hat _ ?_⟩
      cases hrx : res.x with
      | normal => exact absurd hrx hx
      | _ => rw [hrx] at hQ; exact hQ
  · intro g args e h res he K hK
    simp only [stepT] at he
    split at he
    · cases he
    · rename_i f hf
      refine ⟨by rw [hf]; rfl, ?_⟩
      split at he
      · cases he
      · rename_i hlen
        have hlen := Nat.le_of_ble_eq_true hlen
        obtain ⟨fn, c, o, g1, g2, g3, g4, g5, g6, g7⟩ := (hF g f hf).ex
        have hat : At P f.n (.fn g) f.m c := ⟨by simp only [codeAt, g1, Option.bind_some, g2], ⟨o, g3⟩, g4⟩
        have main : ∀ x e' h', (x = .normal ∨ x = .ret) → (∃ v nt, ex (.code f.n none (.fn g) f.m) ⟨setAllC .nil (List.range args.length) args, []⟩ h.marked = some ⟨x, v, e', h', nt⟩) → fin h (ex (.leave f.rs e'.ds) e' h') = some res → CallS P g args (h.toH P) K := by
          intro x e' h' hx ⟨v, nt, hrun⟩ hlv
          refine fin_sound (h := h) (hs.keeps _ _ _ _ hrun) (fun r1 hr1 => hs.keeps _ _ _ _ hr1) hlv hK fun r1 hr1 K1 hK1 => ?_
          have hl := leaveR_sound g6 _ (hs.leave _ _ _ _ _ hr1 K1 hK1)
          have hsm := hs.code _ _ (h.toH P).marks _ _ _ _ _ _ hrun hat (retK P fn K1) (by rcases hx with rfl | rfl <;> exact hl)
          have e0 : (⟨setAllC .nil (List.range args.length) args, []⟩ : CE).toE = env0 args := by
            simp only [CE.toE, env0_eq]; rfl
          rw [e0, ← g5] at hsm
          exact callS_of_sm g1 g2 (by rw [g5]; exact g4) (by rw [g5]; exact hlen) hsm
        split at he
        · rename_i v e' h' nt' hrun
          exact main _ e' h' (.inl rfl) ⟨v, nt', hrun⟩ he
        · rename_i v e' h' nt' hrun
          exact main _ e' h' (.inr rfl) ⟨v, nt', hrun⟩ he
        · cases he
  · intro fv args e h res he K hK
    cases fv with
    | fn f fi ca =>
      cases f with
      | func g =>
        simp only [stepT] at he
        split at he
        · rename_i v h' hx
          cases he
          exact hext.inv _ _ _ _ _ _ _ hx K hK
        · obtain ⟨h1, h2⟩ := hs.call _ _ _ _ _ he K hK
          obtain ⟨ff, hff⟩ := Option.isSome_iff_exists.1 h1
          exact inv_fn (hF g ff hff) h2
      | yield l =>
        cases fi with
        | cons a as => simp [stepT] at he
        | nil =>
          cases ca with
          | cons a as => simp [stepT] at he
          | nil =>
            simp only [stepT] at he
            split at he
            · cases he
            · rename_i rec hl
              split at he
              · rename_i hst
                split at he
                · rename_i n f ps asg body hmc
                  split at he
                  · rename_i hcond
                    simp only [Bool.and_eq_true, beq_iff_eq] at hcond
                    obtain ⟨c1, c2⟩ := hcond
                    subst c1
                    obtain ⟨c, hat⟩ := mcAt_spec hF hmc
                    obtain ⟨⟨ps'⟩, a, b, rfl, hps, hg, hpn, hcode, ha, hb⟩ := at_range hat
                    simp only at hps
                    subst hps
                    have htl : rec.toL P = ⟨rec.st, rec.pend, slots rec.t, rec.n, ⟨ps'⟩, a, b, rec.dfr⟩ := by simp only [CL.toL, hcode, rangeParts]
                    split at he
                    · rename_i v1 e1 h1 nt1 hrun1
                      split at he
                      · cases he
                      · rename_i rec1 hl1
                        split at he
                        · rename_i hst1
                          split at he
                          · cases he
                          · rename_i res2 hrun2
                            split at he
                            · cases he
                            · rename_i rec2 hl2
                              refine invS_yield_sm (rec := rec.toL P) (by simp only [CH.toH, hl, Option.map_some]) hst (by rw [htl]; simpa using c2) (by rw [htl]; exact hpn) ?_
                              rw [htl]
                              have e0 : ({ t := setAll (slots rec.t) ps' args, ds := [] } : Env) = (⟨setAllC rec.t ps' args, []⟩ : CE).toE := by
                                simp only [CE.toE, slots_setAllC]
                              simp only
                              rw [e0]
                              refine hs.code _ _ _ _ _ _ _ _ _ hrun1 ha _ ⟨rfl, rec1.toL P, by simp only [CH.toH, hl1, Option.map_some], hst1, ?_⟩
                              have := hs.code _ _ (h.toH P).marks _ _ _ _ _ _ hrun2 hb (bodyK l K) ?_
                              · rw [CH.toH_putLp] at this
                                exact this
                              · refine ⟨rec2.toL P, by simp only [CH.toH, hl2, Option.map_some], ?_⟩
                                split at he
                                · rename_i hx
                                  cases he
                                  rw [hx]
                                  rw [CH.toH_putLp] at hK
                                  exact hK
                                · rename_i hx
                                  cases he
                                  rw [CH.toH_putLp] at hK
                                  cases hxx : res2.x with
                                  | normal => exact absurd hxx hx
                                  | _ => rw [hxx] at hK; exact hK
                        · cases he
                    · cases he
                  · cases he
                · cases he
              · cases he
      | _ => simp [stepT] at he
    | _ => simp [stepT] at he
  · intro rs ds e h res he K hK
    cases ds with
    | nil =>
      simp only [stepT, resC, Option.map_map, Option.map_eq_some_iff] at he
      obtain ⟨l, hl, rfl⟩ := he
      exact ⟨l, hl, hK⟩
    | cons d ds =>
      cases d with
      | col j =>
        simp only [stepT] at he
        split at he
        · rename_i hj
          refine ⟨hj, ?_⟩
          have := hs.leave _ _ _ _ _ he K hK
          rw [CH.toH_dropDs] at this
          exact this
        · cases he
      | call fv args =>
        cases fv with
        | fn f fi ca =>
          cases f with
          | func g =>
            simp only [stepT] at he
            split at he
            · cases he
            · rename_i ff hff
              split at he
              · rename_i r1 hr1
                have hl := hs.leave _ _ _ _ _ he K hK
                exact ⟨⟨_, _, _, hF g ff hff⟩, (hs.call _ _ _ _ _ hr1 _ hl).2⟩
              · cases he
          | _ => simp [stepT] at he
        | _ => simp [stepT] at he

theorem exec_sound (hm : P.follows .mixedOrders = true) (hF : FnsOK P fns) (hext : ExtSound P ext) : ∀ n, ExSound P fns (exec P fns ext n)
  | 0 => by
    have no : ∀ t e h res, exec P fns ext 0 t e h = some res → False := fun _ _ _ _ h => by cases h
    exact ⟨fun _ _ _ _ h => (no _ _ _ _ h).elim, fun _ _ _ _ _ h => (no _ _ _ _ h).elim, fun _ _ _ _ _ h => (no _ _ _ _ h).elim, fun _ _ _ _ _ _ _ _ _ h => (no _ _ _ _ h).elim, fun _ _ _ _ _ _ _ _ _ _ _ _ h => (no _ _ _ _ h).elim, fun _ _ _ _ _ _ _ _ _ h => (no _ _ _ _ h).elim, fun _ _ _ _ _ h => (no _ _ _ _ h).elim, fun _ _ _ _ _ h => (no _ _ _ _ h).elim, fun _ _ _ _ _ h => (no _ _ _ _ h).elim⟩
  | n + 1 => by
    have := step_sound hm hF hext (exec_sound hm hF hext n)
    rw [← stepF_eq] at this
    exact this

/-- A RUN, over the blocks that it reads: its answer, over any heap that has them. -/
def answers (P : Program) (fns : FuncId → Option FnE) (ext : FuncId → List V → CH → Option (V × CH)) (n : Nat) (g : FuncId) (args : List V) (h : CH) (ans : V) : Bool :=
  match exec P fns ext n (.call g args) ⟨.nil, []⟩ h with
  | some res => sameV res.v ans
  | none => false

theorem callS_answers (hm : P.follows .mixedOrders = true) (hF : FnsOK P fns) (hext : ExtSound P ext) {n : Nat} {g : FuncId} {args : List V} {h : CH} {ans : V} (ha : answers P fns ext n g args h ans = true) (hans : ans.flat = true) (hargs : V.flatL args = true)
    {H : Heap} (hb : Base P (h.toH P)) (hs : Sub (h.toH P) H) : CallS P g args H (fun v H' => v = ans ∧ H' = H) := by
  unfold answers at ha
  split at ha
  · rename_i res he
    have h1 := ((exec_sound hm hF hext n).call _ _ _ _ _ he (fun v _ => v = ans) (sameV_eq ha)).2
    refine (callS_base hb hs hargs h1 (fun v _ hv => by rw [hv]; exact hans)).mono fun v H' ⟨a, _, b⟩ => ⟨b, a⟩
  · cases ha

end
end Go.Cm
