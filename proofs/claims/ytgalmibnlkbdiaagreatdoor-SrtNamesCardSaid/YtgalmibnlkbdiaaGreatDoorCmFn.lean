/- Functions: what a proof of one begins with. -/
import Derived.Test.YtgalmibnlkbdiaaGreatDoorCmHH
set_option linter.unusedVariables false
set_option linter.unusedSimpArgs false
namespace Go.Cm
open Go Go.RowKit

/-- The function with that number: its slots, its results, its code in short. -/
structure FnOK (P : Program) (g : FuncId) (n : Nat) (rs : List ResultVar) (m : MC) : Prop where
  ex : ∃ fn c o, P.funcs[g]? = some fn ∧ fn.body = some c ∧ mcode P o c = some m ∧ Code.okN n P.globals.size c = true ∧ fn.ntmps = n ∧ fn.results.toList = rs ∧ (fn.name == "runtime.NumGoroutine") = false

theorem FnOK.mk' {P : Program} {g : FuncId} {n : Nat} {rs : List ResultVar} {m : MC} {fn : Func} (o : Orc) (hf : P.funcs[g]? = some fn)
    (h : (match fn.body with | some c => mcode P o c | none => none) = some m) (hk : (match fn.body with | some c => Code.okN n P.globals.size c && fn.ntmps == n && !(fn.name == "runtime.NumGoroutine") | none => false) = true) (hr : fn.results.toList = rs) : FnOK P g n rs m := by
  cases hb : fn.body with
  | none => rw [hb] at h; cases h
  | some c =>
    rw [hb] at h hk
    simp only [Bool.and_eq_true, beq_iff_eq, Bool.not_eq_true'] at hk
    exact ⟨fn, c, o, hf, hb, h, hk.1.1, hk.1.2, hr, hk.2⟩

/-- Leaving: the deferred calls, the results. -/
def leaveR (P : Program) (rs : List ResultVar) (t : Nat → V) (K : V → Heap → Prop) : List Dfr → Heap → Prop
  | [], H => ∃ l, resVals P t H rs = some l ∧ K (oneOr l) H
  | .col j :: ds, H => H.ds j = true ∧ leaveR P rs t K ds (H.dropDs j)
  | .call (.fn (.func g) fi ca) args :: ds, H => (∃ n rs' m, FnOK P g n rs' m) ∧ CallS P g (fi ++ args ++ ca) H (fun _ H' => leaveR P rs t K ds H')
  | .call _ _ :: _, _ => False

def retR (P : Program) (rs : List ResultVar) (K : V → Heap → Prop) : Post
  | .normal, e, H => leaveR P rs e.t K e.ds H
  | .ret, e, H => leaveR P rs e.t K e.ds H
  | _, _, _ => False

section
variable {P : Program}

theorem leaveR_sound {fn : Func} {rs : List ResultVar} (hr : fn.results.toList = rs) {t : Nat → V} {K : V → Heap → Prop} : ∀ (ds : List Dfr) {H : Heap}, leaveR P rs t K ds H → leaveS P fn t K ds H
  | [], H, h => by simp only [leaveS, hr]; exact h
  | .col j :: ds, H, h => ⟨h.1, leaveR_sound hr ds h.2⟩
  | .call fv args :: ds, H, h => by
    cases fv with
    | fn f fi ca =>
      cases f with
      | func g =>
        obtain ⟨⟨n, rs', m, ⟨fn', c, o, h1, h2, h3, h4, h5, h6, h7⟩⟩, h⟩ := h
        exact ⟨⟨fn', c, h1, h7, h2⟩, h.mono fun v H' hh => leaveR_sound hr ds hh⟩
      | _ => exact h.elim
    | _ => exact h.elim

theorem call_fn {g : FuncId} {n : Nat} {rs : List ResultVar} {m : MC} (hf : FnOK P g n rs m) {args : List V} (hargs : args.length ≤ n) {H : Heap} {K : V → Heap → Prop}
    (h : H.OK P → InL H.marks args → SmM P n ⟨none, H.marks⟩ m (retR P rs fun v1 H1 => ∃ v' H', CanonV P H.marks v1 H1 v' H' ∧ K v' H') (env0 args) (HH H ⟨[], [], [], []⟩)) : CallS P g args H K := by
  obtain ⟨fn, c, o, h1, h2, h3, h4, h5, h6, h7⟩ := hf.ex
  subst h5
  refine callS_mc h1 h2 h3 h4 hargs fun hk hi => ?_
  have := h hk hi
  rw [HH_nil hk] at this
  refine smm_mono this fun x e H hx => ?_
  cases x with
  | normal => exact leaveR_sound h6 _ hx
  | ret => exact leaveR_sound h6 _ hx
  | _ => exact hx.elim

theorem call_fn0 {g : FuncId} {n : Nat} {rs : List ResultVar} {m : MC} (hf : FnOK P g n rs m) {args : List V} (hargs : args.length ≤ n) {H : Heap} {K : V → Heap → Prop}
    (h : H.OK P → InL H.marks args → SmM P n ⟨none, H.marks⟩ m (retR P rs K) (env0 args) (HH H ⟨[], [], [], []⟩)) : CallS P g args H K := by
  obtain ⟨fn, c, o, h1, h2, h3, h4, h5, h6, h7⟩ := hf.ex
  subst h5
  refine callS_ok fun hk hi => callS_of_sm h1 h2 h4 hargs ?_
  have := h hk hi
  rw [HH_nil hk] at this
  refine (this o c h3 h4).mono fun x e H hx => ?_
  cases x with
  | normal => exact leaveR_sound h6 _ hx
  | ret => exact leaveR_sound h6 _ hx
  | _ => exact hx.elim

theorem inv_fn {g : FuncId} {n : Nat} {rs : List ResultVar} {m : MC} (hf : FnOK P g n rs m) {fi ca args : List V} {H : Heap} {K : V → Heap → Prop} (h : CallS P g (fi ++ args ++ ca) H K) : InvS P (.fn (.func g) fi ca) args H K := by
  obtain ⟨fn, c, o, h1, h2, h3, h4, h5, h6, h7⟩ := hf.ex
  exact invS_func h1 h7 h2 h

/-- A call whose answer is known. -/
theorem inv_eq {g : FuncId} {n : Nat} {rs : List ResultVar} {m : MC} (hf : FnOK P g n rs m) {fi ca args : List V} {H H' : Heap} {v : V} {K : V → Heap → Prop} (h : CallS P g (fi ++ args ++ ca) H fun v1 H1 => v1 = v ∧ H1 = H') (hk : K v H') : InvS P (.fn (.func g) fi ca) args H K :=
  inv_fn hf (h.mono fun v1 H1 hh => by rw [hh.1, hh.2]; exact hk)

theorem leaveR_nil {rs : List ResultVar} {t : Nat → V} {K : V → Heap → Prop} {H : Heap} : leaveR P rs t K [] H = ∃ l, resVals P t H rs = some l ∧ K (oneOr l) H := rfl
theorem retR_ret {rs : List ResultVar} {K : V → Heap → Prop} {e : Env} {H : Heap} : retR P rs K .ret e H = leaveR P rs e.t K e.ds H := rfl
theorem retR_normal {rs : List ResultVar} {K : V → Heap → Prop} {e : Env} {H : Heap} : retR P rs K .normal e H = leaveR P rs e.t K e.ds H := rfl


theorem smm_if {n : Nat} {r : Rd} {Q : Post} {e : Env} {H : Heap} {cd : Operand} {a b : MC} {t : Bool} (ht : e.ev cd = .bool t) (h1 : t = true → SmM P n r a Q e H) (h2 : t = false → SmM P n r b Q e H) : SmM P n r (.cond cd a b) Q e H := smm_cond ⟨t, ht, h1, h2⟩

theorem smm_ift {n : Nat} {r : Rd} {Q : Post} {e : Env} {H : Heap} {cd : Operand} {a b : MC} (ht : e.ev cd = .bool true) (h1 : SmM P n r a Q e H) : SmM P n r (.cond cd a b) Q e H := smm_cond ⟨true, ht, fun _ => h1, fun h => (by cases h)⟩
theorem smm_iff {n : Nat} {r : Rd} {Q : Post} {e : Env} {H : Heap} {cd : Operand} {a b : MC} (ht : e.ev cd = .bool false) (h1 : SmM P n r b Q e H) : SmM P n r (.cond cd a b) Q e H := smm_cond ⟨false, ht, fun h => (by cases h), fun _ => h1⟩

theorem seqK_normal {K : Env → Heap → Prop} {Q : Post} {e : Env} {H : Heap} : seqK K Q .normal e H = K e H := rfl
theorem seqK_exit {K : Env → Heap → Prop} {Q : Post} {i : Nat} {e : Env} {H : Heap} : seqK K Q (.exit i) e H = Q (.exit i) e H := rfl
theorem seqK_ret {K : Env → Heap → Prop} {Q : Post} {e : Env} {H : Heap} : seqK K Q .ret e H = Q .ret e H := rfl
theorem seqK_goto {K : Env → Heap → Prop} {Q : Post} {i : Nat} {e : Env} {H : Heap} : seqK K Q (.goto i) e H = Q (.goto i) e H := rfl
theorem blockK_normal {id : Nat} {Q : Post} {e : Env} {H : Heap} : blockK id Q .normal e H = Q .normal e H := rfl
theorem blockK_ret {id : Nat} {Q : Post} {e : Env} {H : Heap} : blockK id Q .ret e H = Q .ret e H := rfl
theorem blockK_goto {id i : Nat} {Q : Post} {e : Env} {H : Heap} : blockK id Q (.goto i) e H = Q (.goto i) e H := rfl
theorem blockK_exit {id j : Nat} {Q : Post} {e : Env} {H : Heap} : blockK id Q (.exit j) e H = if j = id then Q .normal e H else Q (.exit j) e H := rfl

theorem binM_add {k k' : IntKind} {a b : Int} : binM .add (.int k a) (.int k' b) = if k = k' then some (.int k (k.wrap (a + b))) else none := rfl
theorem binM_sub {k k' : IntKind} {a b : Int} : binM .sub (.int k a) (.int k' b) = if k = k' then some (.int k (k.wrap (a - b))) else none := rfl
theorem binM_mul {k k' : IntKind} {a b : Int} : binM .mul (.int k a) (.int k' b) = if k = k' then some (.int k (k.wrap (a * b))) else none := rfl
theorem binM_eql {k k' : IntKind} {a b : Int} : binM .eql (.int k a) (.int k' b) = if k = k' then some (.bool (a == b)) else none := rfl
theorem binM_neq {k k' : IntKind} {a b : Int} : binM .neq (.int k a) (.int k' b) = if k = k' then some (.bool (a != b)) else none := rfl
theorem binM_lss {k k' : IntKind} {a b : Int} : binM .lss (.int k a) (.int k' b) = if k = k' then some (.bool (decide (a < b))) else none := rfl
theorem binM_leq {k k' : IntKind} {a b : Int} : binM .leq (.int k a) (.int k' b) = if k = k' then some (.bool (decide (a ≤ b))) else none := rfl
theorem binM_gtr {k k' : IntKind} {a b : Int} : binM .gtr (.int k a) (.int k' b) = if k = k' then some (.bool (decide (a > b))) else none := rfl
theorem binM_geq {k k' : IntKind} {a b : Int} : binM .geq (.int k a) (.int k' b) = if k = k' then some (.bool (decide (a ≥ b))) else none := rfl
theorem binM_seql {a b : List UInt8} : binM .eql (.str a) (.str b) = some (.bool (a == b)) := rfl
theorem binM_sneq {a b : List UInt8} : binM .neq (.str a) (.str b) = some (.bool (!(a == b))) := rfl
theorem binM_sadd {a b : List UInt8} : binM .add (.str a) (.str b) = if a.length + b.length ≤ 9223372036854775807 then some (.str (a ++ b)) else none := rfl
theorem binM_shl {k k' : IntKind} {a b : Int} : binM .shl (.int k a) (.int k' b) = shiftOp .shl k a b := rfl
theorem binM_shr {k k' : IntKind} {a b : Int} : binM .shr (.int k a) (.int k' b) = shiftOp .shr k a b := rfl
theorem binM_and {k k' : IntKind} {a b : Int} : binM .and (.int k a) (.int k' b) = if k = k' then some (.int k (k.wrap ((BitVec.ofInt k.bits a &&& BitVec.ofInt k.bits b).toNat))) else none := rfl
theorem binM_or {k k' : IntKind} {a b : Int} : binM .or (.int k a) (.int k' b) = if k = k' then some (.int k (k.wrap ((BitVec.ofInt k.bits a ||| BitVec.ofInt k.bits b).toNat))) else none := rfl

theorem ofVal_int (k : IntKind) (n : Int) : ofVal (.int k n) = .int k n := rfl
theorem ofVal_bool (b : Bool) : ofVal (.bool b) = .bool b := rfl
theorem ofVal_str (l : List UInt8) : ofVal (.string ⟨⟨l⟩⟩) = .str l := rfl
theorem ofVal_nilptr : ofVal (.pointer none) = .nilptr := rfl
theorem ofVal_nilslice : ofVal (.slice none 0 0) = .nilslice := rfl
theorem ofVal_nilfn : ofVal .nilFunc = .nilfn := rfl
theorem ofVal_nilif : ofVal .nilIface = .nilif := rfl
theorem ofVal_agg (l : List Value) : ofVal (.agg ⟨l⟩) = .agg (l.map ofScalar) := rfl
theorem ofScalar_int (k : IntKind) (n : Int) : ofScalar (.int k n) = .int k n := rfl
theorem ofScalar_bool (b : Bool) : ofScalar (.bool b) = .bool b := rfl
theorem ofScalar_str (l : List UInt8) : ofScalar (.string ⟨⟨l⟩⟩) = .str l := rfl
theorem ofScalar_nilptr : ofScalar (.pointer none) = .nilptr := rfl
theorem ofScalar_nilslice : ofScalar (.slice none 0 0) = .nilslice := rfl
theorem ofScalar_nilfn : ofScalar .nilFunc = .nilfn := rfl
theorem ofScalar_nilif : ofScalar .nilIface = .nilif := rfl

end
end Go.Cm
