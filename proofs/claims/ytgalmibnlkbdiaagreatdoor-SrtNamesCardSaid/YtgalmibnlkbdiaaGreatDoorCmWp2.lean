/- The calculus is sound: regions. -/
import Derived.Test.YtgalmibnlkbdiaaGreatDoorCmWp
set_option linter.unusedVariables false
set_option linter.unusedSimpArgs false
namespace Go.Cm
open Go Go.RowKit

section
variable {P : Program} {n : Nat} {r : Rd}

theorem applies_congr {s s' : Sem Next} {c : Frame} {cs : List Frame} {w : World} {v' : Value} {w' : World} (h : s.run P w = s'.run P w) (ha : Applies P s' c cs w v' w') : Applies P s c cs w v' w' := by
  unfold Applies at *
  rw [h]
  exact ha

/-- An operation that applies: the machine's steps. -/
theorem steps_apply {b : Frame} {a : Act} {ops : Array Oper} {i : Nat} {rest : List Nat} {o : Oper} {k : List Item} {cs : List Frame} {w : World} (ho : ops[i]? = some o) (hw : Region.wanted o (yielded ops a.tmps) = true)
    {v' : Value} {w' : World} (h : Applies P (o.semAt b.roundOf a.eval) (b.atR a (.inRegion ops (i :: rest) :: k)) cs w v' w') :
    Steps P (lone (b.atR a (.inRegion ops (i :: rest) :: k)) cs w) (lone (b.atR (a.put o.dst v') (.inRegion ops rest :: k)) cs w') := by
  have hfin : ∀ v, (b.atR a (.inRegion ops (i :: rest) :: k)).finish v = b.atR (a.put o.dst v) (.inRegion ops rest :: k) := fun v => by
    rw [Frame.finish_atR, ho]; rfl
  have hg := stepGR_op (P := P) (b := b) (k := k) (cs := cs) (w := w) (rest := rest) ho hw
  rcases h with h | ⟨g, args, w1, h1, h2⟩ | ⟨l, g, tm, asg, body, w1, h1, h2⟩
  · refine .one (step_lone_go ?_)
    rw [hg]
    rw [← hfin]
    simp [stepG.apply, Sem.runT_eq, h, GStep.bare_after]
  · rw [← hfin]
    refine .head (step_lone_go ?_) h2
    rw [hg]
    simp [stepG.apply, Sem.runT_eq, h1, GStep.bare_after, Frame.atR]
  · rw [← hfin]
    refine .head (step_lone_go ?_) h2
    rw [hg]
    simp [stepG.apply, Sem.runT_eq, h1, GStep.bare_after, Frame.atR]

theorem steps_skip {b : Frame} {a : Act} {ops : Array Oper} {i : Nat} {rest : List Nat} {o : Oper} {k : List Item} {cs : List Frame} {w : World} (ho : ops[i]? = some o) (hw : Region.wanted o (yielded ops a.tmps) = false) :
    Steps P (lone (b.atR a (.inRegion ops (i :: rest) :: k)) cs w) (lone (b.atR (a.put o.dst Go.undef) (.inRegion ops rest :: k)) cs w) := by
  have := stepR_op_skip (P := P) (b := b) (a := a) (k := k) (cs := cs) (w := w) (ops := ops) (i := i) (rest := rest) (by rw [ho]; simpa using hw)
  rw [ho] at this
  exact .one this

theorem wantedE_sound {f : Inj} {ops : Array Oper} {o : Oper} {e : Env} {a : Act} (he : ERel f n e a) {x : Bool} (h : wantedE ops o e = some x) : Region.wanted o (yielded ops a.tmps) = x := by
  unfold wantedE at h
  unfold Region.wanted
  split at h
  · rename_i hg; rw [hg]; cases h; rfl
  · rename_i j want hg
    rw [hg]
    simp only
    split at h
    · rename_i hd
      cases h
      unfold yielded
      rw [hd]
      cases want <;> rfl
    · rename_i d hd
      have ht := he.t d
      have key : ∀ v, a.tmps.getD d Go.undef = v → v ≠ Go.undef → a.tmps[d]? = some v := by
        intro v hv hne
        rw [Array.getD_eq_getD_getElem?] at hv
        cases hx : a.tmps[d]? with
        | none => rw [hx] at hv; exact absurd hv.symm hne
        | some y => rw [hx] at hv; simp at hv; rw [hv]
      split at h
      · rename_i bb hb
        cases h
        rw [hb] at ht
        have := key _ ht.bool_inv (by simp [Go.undef])
        unfold yielded
        rw [hd]
        simp only [Option.bind_some, this]
        cases bb <;> cases want <;> rfl
      · rename_i hb
        cases h
        rw [hb] at ht
        obtain ⟨m, hm, hr⟩ := ht.tuple_inv
        have := hr.nil_inv
        subst this
        unfold yielded
        rw [hd]
        simp only [Option.bind_some]
        cases hx : a.tmps[d]? with
        | none => cases want <;> rfl
        | some y =>
          rw [Array.getD_eq_getD_getElem?, hx] at hm
          simp at hm
          rw [hm]
          cases want <;> rfl
      · cases h

theorem okOp {G : Nat} {ops : Array Oper} (hok : ops.toList.all (fun o => (match o.dst with | some d => decide (d < n) | none => true) && o.op.operands.toList.all (okG G)) = true) {o : Oper} (ho : o ∈ ops.toList) :
    (∀ x, o.dst = some x → x < n) ∧ ∀ x ∈ o.op.operands.toList, okG G x = true := by
  have := List.all_eq_true.1 hok o ho
  simp only [Bool.and_eq_true] at this
  refine ⟨fun x hx => by have h1 := this.1; rw [hx] at h1; simpa using h1, fun x hx => List.all_eq_true.1 this.2 x hx⟩

/-! What is no call. -/
def OpR.isVal : OpR → Bool
  | .val _ _ => true
  | .recov => true
  | .fail => true
  | _ => false

theorem isVal_of (r : Option V) (H : Heap) : (OpR.of r H).isVal = true := by cases r <;> rfl
theorem isVal_conv {src dst : TypeId} {x : V} {H : Heap} : (convOp P src dst x H).isVal = true := by unfold convOp; repeat' split
                                                                                                     all_goals rfl
theorem isVal_buildSlice {t : TypeId} {m : Nat} {ps : List (Nat × V)} {H : Heap} : (buildSliceOp P t m ps H).isVal = true := by
  unfold buildSliceOp
  repeat' split
  all_goals rfl
theorem isVal_makeSlice {t : TypeId} {l c : V} {H : Heap} : (makeSliceOp P t l c H).isVal = true := by
  unfold makeSliceOp
  repeat' split
  all_goals rfl
theorem isVal_slice {t : TypeId} {x : V} {lo hi mx : Option V} {H : Heap} : (sliceOp P t x lo hi mx H).isVal = true := by
  unfold sliceOp
  repeat' split
  all_goals rfl
theorem isVal_range {t : TypeId} {x : V} {H : Heap} : (rangeOp P t x H).isVal = true := by
  unfold rangeOp
  repeat' split
  all_goals rfl
theorem isVal_next {x : V} {H : Heap} : (nextOp x H).isVal = true := by
  unfold nextOp
  repeat' split
  all_goals rfl
theorem isVal_append {t xt : TypeId} {s x : V} {H : Heap} : (appendOp P t xt s x H).isVal = true := by
  unfold appendOp
  repeat' split
  all_goals rfl
theorem isVal_copy {t : TypeId} {d s : V} {H : Heap} : (copyOp P t d s H).isVal = true := by
  unfold copyOp
  repeat' split
  all_goals rfl
theorem isVal_unsafeStr {pt : TypeId} {x : V} {k : Int} {H : Heap} : (unsafeStrOp P pt x k H).isVal = true := by
  unfold unsafeStrOp
  repeat' split
  all_goals rfl
theorem isVal_builtin {b : Builtin} {ts : List TypeId} {args : List V} {H : Heap} : (builtinOp P b ts args H).isVal = true := by
  unfold builtinOp
  repeat' split
  all_goals first | exact isVal_of _ _ | exact isVal_append | exact isVal_copy | exact isVal_unsafeStr | rfl

theorem isVal_step {ρ : Operand → V} {o : Oper} {H : Heap} (h1 : ∀ c, o.op ≠ .call c) (h2 : ∀ c, o.op ≠ .defer c) : (stepOp P ρ o H).isVal = true := by
  unfold stepOp
  split
  all_goals first
    | exact isVal_of _ _ | exact isVal_conv | exact isVal_buildSlice | exact isVal_makeSlice | exact isVal_slice | exact isVal_range | exact isVal_next | rfl
    | (rename_i hh; exact absurd hh (h1 _)) | (rename_i hh; exact absurd hh (h2 _))
    | (repeat' split
       all_goals first | exact isVal_of _ _ | rfl)

theorem call_of_step {ρ : Operand → V} {o : Oper} {H : Heap} {fv : V} {args : List V} (h : stepOp P ρ o H = .call fv args) : ∃ c, o.op = .call c := by
  by_cases h1 : ∃ c, o.op = .call c
  · exact h1
  · exfalso
    by_cases h2 : ∃ c, o.op = .defer c
    · obtain ⟨c, hc⟩ := h2
      simp only [stepOp, hc, dfrOp] at h
      split at h <;> cases h
    · have := isVal_step (P := P) (ρ := ρ) (o := o) (H := H) (fun c e => h1 ⟨c, e⟩) (fun c e => h2 ⟨c, e⟩)
      rw [h] at this
      cases this

theorem dfr_of_step {ρ : Operand → V} {o : Oper} {H : Heap} {fv : V} {args : List V} (h : stepOp P ρ o H = .dfr fv args) : ∃ c g, o.op = .defer c ∧ c.callee = .value g ∧ fv = ρ g ∧ args = c.args.toList.map ρ := by
  by_cases h1 : ∃ c, o.op = .call c
  · exfalso
    obtain ⟨c, hc⟩ := h1
    simp only [stepOp, hc, callOp] at h
    split at h
    · have := isVal_builtin (P := P) (b := by assumption) (ts := c.argTypes.toList) (args := c.args.toList.map ρ) (H := H)
      rw [h] at this
      cases this
    · split at h <;> (try split at h) <;> cases h
    · cases h
  · by_cases h2 : ∃ c, o.op = .defer c
    · obtain ⟨c, hc⟩ := h2
      simp only [stepOp, hc, dfrOp] at h
      split at h
      · rename_i g hg
        cases h
        exact ⟨c, g, hc, hg, rfl, rfl⟩
      · cases h
    · exfalso
      have := isVal_step (P := P) (ρ := ρ) (o := o) (H := H) (fun c e => h1 ⟨c, e⟩) (fun c e => h2 ⟨c, e⟩)
      rw [h] at this
      cases this

def OpR.nr : OpR → Bool
  | .recov => false
  | _ => true

theorem nr_of (r : Option V) (H : Heap) : (OpR.of r H).nr = true := by cases r <;> rfl
theorem nr_conv {src dst : TypeId} {x : V} {H : Heap} : (convOp P src dst x H).nr = true := by unfold convOp; repeat' split
                                                                                               all_goals rfl
theorem nr_buildSlice {t : TypeId} {m : Nat} {ps : List (Nat × V)} {H : Heap} : (buildSliceOp P t m ps H).nr = true := by
  unfold buildSliceOp
  repeat' split
  all_goals rfl
theorem nr_makeSlice {t : TypeId} {l c : V} {H : Heap} : (makeSliceOp P t l c H).nr = true := by
  unfold makeSliceOp
  repeat' split
  all_goals rfl
theorem nr_slice {t : TypeId} {x : V} {lo hi mx : Option V} {H : Heap} : (sliceOp P t x lo hi mx H).nr = true := by
  unfold sliceOp
  repeat' split
  all_goals rfl
theorem nr_range {t : TypeId} {x : V} {H : Heap} : (rangeOp P t x H).nr = true := by
  unfold rangeOp
  repeat' split
  all_goals rfl
theorem nr_next {x : V} {H : Heap} : (nextOp x H).nr = true := by
  unfold nextOp
  repeat' split
  all_goals rfl
theorem nr_append {t xt : TypeId} {s x : V} {H : Heap} : (appendOp P t xt s x H).nr = true := by
  unfold appendOp
  repeat' split
  all_goals rfl
theorem nr_copy {t : TypeId} {d s : V} {H : Heap} : (copyOp P t d s H).nr = true := by
  unfold copyOp
  repeat' split
  all_goals rfl
theorem nr_unsafeStr {t : TypeId} {p : V} {k : Int} {H : Heap} : (unsafeStrOp P t p k H).nr = true := by
  unfold unsafeStrOp
  repeat' split
  all_goals rfl
theorem nr_builtin {b : Builtin} (hb : b ≠ .recover) {ts : List TypeId} {args : List V} {H : Heap} : (builtinOp P b ts args H).nr = true := by
  unfold builtinOp
  repeat' split
  all_goals first | exact nr_of _ _ | exact nr_append | exact nr_copy | exact nr_unsafeStr | exact absurd rfl hb | rfl

theorem nr_step {ρ : Operand → V} {o : Oper} {H : Heap} (h1 : ∀ c, o.op ≠ .call c) : (stepOp P ρ o H).nr = true := by
  unfold stepOp
  split
  all_goals first
    | exact nr_of _ _ | exact nr_conv | exact nr_buildSlice | exact nr_makeSlice | exact nr_slice | exact nr_range | exact nr_next | rfl
    | (rename_i hh; exact absurd hh (h1 _))
    | (unfold dfrOp; split <;> rfl)
    | (repeat' split
       all_goals first | exact nr_of _ _ | rfl)

theorem recov_of_step {ρ : Operand → V} {o : Oper} {H : Heap} (h : stepOp P ρ o H = .recov) : ∃ c, o.op = .call c ∧ c.callee = .builtin .recover := by
  by_cases h1 : ∃ c, o.op = .call c
  · obtain ⟨c, hc⟩ := h1
    refine ⟨c, hc, ?_⟩
    simp only [stepOp, hc, callOp] at h
    split at h
    · rename_i b hb
      rw [hb]
      by_cases hr : b = .recover
      · rw [hr]
      · have := nr_builtin (P := P) hr (ts := c.argTypes.toList) (args := c.args.toList.map ρ) (H := H)
        rw [h] at this
        cases this
    · split at h <;> (try split at h) <;> cases h
    · cases h
  · have := nr_step (P := P) (ρ := ρ) (o := o) (H := H) (fun c e => h1 ⟨c, e⟩)
    rw [h] at this
    cases this

/-- A method of an interface value. -/
theorem method_run {t : TypeId} {name : String} {g : FuncId} (hm : methOp P t name = some g) (u : Value) (args : Array Value) (w : World) : (callMethod (.iface t u) name args).run P w = (callFunc g (#[u] ++ args)).run P w := by
  unfold methOp at hm
  split at hm
  · cases hm
  · rename_i i hi
    split at hm
    · rename_i m hfind
      split at hm
      · rename_i hpath
        split at hm
        · rename_i g' e hfn hkd
          cases hm
          obtain ⟨d, hd, ek⟩ := kdAt_spec hkd
          have := kd_ptr ek.symm
          subst this
          have hp : m.path.toList = [] := by simpa using hpath
          have hmeth : ∀ fuel, (method (fuel + 1) t u name).run P w = .ok (g, u) w := fun fuel => by
            simp only [method, Sem.run_bind, run_typeInfo' hi, Result.andThen_ok, hfind, hp, follow, Sem.run_pure, hfn, receiverAt, run_underlying hd, Place.get]
          simp only [callMethod, Sem.run_bind, run_program, Result.andThen_ok]
          have e1 : P.types.size + Made.depth = (P.types.size + Made.depth - 1) + 1 := by
            have : 0 < Made.depth := by decide
            omega
          rw [e1, hmeth]
          rfl
        · cases hm
      · cases hm
    · cases hm

/-- Resolving a call of a function value, or of a method. -/
theorem resolve_value {f : Inj} {ρ : Operand → V} {ρ' : Operand → Value} {c : Call} {H : Heap} {w : World} (he : ∀ x ∈ c.operands.toList, VRel f (ρ x) (ρ' x)) {fv : V} {args : List V} (hs : callOp P ρ c H = .call fv args) (ty : TypeId) :
    ∃ fv' as, VRel f fv fv' ∧ LRel f args as ∧ (do let d ← resolve ρ' c ty; invoke d.target d.args : Sem Next).run P w = (do let d ← Deferred.ofValue fv' ⟨as⟩; invoke d.target d.args : Sem Next).run P w := by
  obtain ⟨callee, ⟨l⟩, argTypes⟩ := c
  have hl : LRel f (l.map ρ) (l.map ρ') := LRel.map l _ _ (fun x hx => he x (by simp [Call.operands, hx]))
  have ea : (⟨l⟩ : Array Operand).map ρ' = ⟨l.map ρ'⟩ := by simp
  cases callee with
  | builtin b =>
    simp only [callOp] at hs
    have := isVal_builtin (P := P) (b := b) (ts := argTypes.toList) (args := l.map ρ) (H := H)
    rw [hs] at this
    cases this
  | value g =>
    simp only [callOp] at hs
    cases hs
    refine ⟨ρ' g, l.map ρ', he g (by simp [Call.operands]), hl, ?_⟩
    simp only [resolve, ea]
  | invoke recv name =>
    simp only [callOp] at hs
    split at hs
    · rename_i t v hv
      split at hs
      · rename_i g hm
        cases hs
        have hr := he recv (by simp [Call.operands])
        rw [hv] at hr
        obtain ⟨u, hu, huv⟩ := hr.iface_inv
        refine ⟨.func (.func g) #[] #[], u :: l.map ρ', .fn g [] [] [] [] rfl (by simp) rfl (by simp), LRel.cons huv hl, ?_⟩
        simp only [resolve, ea, hu, Sem.run_bind, Sem.run_pure, Result.andThen_ok, invoke, Deferred.ofValue]
        have e0 : ((#[Value.iface t u] ++ (⟨l.map ρ'⟩ : Array Value)))[0]? = some (Value.iface t u) := by simp
        have e1 : (#[Value.iface t u] ++ (⟨l.map ρ'⟩ : Array Value)).extract 1 (#[Value.iface t u] ++ (⟨l.map ρ'⟩ : Array Value)).size = ⟨l.map ρ'⟩ := by
          apply Array.ext'
          simp
          exact List.take_of_length_le (by simp)
        rw [e0]
        simp only [e1, method_run hm]
        congr 2
        apply Array.ext'
        simp
      · cases hs
    · cases hs

theorem wpOp_sound {ops : Array Oper} {o : Oper} {K : Env → Heap → Prop} {e : Env} {H : Heap} (hd : ∀ x, o.dst = some x → x < n) (hop : ∀ x ∈ o.op.operands.toList, okG P.globals.size x = true)
    (h : wpOp P r ops o K e H) {B : Nat} {w0 : World} {f : Inj} {a : Act} {w : World} {b : Frame} {i : Nat} {rest : List Nat} {k : List Item} {cs : List Frame} (hst : StRel P B w0 f H w) (he : ERel f n e a) (hr : RR f r b cs) (ho : ops[i]? = some o) :
    ∃ e' H' f' a' w', K e' H' ∧ f.le f' ∧ StRel P B w0 f' H' w' ∧ ERel f' n e' a' ∧ Steps P (lone (b.atR a (.inRegion ops (i :: rest) :: k)) cs w) (lone (b.atR a' (.inRegion ops rest :: k)) cs w') := by
  unfold wpOp at h
  split at h
  · exact h.elim
  · rename_i hw
    exact ⟨_, H, f, _, w, h, .refl f, hst, he.put hd (VRel.tuple' (LRel.nil f)), steps_skip ho (wantedE_sound he hw)⟩
  · rename_i hw
    have hw' := wantedE_sound he hw
    have hev : ∀ x ∈ o.op.operands.toList, VRel f (e.ev x) (a.eval x) := fun x hx => ev_rel hst.globs he.t x (hop x hx)
    have hg := stepGR_op (P := P) (b := b) (k := k) (cs := cs) (w := w) (rest := rest) ho hw'
    have hfin : ∀ a : Act, (b.atR a (.inRegion ops (i :: rest) :: k)).finish Go.undef = b.atR (a.put o.dst Go.undef) (.inRegion ops rest :: k) := fun a => by rw [Frame.finish_atR, ho]; rfl
    split at h
    · rename_i v H' hstep
      obtain ⟨f', v', w', hval, s1, hle, hv⟩ := stepOp_sound hst hev hstep
      have hnd : ∀ c, o.op ≠ .defer c := fun c hc => by
        simp only [stepOp, hc, dfrOp] at hstep
        split at hstep <;> cases hstep
      refine ⟨_, H', f', a.put o.dst v', w', h, hle, s1, (he.mono hle).put hd hv, ?_⟩
      rcases hval with hval | ⟨hval, rfl⟩
      · exact steps_apply ho hw' (.inl (by rw [Oper.semAt_eq _ _ _ hnd]; exact hval))
      · refine .one (step_lone_go ?_)
        rw [hg, Oper.semAt_eq _ _ _ hnd, ← hfin]
        simp [stepG.apply, Sem.runT_eq, hval, GStep.bare_after]
    · rename_i fv args hstep
      obtain ⟨c, hc⟩ := call_of_step hstep
      have hnd : ∀ c, o.op ≠ .defer c := fun c' h' => by rw [hc] at h'; cases h'
      simp only [stepOp, hc] at hstep
      rw [hc] at hev
      obtain ⟨fv', as, hfv, has, hrun⟩ := resolve_value (P := P) (w := w) hev hstep o.type
      obtain ⟨v, H', f', v', w', hK, hle, s1, hv, happ⟩ := h B w0 f w fv' as (b.atR a (.inRegion ops (i :: rest) :: k)) cs hst hfv has
      refine ⟨_, H', f', a.put o.dst v', w', hK, hle, s1, (he.mono hle).put hd hv, ?_⟩
      refine steps_apply ho hw' (applies_congr ?_ happ)
      rw [Oper.semAt_eq _ _ _ hnd]
      simp only [execOp, hc]
      exact hrun
    · rename_i fv args hstep
      obtain ⟨hr0, ⟨g, fi, ca, rfl⟩, hK⟩ := h
      obtain ⟨c, gop, hc, hcal, hfv, hargs⟩ := dfr_of_step hstep
      have hrl : RoundRel f none b.roundOf := by have := hr.1; rw [hr0] at this; exact this
      have hrn : b.roundOf = none := by cases hb : b.roundOf with
        | none => rfl
        | some l => rw [hb] at hrl; exact hrl.elim
      obtain ⟨callee, ⟨l⟩, argTypes⟩ := c
      simp only at hcal hargs
      subst hcal
      rw [hc] at hev
      have h1 := hev gop (by simp [Op.operands, Call.operands])
      rw [← hfv] at h1
      obtain ⟨fi', ca', e1, r1, r2⟩ := h1.fn_inv
      have hl : LRel f (l.map e.ev) (l.map a.eval) := LRel.map l _ _ (fun x hx => hev x (by simp [Op.operands, Call.operands, hx]))
      have ea : (⟨l⟩ : Array Operand).map a.eval = ⟨l.map a.eval⟩ := by simp
      refine ⟨_, H, f, ({ a with defers := { target := .fn (.func g) ⟨ca'⟩, args := ⟨fi' ++ l.map a.eval⟩ } :: a.defers } : Act).put o.dst Go.undef, w, hK, .refl f, hst, ?_, ?_⟩
      · have he2 : ERel f n { e with ds := .call (.fn (.func g) fi ca) args :: e.ds } { a with defers := { target := .fn (.func g) ⟨ca'⟩, args := ⟨fi' ++ l.map a.eval⟩ } :: a.defers } := by
          refine ⟨he.size, he.t, ?_⟩
          rw [hargs]
          exact .call g fi ca _ fi' ca' _ _ _ r1 r2 hl he.ds
        exact he2.put hd (VRel.tuple' (LRel.nil f))
      · refine .one (step_lone_go ?_)
        rw [hg, hrn, Oper.semAt_none, ← hfin]
        have hd2 : (execOp a.eval o).run P w = .ok (.defer { target := .fn (.func g) ⟨ca'⟩, args := ⟨fi' ++ l.map a.eval⟩ }) w := by
          simp only [execOp, hc, resolve, ea, e1, Deferred.ofValue, Sem.run_bind, Sem.run_pure, Result.andThen_ok]
          congr 3
          apply Array.ext'
          simp
        simp [stepG.apply, Sem.runT_eq, hd2, GStep.bare_after, Frame.atR, Frame.finish]
    · rename_i hstep
      obtain ⟨hr0, hK⟩ := h
      obtain ⟨c, hc, hcal⟩ := recov_of_step hstep
      have hrl : RoundRel f none b.roundOf := by have := hr.1; rw [hr0] at this; exact this
      have hrn : b.roundOf = none := by cases hb : b.roundOf with
        | none => rfl
        | some l => rw [hb] at hrl; exact hrl.elim
      have hno : tryRecover (b.atR a (.inRegion ops (i :: rest) :: k)) cs = none := hr.2.1 hr0 _ rfl
      have hfin2 : (b.atR a (.inRegion ops (i :: rest) :: k)).finish .nilIface = b.atR (a.put o.dst .nilIface) (.inRegion ops rest :: k) := by rw [Frame.finish_atR, ho]; rfl
      refine ⟨_, H, f, a.put o.dst .nilIface, w, hK, .refl f, hst, he.put hd .nilif, ?_⟩
      refine .one (step_lone_go ?_)
      rw [hg, hrn, Oper.semAt_none, ← hfin2]
      obtain ⟨callee, args, argTypes⟩ := c
      simp only at hcal
      subst hcal
      have hd2 : (execOp a.eval o).run P w = .ok .recover w := by
        simp only [execOp, hc, resolve, Sem.run_bind, Sem.run_pure, Result.andThen_ok, invoke, builtin]
      have hrn2 : (b.atR a (.inRegion ops (i :: rest) :: k)).roundOf = none := hrn
      simp [stepG.apply, Sem.runT_eq, hd2, GStep.bare_after, hrn2, hno]
    · exact h.elim

theorem wpOps_sound {ops : Array Oper} (hok : ops.toList.all (fun o => (match o.dst with | some d => decide (d < n) | none => true) && o.op.operands.toList.all (okG P.globals.size)) = true) {Q : Post} : ∀ {l : List Oper} {is : List Nat} {e : Env} {H : Heap}, is.map (fun i => ops[i]?) = l.map some → wpOps P r ops l Q e H →
    ∀ {B : Nat} {w0 : World} {f : Inj} {a : Act} {w : World} {b : Frame} {k : List Item} {cs : List Frame}, StRel P B w0 f H w → ERel f n e a → RR f r b cs →
    ∃ e' H' f' a' w', Q .normal e' H' ∧ f.le f' ∧ StRel P B w0 f' H' w' ∧ ERel f' n e' a' ∧ Steps P (lone (b.atR a (.inRegion ops is :: k)) cs w) (lone (b.atR a' k) cs w')
  | [], is, e, H, hi, h, B, w0, f, a, w, b, k, cs, hst, he, hr => by
    have : is = [] := by cases is <;> simp at hi ⊢
    subst this
    exact ⟨e, H, f, a, w, h, .refl f, hst, he, .one stepR_region_end⟩
  | o :: l, is, e, H, hi, h, B, w0, f, a, w, b, k, cs, hst, he, hr => by
    cases is with
    | nil => simp at hi
    | cons i is =>
      simp only [List.map_cons, List.cons.injEq] at hi
      obtain ⟨hi1, hi2⟩ := hi
      obtain ⟨k1, k2⟩ := okOp hok (o := o) (by rw [Array.mem_toList_iff]; exact Array.mem_of_getElem? hi1)
      obtain ⟨e1, H1, f1, a1, w1, hK, hle, s1, s2, st⟩ := wpOp_sound k1 k2 h hst he hr hi1 (rest := is) (k := k) (cs := cs)
      obtain ⟨e2, H2, f2, a2, w2, hQ, hle2, t1, t2, st2⟩ := wpOps_sound hok hi2 hK s1 s2 (hr.mono hle) (k := k) (cs := cs)
      exact ⟨e2, H2, f2, a2, w2, hQ, hle.trans hle2, t1, t2, st.trans st2⟩

/-- In whatever order. -/
theorem wpAny_sound {ops : Array Oper} (hok : ops.toList.all (fun o => (match o.dst with | some d => decide (d < n) | none => true) && o.op.operands.toList.all (okG P.globals.size)) = true) {Q : Post} : ∀ (fuel t : Nat) (listed : Array Bool) {e : Env} {H : Heap}, wpAny P r ops Q fuel listed e H →
    ∀ {B : Nat} {w0 : World} {f : Inj} {a : Act} {w : World} {b : Frame} {k : List Item} {cs : List Frame}, StRel P B w0 f H w → ERel f n e a → RR f r b cs →
    ∃ e' H' f' a' w', Q .normal e' H' ∧ f.le f' ∧ StRel P B w0 f' H' w' ∧ ERel f' n e' a' ∧ Steps P (lone (b.atR a (.inRegion ops (Region.linearise.go .any ops fuel t listed []) :: k)) cs w) (lone (b.atR a' k) cs w') := by
  intro fuel
  induction fuel with
  | zero =>
    intro t listed e H h B w0 f a w b k cs hst he hr
    refine ⟨e, H, f, a, w, h.2, .refl f, hst, he, ?_⟩
    simp only [Region.linearise.go, List.reverse_nil]
    exact .one stepR_region_end
  | succ fuel ih =>
    intro t listed e H h B w0 f a w b k cs hst he hr
    obtain ⟨h0, h1⟩ := h
    simp only [Region.linearise.go]
    change ∃ e' H' f' a' w', Q .normal e' H' ∧ f.le f' ∧ StRel P B w0 f' H' w' ∧ ERel f' n e' a' ∧ Steps P (lone (b.atR a (.inRegion ops (match (Region.ready .any ops listed)[t % (Region.ready .any ops listed).length]? with
      | some i => Region.linearise.go .any ops fuel (t / (Region.ready .any ops listed).length) (listed.setIfInBounds i true) [i]
      | none => [].reverse) :: k)) cs w) (lone (b.atR a' k) cs w')
    cases hi : (Region.ready .any ops listed)[t % (Region.ready .any ops listed).length]? with
    | none =>
      have hnil : Region.ready .any ops listed = [] := by
        cases hrd : Region.ready .any ops listed with
        | nil => rfl
        | cons x xs =>
          rw [hrd] at hi
          have hlt : t % (x :: xs).length < (x :: xs).length := Nat.mod_lt _ (by simp)
          rw [List.getElem?_eq_getElem hlt] at hi
          cases hi
      exact ⟨e, H, f, a, w, h0 hnil, .refl f, hst, he, .one stepR_region_end⟩
    | some i =>
      simp only []
      rw [linearise_go_acc, List.reverse_singleton, List.singleton_append]
      have hmem := List.mem_of_getElem? hi
      have := h1 i hmem
      split at this
      · rename_i o ho
        obtain ⟨k1, k2⟩ := okOp hok (o := o) (by rw [Array.mem_toList_iff]; exact Array.mem_of_getElem? ho)
        obtain ⟨e1, H1, f1, a1, w1, hK, hle, s1, s2, st⟩ := wpOp_sound k1 k2 this hst he hr ho (k := k) (cs := cs) (rest := Region.linearise.go .any ops fuel (t / (Region.ready .any ops listed).length) (listed.setIfInBounds i true) [])
        obtain ⟨e2, H2, f2, a2, w2, hQ, hle2, t1, t2, st2⟩ := ih (t / (Region.ready .any ops listed).length) _ hK s1 s2 (hr.mono hle) (k := k) (cs := cs)
        exact ⟨e2, H2, f2, a2, w2, hQ, hle.trans hle2, t1, t2, st.trans st2⟩
      · exact this.elim

end
end Go.Cm
