/- Calls: of functions, of function values, of a loop's body. -/
import Derived.Test.YtgalmibnlkbdiaaGreatDoorCmWp3
set_option linter.unusedVariables false
set_option linter.unusedSimpArgs false
namespace Go.Cm
open Go Go.RowKit

def env0 (args : List V) : Env := { t := fun j => args.getD j .undef, ds := [] }

def resVals (P : Program) (t : Nat → V) (H : Heap) : List ResultVar → Option (List V)
  | [] => some []
  | .tmp i :: r => (resVals P t H r).map (t i :: ·)
  | .cell a ty :: r =>
    match t a, tiOf P ty with
    | .ptr b o, some ti => (match H.load ti b o, resVals P t H r with | some v, some l => some (v :: l) | _, _ => none)
    | _, _ => none

def oneOr : List V → V
  | [v] => v
  | l => .tuple l

/-- One result variable, read. -/
def readVar (tm : Array Value) (r : ResultVar) : Sem Value :=
  match r with
  | .tmp t => pure (tm.getD t Go.undef)
  | .cell a t => do loadVar t (← asAddr (tm.getD a Go.undef))

/-- Leaving a function: the deferred calls, the results. -/
def leaveS (P : Program) (fn : Func) (t : Nat → V) (K : V → Heap → Prop) : List Dfr → Heap → Prop
  | [], H => ∃ l, resVals P t H fn.results.toList = some l ∧ K (oneOr l) H
  | .col j :: ds, H => H.ds j = true ∧ leaveS P fn t K ds (H.dropDs j)
  | .call (.fn (.func g) fi ca) args :: ds, H => (∃ fn c, P.funcs[g]? = some fn ∧ (fn.name == "runtime.NumGoroutine") = false ∧ fn.body = some c) ∧ CallS P g (fi ++ args ++ ca) H (fun _ H' => leaveS P fn t K ds H')
  | .call _ _ :: _, _ => False

def retK (P : Program) (fn : Func) (K : V → Heap → Prop) : Post
  | .normal, e, H => leaveS P fn e.t K e.ds H
  | .ret, e, H => leaveS P fn e.t K e.ds H
  | _, _, _ => False

section
variable {P : Program}

theorem resVals_sound {B : Nat} {w0 : World} {f : Inj} {H : Heap} {w : World} (h : StRel P B w0 f H w) {t : Nat → V} {tm : Array Value} (ht : ∀ j, VRel f (t j) (tm.getD j Go.undef)) : ∀ {rs : List ResultVar} {l : List V}, resVals P t H rs = some l →
    ∃ m, (rs.mapM (readVar tm) : Sem (List Value)).run P w = .ok m w ∧ LRel f l m
  | [], l, hr => by simp [resVals] at hr; subst hr; exact ⟨[], rfl, LRel.nil f⟩
  | .tmp i :: r, l, hr => by
    simp only [resVals] at hr
    cases hl : resVals P t H r with
    | none => rw [hl] at hr; cases hr
    | some l' =>
      rw [hl] at hr
      simp at hr
      subst hr
      obtain ⟨m, hm, hrel⟩ := resVals_sound h ht hl
      refine ⟨tm.getD i Go.undef :: m, ?_, LRel.cons (ht i) hrel⟩
      have hr : (readVar tm (.tmp i)).run P w = .ok (tm.getD i Go.undef) w := rfl
      simp only [List.mapM_cons, Sem.run_bind, Sem.run_pure, Result.andThen_ok, hr, hm]
  | .cell a ty :: r, l, hr => by
    simp only [resVals] at hr
    split at hr
    · rename_i b o ti ha hty
      split at hr
      · rename_i v l' hv hl
        cases hr
        obtain ⟨m, hm, hrel⟩ := resVals_sound h ht hl
        have hp := ht a
        rw [ha] at hp
        obtain ⟨v', h1, h2⟩ := load_sound h hp hty hv
        obtain ⟨ci, hc, he⟩ := hp.ptr_inv
        refine ⟨v' :: m, ?_, LRel.cons h2 hrel⟩
        have hr : (readVar tm (.cell a ty)).run P w = .ok v' w := by
          simp only [he, Instr.loadAt, Instr.sureAddr, Sem.run_bind, Sem.run_pure, Result.andThen_ok] at h1
          simp only [readVar, Sem.run_bind, he, asAddr, Sem.run_pure, Result.andThen_ok, h1]
        simp only [List.mapM_cons, Sem.run_bind, Sem.run_pure, Result.andThen_ok, hr, hm]
      · cases hr
    · cases hr

theorem results_sound {B : Nat} {w0 : World} {f : Inj} {H : Heap} {w : World} (h : StRel P B w0 f H w) {fn : Func} {t : Nat → V} {tm : Array Value} (ht : ∀ j, VRel f (t j) (tm.getD j Go.undef)) {l : List V} (hr : resVals P t H fn.results.toList = some l) :
    ∃ v', (results fn tm).run P w = .ok v' w ∧ VRel f (oneOr l) v' := by
  obtain ⟨m, hm, hrel⟩ := resVals_sound h ht hr
  have hm2 : (fn.results.mapM (readVar tm) : Sem (Array Value)).run P w = .ok ⟨m⟩ w := by
    rw [← Array.toArray_toList (xs := fn.results), List.mapM_toArray]
    simp only [Sem.run_map, hm, Result.andThen_ok]
  refine ⟨if h : (⟨m⟩ : Array Value).size = 1 then (⟨m⟩ : Array Value)[0] else .tuple ⟨m⟩, ?_, ?_⟩
  · unfold results
    rw [Sem.run_bind]
    have : (fn.results.mapM (readVar tm) : Sem (Array Value)).run P w = .ok ⟨m⟩ w := hm2
    have e : ∀ g : ResultVar → Sem Value, (∀ r, g r = readVar tm r) → (fn.results.mapM g : Sem (Array Value)).run P w = .ok ⟨m⟩ w := fun g hg => by rw [funext hg]; exact this
    rw [e _ (fun r => by cases r <;> rfl)]
    rfl
  · match l, m, hrel with
    | [], m, hrel => rw [hrel.nil_inv]; exact VRel.tuple' (LRel.nil f)
    | [v], m, hrel =>
      obtain ⟨y, m', rfl, h1, h2⟩ := hrel.uncons
      rw [h2.nil_inv]
      exact h1
    | v :: v2 :: l, m, hrel =>
      have hl := hrel.len
      rw [dif_neg (by show m.length ≠ 1; rw [← hl]; simp)]
      exact VRel.tuple' hrel

theorem enters_of {f : FuncId} {fn : Func} {c : Code} (hf : P.funcs[f]? = some fn) (hname : (fn.name == "runtime.NumGoroutine") = false) (hb : fn.body = some c) (args : Array Value) (w : World) :
    (callFunc f args).run P w = .ok (.enter f args) w := by
  have h1 : fn.name ≠ "runtime.NumGoroutine" := by simpa using hname
  simp [callFunc, hf, h1, hb]

/-- The frame's leaving. -/
theorem leave_sound {fn : Func} {t : Nat → V} {K : V → Heap → Prop} : ∀ (ds : List Dfr) {H : Heap}, leaveS P fn t K ds H →
    ∀ {B : Nat} {w0 : World} {f : Inj} {w : World} {fr : Frame} {cs : List Frame}, StRel P B w0 f H w → (∀ j, VRel f (t j) (fr.tmps.getD j Go.undef)) → DsRel f ds fr.defers → fr.mode = .returning → P.funcs[fr.fn]? = some fn →
    ∃ v H' f' v' w' fr', K v H' ∧ f.le f' ∧ StRel P B w0 f' H' w' ∧ VRel f' v v' ∧ Steps P (lone fr cs w) (lone fr' cs w') ∧ fr'.fn = fr.fn ∧ fr'.kind = fr.kind ∧ fr'.mode = .returning ∧ fr'.defers = [] ∧ (results fn fr'.tmps).run P w' = .ok v' w' := by
  intro ds
  induction ds with
  | nil =>
    intro H h B w0 f w fr cs hst ht hds hmode hfn
    obtain ⟨l, hl, hK⟩ := h
    obtain ⟨v', h1, h2⟩ := results_sound hst ht hl
    cases hd : fr.defers with
    | nil => exact ⟨_, H, f, v', w, fr, hK, .refl f, hst, h2, .refl _ _, rfl, rfl, hmode, hd, h1⟩
    | cons d r => rw [hd] at hds; cases hds
  | cons d ds ih =>
    intro H h B w0 f w fr cs hst ht hds hmode hfn
    cases d with
    | col j =>
      obtain ⟨hj, hrest⟩ := h
      cases hd : fr.defers with
      | nil => rw [hd] at hds; cases hds
      | cons d' r' =>
        rw [hd] at hds
        cases hds with
        | col _ g _ _ hg htail =>
          obtain ⟨htake, hst2⟩ := dropDs_sound hst hj hg
          have s1 := step_collected (cs := cs) (fr := fr) (by rw [hmode]; simp) hd rfl htake
          obtain ⟨v, H', f', v', w', fr', a1, a2, a3, a4, a5, a6, a7, a8, a9, a10⟩ := ih hrest (fr := { fr with defers := [] ++ r' }) (cs := cs) hst2 ht htail hmode hfn
          exact ⟨v, H', f', v', w', fr', a1, a2, a3, a4, .head s1 a5, a6, a7, a8, a9, a10⟩
    | call fv args =>
      have hfv : ∃ g fi ca, fv = .fn (.func g) fi ca := by
        cases hd : fr.defers with
        | nil => rw [hd] at hds; cases hds
        | cons d' r' => rw [hd] at hds; cases hds; exact ⟨_, _, _, rfl⟩
      obtain ⟨g, fi, ca, rfl⟩ := hfv
      obtain ⟨⟨fng, cg, hfg, hng, hbg⟩, hcall⟩ := h
      cases hd : fr.defers with
      | nil => rw [hd] at hds; cases hds
      | cons d' r' =>
        rw [hd] at hds
        cases hds with
        | call _ _ _ _ fi' ca' args' _ _ h1 h2 h3 htail =>
          have hent := enters_of hfg hng hbg
          obtain ⟨v, H1, f1, v1, w1, fr1, hK, hle, s1, hv1, st, e1, e2, e3, e4, fn1, e5, e6⟩ := hcall B w0 f w (fi' ++ args' ++ ca') .deferred ({ fr with defers := r' } :: cs) hst ((h1.append h3).append h2) (noRec_deferred hmode)
          have hinv : (invoke (.fn (.func g) ⟨ca'⟩) ⟨fi' ++ args'⟩).run P w = .ok (.enter g ⟨fi' ++ args' ++ ca'⟩) w := by
            have := hent ⟨fi' ++ args' ++ ca'⟩ w
            simp only [invoke]
            have e : (⟨fi' ++ args'⟩ ++ ⟨ca'⟩ : Array Value) = ⟨fi' ++ args' ++ ca'⟩ := by apply Array.ext'; simp
            rw [e]
            exact this
          have sA : step P (lone fr cs w) = .next (lone (Frame.enter P g ⟨fi' ++ args' ++ ca'⟩ .deferred) ({ fr with defers := r' } :: cs) w) := by
            refine step_lone_go ?_
            simp [stepG, unwind, hmode, hd, callDeferred, Sem.runT_eq, hinv, GStep.bare_after]
          have sB : step P (lone fr1 ({ fr with defers := r' } :: cs) w1) = .next (lone { fr with defers := r' } cs w1) := by
            refine step_lone_go ?_
            simp [stepG, unwind, e3, e4, e5, Sem.runT_eq, e6, GStep.bare_after, doReturn, e2, hmode]
          obtain ⟨v2, H', f', v', w', fr', a1, a2, a3, a4, a5, a6, a7, a8, a9, a10⟩ := ih hK (fr := { fr with defers := r' }) (cs := cs) s1 (fun j => (ht j).mono hle) (htail.mono hle) hmode hfn
          exact ⟨v2, H', f', v', w', fr', a1, hle.trans a2, a3, a4, .head sA (st.trans (.head sB a5)), a6, a7, a8, a9, a10⟩

theorem env0_rel {f : Inj} {args : List V} {av : List Value} (h : LRel f args av) (m : Nat) : ∀ j, VRel f ((env0 args).t j) ((⟨av⟩ ++ Array.replicate m Go.undef : Array Value).getD j Go.undef) := by
  intro j
  simp only [env0, Array.getD_eq_getD_getElem?, Array.getElem?_append]
  by_cases hj : j < args.length
  · have hj' : j < av.length := by rw [← h.len]; exact hj
    rw [if_pos (by exact hj')]
    have e1 : args.getD j .undef = args[j] := by simp [List.getD, List.getElem?_eq_getElem hj]
    rw [e1]
    have e2 : (⟨av⟩ : Array Value)[j]? = some av[j] := by simp [List.getElem?_eq_getElem hj']
    rw [e2]
    exact h.at_ j _ _ (List.getElem?_eq_getElem hj) (List.getElem?_eq_getElem hj')
  · have e1 : args.getD j .undef = .undef := by simp [List.getD, List.getElem?_eq_none (Nat.le_of_not_lt hj)]
    rw [e1]
    exact .undef _

/-- A FUNCTION's CONTRACT, out of its body's walk. -/
theorem callS_of_sm {g : FuncId} {fn : Func} {c : Code} (hf : P.funcs[g]? = some fn) (hb : fn.body = some c) (hok : Code.okN fn.ntmps P.globals.size c = true) {args : List V} (hargs : args.length ≤ fn.ntmps) {H : Heap} {K : V → Heap → Prop}
    (h : Sm P fn.ntmps ⟨none, H.marks⟩ c (retK P fn K) (env0 args) H) : CallS P g args H K := by
  intro B w0 f w av kind cs hst has hno
  let b : Frame := { (default : Frame) with fn := g, kind := kind }
  have hsz : (⟨av⟩ : Array Value).size = args.length := has.len.symm
  have henter : Frame.enter P g ⟨av⟩ kind = b.atR { tmps := ⟨av⟩ ++ Array.replicate (fn.ntmps - (⟨av⟩ : Array Value).size) Go.undef, defers := [] } [.code c] := by
    simp [Frame.enter, Frame.atR, hf, hb, b]
    rfl
  have he : ERel f fn.ntmps (env0 args) { tmps := ⟨av⟩ ++ Array.replicate (fn.ntmps - (⟨av⟩ : Array Value).size) Go.undef, defers := [] } :=
    ⟨by simp only [Array.size_append, Array.size_replicate, hsz]; omega, env0_rel has _, .nil⟩
  obtain ⟨x, e1, H1, f1, a1, w1, q, hle, s1, s2, harr⟩ := h B w0 f _ w b [] cs hst he ⟨trivial, fun _ => hno, fun l h => by cases h⟩
  replace hle := hle.toLe hst
  rw [← henter] at harr
  have fin : ∀ (todo : List Item), leaveS P fn e1.t K e1.ds H1 → Steps P (lone (Frame.enter P g ⟨av⟩ kind) cs w) (lone { b.atR a1 todo with mode := .returning } cs w1) → (∃ v H' f' v' w' fr, K v H' ∧ f.le f' ∧ StRel P B w0 f' H' w' ∧ VRel f' v v' ∧ Steps P (lone (Frame.enter P g ⟨av⟩ kind) cs w) (lone fr cs w') ∧
      fr.fn = g ∧ fr.kind = kind ∧ fr.mode = .returning ∧ fr.defers = [] ∧ ∃ fn, P.funcs[fr.fn]? = some fn ∧ (results fn fr.tmps).run P w' = .ok v' w') := fun todo hl hs => by
    obtain ⟨v, H', f', v', w', fr', c1, c2, c3, c4, c5, c6, c7, c8, c9, c10⟩ := leave_sound e1.ds hl (fr := { b.atR a1 todo with mode := .returning }) (cs := cs) s1 s2.t s2.ds rfl hf
    exact ⟨v, H', f', v', w', fr', c1, hle.trans c2, c3, c4, hs.trans c5, c6, c7, c8, c9, fn, by rw [c6]; exact hf, c10⟩
  cases x with
  | normal => exact fin [] q (Steps.trans harr (.one (stepR_end rfl)))
  | ret => obtain ⟨k2, hs⟩ := harr; exact fin _ q (hs.trans (.one (stepR_ret rfl)))
  | exit id => exact q.elim
  | goto l => exact q.elim

theorem callS_of_wp (hm : P.follows .mixedOrders = true) {g : FuncId} {fn : Func} {c : Code} (hf : P.funcs[g]? = some fn) (hb : fn.body = some c) (hok : Code.okN fn.ntmps P.globals.size c = true) {args : List V} (hargs : args.length ≤ fn.ntmps) {H : Heap} {K : V → Heap → Prop}
    (h : wp P fn.ntmps ⟨none, H.marks⟩ c (retK P fn K) (env0 args) H) : CallS P g args H K := callS_of_sm hf hb hok hargs (wp_sound hm c _ _ _ hok h)

/-- A call of a function value that is a function with a body. -/
theorem invS_func {g : FuncId} {fn : Func} {c : Code} (hf : P.funcs[g]? = some fn) (hn : (fn.name == "runtime.NumGoroutine") = false) (hb : fn.body = some c) {fi ca args : List V} {H : Heap} {K : V → Heap → Prop}
    (h : CallS P g (fi ++ args ++ ca) H K) : InvS P (.fn (.func g) fi ca) args H K := by
  intro B w0 f w fv' av cf cs hst hfv has
  obtain ⟨fi', ca', rfl, h1, h2⟩ := hfv.fn_inv
  obtain ⟨v, H1, f1, v1, w1, fr1, hK, hle, s1, hv1, st, e1, e2, e3, e4, fn1, e5, e6⟩ := h B w0 f w (fi' ++ av ++ ca') .normal (cf :: cs) hst ((h1.append has).append h2) (noRec_normal _)
  refine ⟨v, H1, f1, v1, w1, hK, hle, s1, hv1, .inr (.inl ⟨g, ⟨fi' ++ av ++ ca'⟩, w, ?_, st.trans (.one ?_)⟩)⟩
  · have := enters_of hf hn hb ⟨fi' ++ av ++ ca'⟩ w
    simp only [Deferred.ofValue, Sem.run_bind, Sem.run_pure, Result.andThen_ok, invoke]
    have e : ((⟨fi'⟩ : Array Value) ++ ⟨av⟩ ++ ⟨ca'⟩ : Array Value) = ⟨fi' ++ av ++ ca'⟩ := by apply Array.ext'; simp
    rw [e]
    exact this
  · exact step_leave_returned ⟨e3, e4, e2, fn1, e5, e6⟩

/-- A call of a function without a Go body. -/
theorem invS_ext {g : FuncId} {fi ca args : List V} {H : Heap} {K : V → Heap → Prop}
    (h : ∀ (B : Nat) (w0 : World) (f : Inj) (w : World) (av : List Value), StRel P B w0 f H w → LRel f (fi ++ args ++ ca) av → ∃ v H' f' v' w', K v H' ∧ f.le f' ∧ StRel P B w0 f' H' w' ∧ VRel f' v v' ∧ (callFunc g ⟨av⟩).run P w = .ok (.value v') w') : InvS P (.fn (.func g) fi ca) args H K := by
  intro B w0 f w fv' av cf cs hst hfv has
  obtain ⟨fi', ca', rfl, h1, h2⟩ := hfv.fn_inv
  obtain ⟨v, H1, f1, v1, w1, hK, hle, s1, hv1, hrun⟩ := h B w0 f w (fi' ++ av ++ ca') hst ((h1.append has).append h2)
  refine ⟨v, H1, f1, v1, w1, hK, hle, s1, hv1, .inl ?_⟩
  simp only [Deferred.ofValue, Sem.run_bind, Sem.run_pure, Result.andThen_ok, invoke]
  have e : ((⟨fi'⟩ : Array Value) ++ ⟨av⟩ ++ ⟨ca'⟩ : Array Value) = ⟨fi' ++ av ++ ca'⟩ := by apply Array.ext'; simp
  rw [e]
  exact hrun

theorem setAll_rel {f : Inj} : ∀ (ps : List Tmp) {vs : List V} {av : List Value} {t : Nat → V} {tm : Array Value}, LRel f vs av → (∀ p ∈ ps, p < tm.size) → (∀ j, VRel f (t j) (tm.getD j Go.undef)) →
    (∀ j, VRel f (setAll t ps vs j) (((ps.zip av).foldl (fun (tm : Array Value) (p : Tmp × Value) => tm.setIfInBounds p.1 p.2) tm).getD j Go.undef)) ∧ ((ps.zip av).foldl (fun (tm : Array Value) (p : Tmp × Value) => tm.setIfInBounds p.1 p.2) tm).size = tm.size
  | [], vs, av, t, tm, _, _, ht => by cases vs <;> exact ⟨by simpa [setAll] using ht, by simp⟩
  | p :: ps, [], av, t, tm, h, _, ht => by rw [h.nil_inv]; exact ⟨by simpa [setAll] using ht, by simp⟩
  | p :: ps, v :: vs, av, t, tm, h, hp, ht => by
    obtain ⟨y, av', rfl, h1, h2⟩ := h.uncons
    have hp1 := hp p (by simp)
    have := setAll_rel ps (vs := vs) (av := av') (t := fset t p v) (tm := tm.setIfInBounds p y) h2 (fun q hq => by simpa using hp q (by simp [hq])) (fun j => by
      simp only [fset, Array.getD_eq_getD_getElem?, Array.getElem?_setIfInBounds]
      by_cases hj : j = p
      · subst hj
        rw [if_pos rfl, if_pos rfl, if_pos hp1]
        exact h1
      · rw [if_neg hj, if_neg (by omega)]
        have := ht j
        rwa [Array.getD_eq_getD_getElem?] at this)
    simpa [setAll] using this

def bodyK (l : Nat) (K : V → Heap → Prop) : Post := fun x e H =>
  ∃ rec, H.lps l = some rec ∧
    match x with
    | .normal => K (.bool true) (H.putLp l { rec with st := .ready, pend := none })
    | x => K (.bool false) (H.putLp l { rec with st := .done, pend := x.code })

/-- YIELD: the loop's body, in a frame of its own. -/
theorem invS_yield_sm {l : Nat} {rec : LoopRec} {H : Heap} (hl : H.lps l = some rec) (hst0 : rec.st = .ready) {args : List V} (hargs : rec.params.size = args.length) (hps : ∀ p ∈ rec.params.toList, p < rec.n)
    {K : V → Heap → Prop}
    (h : Sm P rec.n ⟨some l, H.marks⟩ rec.assign (fun x e H1 => x = .normal ∧ ∃ rec1, H1.lps l = some rec1 ∧ rec1.st = .ready ∧ Sm P rec.n ⟨some l, H.marks⟩ rec.body (bodyK l K) e (H1.putLp l { rec1 with st := .busy })) { t := setAll rec.t rec.params.toList args, ds := [] } H) :
    InvS P (.fn (.yield l) [] []) args H K := by
  intro B w0 f w fv' av cf cs hst hfv has
  obtain ⟨l', hl', _, _, rfl⟩ := hfv.yield_inv
  obtain ⟨g, tm, gd, hg, hB, hd, hn, ht, fn0, hh⟩ := hst.lps l rec hl
  have hlt : l < H.nl := Nat.lt_of_not_le fun hb => by rw [(hst.freshL l hb).2] at hl'; cases hl'
  rw [hl'] at hg; cases hg
  -- the round's frame
  obtain ⟨hset, hsize⟩ := setAll_rel rec.params.toList has (fun p hp => by rw [hn]; exact hps p hp) ht
  let tm2 := (rec.params.toList.zip av).foldl (fun (tm : Array Value) (p : Tmp × Value) => tm.setIfInBounds p.1 p.2) tm
  let b : Frame := { (default : Frame) with fn := fn0, kind := .normal, roundOf := some l' }
  have hb0 : Frame.round l' fn0 tm2 rec.assign rec.body .normal = b.atR { tmps := tm2, defers := [] } [.code rec.assign, .beginRound, .code rec.body] := by
    simp [Frame.round, Frame.atR, b]
  have hrun : (do let d ← Deferred.ofValue (.func (.yield l') #[] #[]) ⟨av⟩; invoke d.target d.args : Sem Next).run P w = .ok (.round l' fn0 tm2 rec.assign rec.body) w := by
    have hsz : (⟨av⟩ : Array Value).size = rec.params.size := by rw [hargs]; exact has.len.symm
    have hfold : ((rec.params.zip ⟨av⟩).foldl (fun tmps (t, a) => tmps.setIfInBounds t a) tm) = tm2 := by
      rw [← Array.foldl_toList, Array.toList_zip]
    simp only [Deferred.ofValue, Sem.run_bind, Sem.run_pure, Result.andThen_ok, invoke, Array.empty_append, Instr.yield, Instr.getLoop, getObj, Sem.run, hh, hsz, ne_eq, not_true_eq_false, if_false]
    rw [hfold]
  have he : ERel f rec.n { t := setAll rec.t rec.params.toList args, ds := [] } { tmps := tm2, defers := [] } := ⟨by rw [← hn]; exact hsize, hset, .nil⟩
  obtain ⟨x1, e1, H1, f1, a1, w1, ⟨rfl, rec1, hl1, hst1, hbody⟩, hle1, s1, s2, harr1⟩ := h B w0 f _ w b [.beginRound, .code rec.body] (cf :: cs) hst he ⟨hl', fun h => (by cases h), fun l0 h0 => by cases h0; exact hlt⟩
  have hlt2 := hle1.l _ _ hlt hl'
  rw [← hb0] at harr1
  -- begin
  obtain ⟨tmb, gdb, fnb, hhb, _, _, _, sb⟩ := putLp_sound s1 hl1 hlt2 .busy rec1.pend
  have hbegin : (Instr.beginRound l').run P w1 = .ok () { w1 with heap := w1.heap.setIfInBounds l' (.loop { state := .busy, pending := rec1.pend, fn := fnb, tmps := tmb, params := rec1.params, assign := rec1.assign, body := rec1.body, defers := gdb }) } := by
    simp [Instr.beginRound, Instr.getLoop, getObj, setObj, Sem.run, hhb, hst1]
  obtain ⟨x2, e2, H2, f2, a2, w2, ⟨rec2, hl2, hx2⟩, hle2, t1, t2, harr2⟩ := hbody B w0 f1 a1 _ b [] (cf :: cs) sb s2 ⟨hlt2, fun h => (by cases h), fun l0 h0 => by cases h0; exact hlt⟩
  have hle2' := (hle1.trans hle2).toLe hst
  have hgl2 : f2.l l = some l' := hle2'.l _ _ hl'
  have st1 : Steps P (lone (Frame.round l' fn0 tm2 rec.assign rec.body .normal) (cf :: cs) w) (lone (b.atR a1 [.code rec.body]) (cf :: cs) { w1 with heap := w1.heap.setIfInBounds l' (.loop { state := .busy, pending := rec1.pend, fn := fnb, tmps := tmb, params := rec1.params, assign := rec1.assign, body := rec1.body, defers := gdb }) }) :=
    Steps.trans harr1 (.one (stepR_beginRound rfl hbegin))
  cases x2 with
  | normal =>
    obtain ⟨tmc, gdc, fnc, hhc, _, _, _, sc⟩ := putLp_sound t1 hl2 hgl2 .ready none
    have hend : (Instr.endRound l' none).run P w2 = .ok (.bool true) { w2 with heap := w2.heap.setIfInBounds l' (.loop { state := .ready, pending := none, fn := fnc, tmps := tmc, params := rec2.params, assign := rec2.assign, body := rec2.body, defers := gdc }) } := by
      simp [Instr.endRound, Instr.getLoop, getObj, setObj, Sem.run, hhc]
    exact ⟨.bool true, _, f2, .bool true, _, hx2, hle2', sc, .bool true, .inr (.inr ⟨l', fn0, tm2, rec.assign, rec.body, w, hrun, st1.trans (Steps.trans harr2 (.one (stepR_round_end rfl rfl hend)))⟩)⟩
  | ret =>
    obtain ⟨tmc, gdc, fnc, hhc, _, _, _, sc⟩ := putLp_sound t1 hl2 hgl2 .done (some .ret)
    have hend : (Instr.endRound l' (some .ret)).run P w2 = .ok (.bool false) { w2 with heap := w2.heap.setIfInBounds l' (.loop { state := .done, pending := some .ret, fn := fnc, tmps := tmc, params := rec2.params, assign := rec2.assign, body := rec2.body, defers := gdc }) } := by
      simp [Instr.endRound, Instr.getLoop, getObj, setObj, Sem.run, hhc]
    obtain ⟨k2, hs⟩ := harr2
    exact ⟨.bool false, _, f2, .bool false, _, hx2, hle2', sc, .bool false, .inr (.inr ⟨l', fn0, tm2, rec.assign, rec.body, w, hrun, st1.trans (hs.trans (.one (stepR_round_ret rfl rfl hend)))⟩)⟩
  | exit id =>
    obtain ⟨tmc, gdc, fnc, hhc, _, _, _, sc⟩ := putLp_sound t1 hl2 hgl2 .done (some (.exit id))
    have hend : (Instr.endRound l' (some (.exit id))).run P w2 = .ok (.bool false) { w2 with heap := w2.heap.setIfInBounds l' (.loop { state := .done, pending := some (.exit id), fn := fnc, tmps := tmc, params := rec2.params, assign := rec2.assign, body := rec2.body, defers := gdc }) } := by
      simp [Instr.endRound, Instr.getLoop, getObj, setObj, Sem.run, hhc]
    obtain ⟨k2, hk2, hs⟩ := harr2
    exact ⟨.bool false, _, f2, .bool false, _, hx2, hle2', sc, .bool false, .inr (.inr ⟨l', fn0, tm2, rec.assign, rec.body, w, hrun, st1.trans (hs.trans (.one (stepR_round_exit rfl rfl (by rw [hk2]; rfl) hend)))⟩)⟩
  | goto t =>
    obtain ⟨tmc, gdc, fnc, hhc, _, _, _, sc⟩ := putLp_sound t1 hl2 hgl2 .done (some (.goto t))
    have hend : (Instr.endRound l' (some (.goto t))).run P w2 = .ok (.bool false) { w2 with heap := w2.heap.setIfInBounds l' (.loop { state := .done, pending := some (.goto t), fn := fnc, tmps := tmc, params := rec2.params, assign := rec2.assign, body := rec2.body, defers := gdc }) } := by
      simp [Instr.endRound, Instr.getLoop, getObj, setObj, Sem.run, hhc]
    obtain ⟨k2, hk2, hs⟩ := harr2
    exact ⟨.bool false, _, f2, .bool false, _, hx2, hle2', sc, .bool false, .inr (.inr ⟨l', fn0, tm2, rec.assign, rec.body, w, hrun, st1.trans (hs.trans (.one (stepR_round_goto rfl rfl (by rw [hk2]; rfl) hend)))⟩)⟩

theorem invS_yield (hm : P.follows .mixedOrders = true) {l : Nat} {rec : LoopRec} {H : Heap} (hl : H.lps l = some rec) (hst0 : rec.st = .ready) {args : List V} (hargs : rec.params.size = args.length) (hps : ∀ p ∈ rec.params.toList, p < rec.n)
    (hok : Code.okN rec.n P.globals.size rec.assign = true) (hok2 : Code.okN rec.n P.globals.size rec.body = true) {K : V → Heap → Prop}
    (h : wp P rec.n ⟨some l, H.marks⟩ rec.assign (fun x e H1 => x = .normal ∧ ∃ rec1, H1.lps l = some rec1 ∧ rec1.st = .ready ∧ wp P rec.n ⟨some l, H.marks⟩ rec.body (bodyK l K) e (H1.putLp l { rec1 with st := .busy })) { t := setAll rec.t rec.params.toList args, ds := [] } H) :
    InvS P (.fn (.yield l) [] []) args H K :=
  invS_yield_sm hl hst0 hargs hps (Sm.mono (wp_sound hm _ _ _ _ hok h) fun x e H1 hh => let ⟨a, rec1, b, c, d⟩ := hh; ⟨a, rec1, b, c, wp_sound hm _ _ _ _ hok2 d⟩)

/-- OUT TO THE MODEL: a contract in the kit's own word. -/
theorem calls_of_callS {g : FuncId} {args : List V} {H : Heap} {K : V → Heap → Prop} (h : CallS P g args H K) {B : Nat} {f : Inj} {w : World} {av : List Value} (hst : StRel P B w f H w) (has : LRel f args av) :
    Calls P g ⟨av⟩ w fun e w' => ∃ v H' f' v', e = .returned v' ∧ K v H' ∧ f.le f' ∧ StRel P B w f' H' w' ∧ VRel f' v v' := by
  intro cs
  obtain ⟨v, H1, f1, v1, w1, fr1, hK, hle, s1, hv1, st, e1, e2, e3, e4, fn1, e5, e6⟩ := h B w f w av .normal cs hst has (noRec_normal _)
  exact ⟨.returned v1, w1, fr1, ⟨v, H1, f1, v1, rfl, hK, hle, s1, hv1⟩, st, e1, e3, e4, e2, fn1, e5, e6⟩

end
end Go.Cm
