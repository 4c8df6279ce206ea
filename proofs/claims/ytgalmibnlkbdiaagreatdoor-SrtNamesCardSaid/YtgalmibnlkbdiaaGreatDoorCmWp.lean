/- The calculus: what code comes to on the abstract machine, and that the model follows. -/
import Derived.Test.YtgalmibnlkbdiaaGreatDoorCmOpsA
import Derived.RangeFuncIn
import Derived.RangeFuncLeaves
set_option linter.unusedVariables false
set_option linter.unusedSimpArgs false
namespace Go.Cm
open Go Go.RowKit

/-! ## Frames -/
inductive DsRel (f : Inj) : List Dfr → List Deferred → Prop
  | nil : DsRel f [] []
  | col (j g : Nat) (r : List Dfr) (r' : List Deferred) (h : f.d j = some g) (t : DsRel f r r') : DsRel f (.col j :: r) ({ target := .collected g, args := #[] } :: r')
  | call (g : FuncId) (fi ca args : List V) (fi' ca' args' : List Value) (r : List Dfr) (r' : List Deferred) (h1 : LRel f fi fi') (h2 : LRel f ca ca') (h3 : LRel f args args') (t : DsRel f r r') :
      DsRel f (.call (.fn (.func g) fi ca) args :: r) ({ target := .fn (.func g) ⟨ca'⟩, args := ⟨fi' ++ args'⟩ } :: r')

theorem DsRel.mono {f f' : Inj} (hf : f.le f') {l : List Dfr} {m : List Deferred} (h : DsRel f l m) : DsRel f' l m := by
  induction h with
  | nil => exact .nil
  | col j g r r' h _ ih => exact .col j g r r' (hf.d _ _ h) ih
  | call g fi ca args fi' ca' args' r r' h1 h2 h3 _ ih => exact .call g fi ca args fi' ca' args' r r' (h1.mono hf) (h2.mono hf) (h3.mono hf) ih

structure ERel (f : Inj) (n : Nat) (e : Env) (a : Act) : Prop where
  size : a.tmps.size = n
  t : ∀ j, VRel f (e.t j) (a.tmps.getD j Go.undef)
  ds : DsRel f e.ds a.defers

theorem ERel.mono {f f' : Inj} (hf : f.le f') {n : Nat} {e : Env} {a : Act} (h : ERel f n e a) : ERel f' n e a := ⟨h.size, fun j => (h.t j).mono hf, h.ds.mono hf⟩

theorem ERel.put {f : Inj} {n : Nat} {e : Env} {a : Act} (h : ERel f n e a) {d : Option Tmp} (hd : ∀ x, d = some x → x < n) {v : V} {v' : Value} (hv : VRel f v v') : ERel f n (e.put d v) (a.put d v') := by
  cases d with
  | none => exact h
  | some d =>
    have hd' := hd d rfl
    refine ⟨by simp [Act.put, h.size], fun j => ?_, h.ds⟩
    simp only [Env.put, Act.put, fset, Array.getD_eq_getD_getElem?, Array.getElem?_setIfInBounds]
    by_cases hj : j = d
    · subst hj
      rw [if_pos rfl, if_pos rfl, if_pos (by rw [h.size]; exact hd')]
      exact hv
    · rw [if_neg hj, if_neg (by omega)]
      have := h.t j
      rwa [Array.getD_eq_getD_getElem?] at this

def RoundRel (f : Inj) : Option Nat → Option Nat → Prop
  | none, none => True
  | some l, some l' => f.l l = some l'
  | _, _ => False

theorem RoundRel.mono {f f' : Inj} (hf : f.le f') {r ro : Option Nat} (h : RoundRel f r ro) : RoundRel f' r ro := by
  cases r <;> cases ro <;> first | exact h | exact hf.l _ _ h

/-- No panic of a frame above can be taken up here. -/
def NoRec (kind : CallKind) (cs : List Frame) : Prop := ∀ fr : Frame, fr.kind = kind → tryRecover fr cs = none

theorem noRec_normal (cs : List Frame) : NoRec .normal cs := fun fr h => by unfold tryRecover; rw [h]
theorem noRec_deferred {c : Frame} {cs : List Frame} (h : c.mode = .returning) : NoRec .deferred (c :: cs) := fun fr hk => by unfold tryRecover; rw [hk]; simp [h]

/-- How far a frame's caller sees. -/
structure Marks where
  c : Nat
  i : Nat
  l : Nat
  d : Nat

def Heap.marks (H : Heap) : Marks := ⟨H.nc, H.ni, H.nl, H.nd⟩

/-- In which round of a loop code runs, if in one; and its frame's marks. -/
structure Rd where
  l : Option Nat
  m : Marks

structure Inj.leM (m : Marks) (f f' : Inj) : Prop where
  c : ∀ b x, b < m.c → f.c b = some x → f'.c b = some x
  i : ∀ b x, b < m.i → f.i b = some x → f'.i b = some x
  l : ∀ b x, b < m.l → f.l b = some x → f'.l b = some x
  d : ∀ b x, b < m.d → f.d b = some x → f'.d b = some x

theorem Inj.le.toM {f f' : Inj} (h : f.le f') (m : Marks) : f.leM m f' := ⟨fun b x _ k => h.c b x k, fun b x _ k => h.i b x k, fun b x _ k => h.l b x k, fun b x _ k => h.d b x k⟩
theorem Inj.leM.refl (m : Marks) (f : Inj) : f.leM m f := (Inj.le.refl f).toM m
theorem Inj.leM.trans {m : Marks} {f g h : Inj} (a : f.leM m g) (b : g.leM m h) : f.leM m h :=
  ⟨fun x y l k => b.c x y l (a.c x y l k), fun x y l k => b.i x y l (a.i x y l k), fun x y l k => b.l x y l (a.l x y l k), fun x y l k => b.d x y l (a.d x y l k)⟩

def RR (f : Inj) (r : Rd) (b : Frame) (cs : List Frame) : Prop := RoundRel f r.l b.roundOf ∧ (r.l = none → NoRec b.kind cs) ∧ (∀ l, r.l = some l → l < r.m.l)
theorem RR.monoM {f f' : Inj} {r : Rd} (hf : f.leM r.m f') {b : Frame} {cs : List Frame} (h : RR f r b cs) : RR f' r b cs := by
  refine ⟨?_, h.2⟩
  obtain ⟨h1, _, h3⟩ := h
  cases hr : r.l with
  | none => rw [hr] at h1; cases hb : b.roundOf with
    | none => trivial
    | some l => rw [hb] at h1; exact h1.elim
  | some l => rw [hr] at h1; cases hb : b.roundOf with
    | none => rw [hb] at h1; exact h1.elim
    | some l' => rw [hb] at h1; exact hf.l _ _ (h3 l hr) h1
theorem RR.mono {f f' : Inj} (hf : f.le f') {r : Rd} {b : Frame} {cs : List Frame} (h : RR f r b cs) : RR f' r b cs := h.monoM (hf.toM _)

theorem Inj.leM.toLe {P : Program} {B : Nat} {w0 : World} {f f' : Inj} {H : Heap} {w : World} (h : f.leM H.marks f') (hst : StRel P B w0 f H w) : f.le f' := by
  refine ⟨fun b x k => h.c b x ?_ k, fun b x k => h.i b x ?_ k, fun b x k => h.l b x ?_ k, fun b x k => h.d b x ?_ k⟩
  · exact Nat.lt_of_not_le fun hb => by rw [(hst.freshC b hb).2] at k; cases k
  · exact Nat.lt_of_not_le fun hb => by rw [(hst.freshI b hb).2] at k; cases k
  · exact Nat.lt_of_not_le fun hb => by rw [(hst.freshL b hb).2] at k; cases k
  · exact Nat.lt_of_not_le fun hb => by rw [(hst.freshD b hb).2] at k; cases k

abbrev Post := X → Env → Heap → Prop

def Arr (P : Program) (m : Machine) (b : Frame) (k : List Item) (cs : List Frame) : X → Act → World → Prop
  | .normal, a, w => Steps P m (lone (b.atR a k) cs w)
  | .exit id, a, w => ∃ k2, exitTo id k2 = exitTo id k ∧ Steps P m (lone (b.atR a (.code (.exit id) :: k2)) cs w)
  | .goto l, a, w => ∃ k2, gotoIn l k2 = gotoIn l k ∧ Steps P m (lone (b.atR a (.code (.goto l) :: k2)) cs w)
  | .ret, a, w => ∃ k2, Steps P m (lone (b.atR a (.code .ret :: k2)) cs w)

theorem Arr.of_steps {P : Program} {m m' : Machine} {b : Frame} {k : List Item} {cs : List Frame} {x : X} {a : Act} {w : World} (h : Steps P m m') (h' : Arr P m' b k cs x a w) : Arr P m b k cs x a w := by
  cases x with
  | normal => exact h.trans h'
  | exit id => obtain ⟨k2, e, s⟩ := h'; exact ⟨k2, e, h.trans s⟩
  | goto l => obtain ⟨k2, e, s⟩ := h'; exact ⟨k2, e, h.trans s⟩
  | ret => obtain ⟨k2, s⟩ := h'; exact ⟨k2, h.trans s⟩

/-- Code, semantically. -/
def Sm (P : Program) (n : Nat) (r : Rd) (c : Code) (Q : Post) (e : Env) (H : Heap) : Prop :=
  ∀ (B : Nat) (w0 : World) (f : Inj) (a : Act) (w : World) (b : Frame) (k : List Item) (cs : List Frame), StRel P B w0 f H w → ERel f n e a → RR f r b cs →
    ∃ x e' H' f' a' w', Q x e' H' ∧ f.leM r.m f' ∧ StRel P B w0 f' H' w' ∧ ERel f' n e' a' ∧ Arr P (lone (b.atR a (.code c :: k)) cs w) b k cs x a' w'

/-- A call, semantically: of a function by its number. -/
def CallS (P : Program) (g : FuncId) (args : List V) (H : Heap) (K : V → Heap → Prop) : Prop :=
  ∀ (B : Nat) (w0 : World) (f : Inj) (w : World) (as : List Value) (kind : CallKind) (cs : List Frame), StRel P B w0 f H w → LRel f args as → NoRec kind cs →
    ∃ v H' f' v' w' fr, K v H' ∧ f.le f' ∧ StRel P B w0 f' H' w' ∧ VRel f' v v' ∧ Steps P (lone (Frame.enter P g ⟨as⟩ kind) cs w) (lone fr cs w') ∧
      fr.fn = g ∧ fr.kind = kind ∧ fr.mode = .returning ∧ fr.defers = [] ∧ ∃ fn, P.funcs[fr.fn]? = some fn ∧ (results fn fr.tmps).run P w' = .ok v' w'

/-- What applying comes to, in a frame c above cs. -/
def Applies (P : Program) (s : Sem Next) (c : Frame) (cs : List Frame) (w : World) (v' : Value) (w' : World) : Prop :=
  s.run P w = .ok (.value v') w' ∨
  (∃ g args w1, s.run P w = .ok (.enter g args) w1 ∧ Steps P (lone (Frame.enter P g args .normal) (c :: cs) w1) (lone (c.finish v') cs w')) ∨
  (∃ l g tm asg body w1, s.run P w = .ok (.round l g tm asg body) w1 ∧ Steps P (lone (Frame.round l g tm asg body .normal) (c :: cs) w1) (lone (c.finish v') cs w'))

/-- A call of a function value, semantically. -/
def InvS (P : Program) (fv : V) (args : List V) (H : Heap) (K : V → Heap → Prop) : Prop :=
  ∀ (B : Nat) (w0 : World) (f : Inj) (w : World) (fv' : Value) (as : List Value) (c : Frame) (cs : List Frame), StRel P B w0 f H w → VRel f fv fv' → LRel f args as →
    ∃ v H' f' v' w', K v H' ∧ f.le f' ∧ StRel P B w0 f' H' w' ∧ VRel f' v v' ∧ Applies P (do let d ← Deferred.ofValue fv' ⟨as⟩; invoke d.target d.args) c cs w v' w'

theorem CallS.mono {P : Program} {g : FuncId} {args : List V} {H : Heap} {K K' : V → Heap → Prop} (h : CallS P g args H K) (hk : ∀ v H, K v H → K' v H) : CallS P g args H K' :=
  fun B w0 f w as kind cs h1 h2 h3 => let ⟨v, H', f', v', w', fr, k, r⟩ := h B w0 f w as kind cs h1 h2 h3; ⟨v, H', f', v', w', fr, hk _ _ k, r⟩
theorem InvS.mono {P : Program} {fv : V} {args : List V} {H : Heap} {K K' : V → Heap → Prop} (h : InvS P fv args H K) (hk : ∀ v H, K v H → K' v H) : InvS P fv args H K' :=
  fun B w0 f w fv' as c cs h1 h2 h3 => let ⟨v, H', f', v', w', k, r⟩ := h B w0 f w fv' as c cs h1 h2 h3; ⟨v, H', f', v', w', hk _ _ k, r⟩

/-! ## The calculus -/
/-- One operation. -/
def wpOp (P : Program) (r : Rd) (ops : Array Oper) (o : Oper) (K : Env → Heap → Prop) (e : Env) (H : Heap) : Prop :=
  match wantedE ops o e with
  | none => False
  | some false => K (e.put o.dst (.tuple [])) H
  | some true =>
    match stepOp P e.ev o H with
    | .val v H' => K (e.put o.dst v) H'
    | .call fv args => InvS P fv args H (fun v H' => K (e.put o.dst v) H')
    | .dfr fv args => r.l = none ∧ (∃ g fi ca, fv = .fn (.func g) fi ca) ∧ K ({ e with ds := .call fv args :: e.ds }.put o.dst (.tuple [])) H
    | .recov => r.l = none ∧ K (e.put o.dst .nilif) H
    | .fail => False

def wpOps (P : Program) (r : Rd) (ops : Array Oper) : List Oper → Post → Env → Heap → Prop
  | [], Q, e, H => Q .normal e H
  | o :: l, Q, e, H => wpOp P r ops o (fun e H => wpOps P r ops l Q e H) e H

/-- In whatever order the edges let. -/
def wpAny (P : Program) (r : Rd) (ops : Array Oper) (Q : Post) : Nat → Array Bool → Env → Heap → Prop
  | 0, listed, e, H => Region.ready .any ops listed = [] ∧ Q .normal e H
  | fuel + 1, listed, e, H => (Region.ready .any ops listed = [] → Q .normal e H) ∧
    ∀ i ∈ Region.ready .any ops listed, match ops[i]? with
      | some o => wpOp P r ops o (fun e H => wpAny P r ops Q fuel (listed.setIfInBounds i true) e H) e H
      | none => False

def seqK (K : Env → Heap → Prop) (Q : Post) : Post
  | .normal, e, H => K e H
  | x, e, H => Q x e H

def blockK (id : Nat) (Q : Post) : Post
  | .exit j, e, H => if j = id then Q .normal e H else Q (.exit j) e H
  | x, e, H => Q x e H

def loopN (body : Post → Env → Heap → Prop) (Q : Post) : Nat → Env → Heap → Prop
  | 0, _, _ => False
  | k + 1, e, H => body (seqK (fun e H => loopN body Q k e H) Q) e H

def setAll (t : Nat → V) : List Tmp → List V → Nat → V
  | p :: ps, v :: vs => setAll (fset t p v) ps vs
  | _, _ => t

/-- A loop over a function. -/
def rangeS (P : Program) (n : Nat) (r : Rd) (g : Operand) (ps : Array Tmp) (asg body : Code) (Q : Post) (e : Env) (H : Heap) : Prop :=
  match r.l with
  | none =>
    InvS P (e.ev g) [.fn (.yield H.nl) [] []] (H.pushDs.pushLp ⟨.ready, none, e.t, n, ps, asg, body, H.nd⟩) fun _ H3 =>
      ∃ rec, H3.lps H.nl = some rec ∧ rec.st ≠ .busy ∧
        ((rec.pend = none ∧ Q .normal { e with ds := .col H.nd :: e.ds } (H3.putLp H.nl { rec with st := .exhausted })) ∨
         (∃ x : X, rec.pend = x.code ∧ x ≠ .normal ∧ Q x { e with ds := .col H.nd :: e.ds } (H3.putLp H.nl { rec with st := .exhausted })))
  | some l0 =>
    ∃ r0, H.lps l0 = some r0 ∧
    InvS P (e.ev g) [.fn (.yield H.nl) [] []] (H.pushLp ⟨.ready, none, e.t, n, ps, asg, body, r0.dfr⟩) fun _ H3 =>
      ∃ rec, H3.lps H.nl = some rec ∧ rec.st ≠ .busy ∧
        ((rec.pend = none ∧ Q .normal e (H3.putLp H.nl { rec with st := .exhausted })) ∨
         (∃ x : X, rec.pend = x.code ∧ x ≠ .normal ∧ Q x e (H3.putLp H.nl { rec with st := .exhausted })))

def wp (P : Program) (n : Nat) (r : Rd) : Code → Post → Env → Heap → Prop
  | .skip, Q, e, H => Q .normal e H
  | .label _, Q, e, H => Q .normal e H
  | .region _ ops true, Q, e, H => wpAny P r ops Q ops.size (Array.replicate ops.size false) e H
  | .region _ ops false, Q, e, H => wpOps P r ops ops.toList Q e H
  | .seq a b, Q, e, H => wp P n r a (seqK (fun e H => wp P n r b Q e H) Q) e H
  | .cond c a b, Q, e, H => match e.ev c with
    | .bool true => wp P n r a Q e H
    | .bool false => wp P n r b Q e H
    | _ => False
  | .block id c, Q, e, H => wp P n r c (blockK id Q) e H
  | .loop c, Q, e, H => ∃ k, loopN (fun Q e H => wp P n r c Q e H) Q k e H
  | .scope c, Q, e, H => Sm P n r (.scope c) Q e H
  | .rangeFunc g ps a b, Q, e, H => rangeS P n r g ps a b Q e H
  | .exit id, Q, e, H => Q (.exit id) e H
  | .goto l, Q, e, H => Q (.goto l) e H
  | .ret, Q, e, H => Q .ret e H
  | .refuse _, _, _, _ => False

/-! ## Soundness -/
section
variable {P : Program} {n : Nat} {r : Rd}

theorem Sm.mono {c : Code} {Q Q' : Post} {e : Env} {H : Heap} (h : Sm P n r c Q e H) (hq : ∀ x e H, Q x e H → Q' x e H) : Sm P n r c Q' e H :=
  fun B w0 f a w b k cs h1 h2 h3 => let ⟨x, e', H', f', a', w', q, rest⟩ := h B w0 f a w b k cs h1 h2 h3; ⟨x, e', H', f', a', w', hq _ _ _ q, rest⟩

theorem sm_skip {Q : Post} {e : Env} {H : Heap} (h : Q .normal e H) : Sm P n r .skip Q e H :=
  fun B w0 f a w b k cs h1 h2 h3 => ⟨.normal, e, H, f, a, w, h, .refl _ f, h1, h2, .one stepR_skip⟩
theorem sm_label {l : Nat} {Q : Post} {e : Env} {H : Heap} (h : Q .normal e H) : Sm P n r (.label l) Q e H :=
  fun B w0 f a w b k cs h1 h2 h3 => ⟨.normal, e, H, f, a, w, h, .refl _ f, h1, h2, .one stepR_label⟩
theorem sm_exit {id : Nat} {Q : Post} {e : Env} {H : Heap} (h : Q (.exit id) e H) : Sm P n r (.exit id) Q e H :=
  fun B w0 f a w b k cs h1 h2 h3 => ⟨.exit id, e, H, f, a, w, h, .refl _ f, h1, h2, k, rfl, .refl _ _⟩
theorem sm_goto {l : Nat} {Q : Post} {e : Env} {H : Heap} (h : Q (.goto l) e H) : Sm P n r (.goto l) Q e H :=
  fun B w0 f a w b k cs h1 h2 h3 => ⟨.goto l, e, H, f, a, w, h, .refl _ f, h1, h2, k, rfl, .refl _ _⟩
theorem sm_ret {Q : Post} {e : Env} {H : Heap} (h : Q .ret e H) : Sm P n r .ret Q e H :=
  fun B w0 f a w b k cs h1 h2 h3 => ⟨.ret, e, H, f, a, w, h, .refl _ f, h1, h2, k, .refl _ _⟩

/-- What is neither a block's nor a scope's end may be passed. -/
theorem Arr.pass {m : Machine} {b : Frame} {y : Item} {k : List Item} {cs : List Frame} {x : X} {a : Act} {w : World} (hy : y.plain = true) (hx : x ≠ .normal) (h : Arr P m b (y :: k) cs x a w) : Arr P m b k cs x a w := by
  cases x with
  | normal => exact absurd rfl hx
  | exit id => obtain ⟨k2, e, s⟩ := h; exact ⟨k2, by rw [e]; cases y <;> first | rfl | (simp [Item.plain] at hy), s⟩
  | goto l => obtain ⟨k2, e, s⟩ := h; exact ⟨k2, by rw [e]; cases y <;> first | rfl | (simp [Item.plain] at hy), s⟩
  | ret => exact h

theorem sm_seq {c d : Code} {Q : Post} {e : Env} {H : Heap} (h : Sm P n r c (seqK (fun e H => Sm P n r d Q e H) Q) e H) : Sm P n r (.seq c d) Q e H := by
  intro B w0 f a w b k cs h1 h2 h3
  obtain ⟨x, e1, H1, f1, a1, w1, q, hle, s1, s2, harr⟩ := h B w0 f a w b (.code d :: k) cs h1 h2 h3
  have harr' := Arr.of_steps (.one stepR_seq) harr
  cases x with
  | normal =>
    obtain ⟨x2, e2, H2, f2, a2, w2, q2, hle2, t1, t2, harr2⟩ := q B w0 f1 a1 w1 b k cs s1 s2 (h3.monoM hle)
    exact ⟨x2, e2, H2, f2, a2, w2, q2, hle.trans hle2, t1, t2, .of_steps harr' harr2⟩
  | exit id => exact ⟨_, e1, H1, f1, a1, w1, q, hle, s1, s2, harr'.pass rfl (by simp)⟩
  | goto l => exact ⟨_, e1, H1, f1, a1, w1, q, hle, s1, s2, harr'.pass rfl (by simp)⟩
  | ret => exact ⟨_, e1, H1, f1, a1, w1, q, hle, s1, s2, harr'.pass rfl (by simp)⟩

theorem sm_block {id : Nat} {c : Code} {Q : Post} {e : Env} {H : Heap} (h : Sm P n r c (blockK id Q) e H) : Sm P n r (.block id c) Q e H := by
  intro B w0 f a w b k cs h1 h2 h3
  obtain ⟨x, e1, H1, f1, a1, w1, q, hle, s1, s2, harr⟩ := h B w0 f a w b (.inBlock id :: k) cs h1 h2 h3
  have harr' := Arr.of_steps (.one stepR_block) harr
  cases x with
  | normal => exact ⟨.normal, e1, H1, f1, a1, w1, q, hle, s1, s2, Steps.trans harr' (.one stepR_inBlock)⟩
  | exit j =>
    obtain ⟨k2, ek, s⟩ := harr'
    by_cases hj : j = id
    · subst hj
      simp only [blockK, if_true] at q
      refine ⟨.normal, e1, H1, f1, a1, w1, q, hle, s1, s2, s.trans (.one (stepR_exit ?_))⟩
      rw [ek]; simp [exitTo]
    · simp only [blockK, hj, if_false] at q
      refine ⟨.exit j, e1, H1, f1, a1, w1, q, hle, s1, s2, k2, ?_, s⟩
      rw [ek]
      have : (id == j) = false := by simp; omega
      simp [exitTo, this]
  | goto l =>
    obtain ⟨k2, ek, s⟩ := harr'
    exact ⟨.goto l, e1, H1, f1, a1, w1, q, hle, s1, s2, k2, by rw [ek]; rfl, s⟩
  | ret => exact ⟨.ret, e1, H1, f1, a1, w1, q, hle, s1, s2, harr'⟩

theorem sm_loop {c : Code} {Q : Post} : ∀ (j : Nat) {e : Env} {H : Heap}, loopN (fun Q e H => Sm P n r c Q e H) Q j e H →
    ∀ (B : Nat) (w0 : World) (f : Inj) (a : Act) (w : World) (b : Frame) (k : List Item) (cs : List Frame), StRel P B w0 f H w → ERel f n e a → RR f r b cs →
    ∃ x e' H' f' a' w', Q x e' H' ∧ f.leM r.m f' ∧ StRel P B w0 f' H' w' ∧ ERel f' n e' a' ∧ Arr P (lone (b.atR a (.code c :: .inLoop c :: k)) cs w) b k cs x a' w'
  | 0, e, H, h => h.elim
  | j + 1, e, H, h => by
    intro B w0 f a w b k cs h1 h2 h3
    obtain ⟨x, e1, H1, f1, a1, w1, q, hle, s1, s2, harr⟩ := h B w0 f a w b (.inLoop c :: k) cs h1 h2 h3
    cases x with
    | normal =>
      obtain ⟨x2, e2, H2, f2, a2, w2, q2, hle2, t1, t2, harr2⟩ := sm_loop j q B w0 f1 a1 w1 b k cs s1 s2 (h3.monoM hle)
      exact ⟨x2, e2, H2, f2, a2, w2, q2, hle.trans hle2, t1, t2, .of_steps (Steps.trans harr (.one stepR_inLoop)) harr2⟩
    | exit id => exact ⟨_, e1, H1, f1, a1, w1, q, hle, s1, s2, harr.pass rfl (by simp)⟩
    | goto l => exact ⟨_, e1, H1, f1, a1, w1, q, hle, s1, s2, harr.pass rfl (by simp)⟩
    | ret => exact ⟨_, e1, H1, f1, a1, w1, q, hle, s1, s2, harr.pass rfl (by simp)⟩

end
end Go.Cm
