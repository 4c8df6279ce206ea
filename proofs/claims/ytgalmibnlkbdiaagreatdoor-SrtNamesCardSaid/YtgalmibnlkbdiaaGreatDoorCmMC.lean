/- Code in short: regions as lists of short operations, in one order; the rules. -/
import Derived.Test.YtgalmibnlkbdiaaGreatDoorCmM
set_option linter.unusedVariables false
set_option linter.unusedSimpArgs false
namespace Go.Cm
open Go Go.RowKit

abbrev Gd := Option (Option Tmp × Bool)

inductive MI where
  | op (d : Option Tmp) (m : MOp)
  | gd (s : Option Tmp) (w : Bool) (d : Option Tmp) (m : MOp)
  | nt (g : Gd) (d : Option Tmp) (m : MOp)
  | ck (n : Bool) (g : Gd) (d : Option Tmp) (m : MOp)

def gval (e : Env) (s : Option Tmp) (w : Bool) : Option Bool :=
  match s with
  | none => some false
  | some s => match e.t s with
    | .bool b => some (b == w)
    | .tuple [] => some false
    | _ => none

def MR (P : Program) (r : Rd) (e : Env) (d : Option Tmp) (K : Env → Heap → Prop) (H : Heap) : OpR → Prop
  | .val v H' => K (e.put d v) H'
  | .call fv args => InvS P fv args H (fun v H' => K (e.put d v) H')
  | .dfr fv args => r.l = none ∧ (∃ g fi ca, fv = .fn (.func g) fi ca) ∧ K ({ e with ds := .call fv args :: e.ds }.put d (.tuple [])) H
  | .recov => r.l = none ∧ K (e.put d .nilif) H
  | .fail => False

def EvM (P : Program) (e : Env) (H : Heap) (m : MOp) (v : V) : Prop :=
  match mstep P e.ev m H with
  | .val u H' => u = v ∧ H' = H
  | .call fv args => InvS P fv args H (fun v' H' => v' = v ∧ H' = H)
  | _ => False

def LkM (P : Program) (e : Env) (H : Heap) (m : MOp) (v : V) : Prop :=
  match mstep P e.ev m H with
  | .val u _ => u = v
  | _ => False

def GdM (e : Env) (g : Gd) (v : V) (p : Prop) : Prop :=
  match g with
  | none => p
  | some (s, w) => ∃ b, gval e s w = some b ∧ (b = false → v = .tuple []) ∧ (b = true → p)

def ckM (P : Program) (e : Env) (H : Heap) (n : Bool) (g : Gd) (d : Option Tmp) (m : MOp) : Prop :=
  match d with
  | none => ∃ v, GdM e g v (if n then EvM P e H m v else LkM P e H m v)
  | some d => GdM e g (e.t d) (if n then EvM P e H m (e.t d) else LkM P e H m (e.t d))

def wpM (P : Program) (r : Rd) : List MI → (Env → Heap → Prop) → Env → Heap → Prop
  | [], K, e, H => K e H
  | .op d m :: l, K, e, H => MR P r e d (wpM P r l K) H (mstep P e.ev m H)
  | .gd s w d m :: l, K, e, H => ∃ b, gval e s w = some b ∧ (b = false → wpM P r l K (e.put d (.tuple [])) H) ∧ (b = true → MR P r e d (wpM P r l K) H (mstep P e.ev m H))
  | .nt g d m :: l, K, e, H => ∃ v, GdM e g v (EvM P e H m v) ∧ wpM P r l K (e.put d v) H
  | .ck n g d m :: l, K, e, H => ckM P e H n g d m ∧ wpM P r l K e H

/-! ## Regions -/
def guardOf (ops : Array Oper) (o : Oper) : Gd := o.guard.map fun p => ((ops[p.1]?).bind (·.dst), p.2)

def toMI (P : Program) (ops : Array Oper) (o : Oper) : MI :=
  match guardOf ops o with
  | none => .op o.dst (compile P o.op)
  | some (s, w) => .gd s w o.dst (compile P o.op)

def ordMI (P : Program) (ops : Array Oper) (N : List Nat) : List (Nat × List Nat) → Option (List MI)
  | [] => some []
  | (i, ks) :: l =>
    match ops[i]?, ordMI P ops N l, ks.mapM (fun k => (ops[k]?).map fun o => MI.ck (N.contains k) (guardOf ops o) o.dst (compile P o.op)) with
    | some o, some r, some cks => some ((if N.contains i then [.nt (guardOf ops o) o.dst (compile P o.op)] else toMI P ops o :: cks) ++ r)
    | _, _, _ => none

def regMI (P : Program) (ops : Array Oper) (N : List Nat) (ord : List (Nat × List Nat)) (drawn : Bool) : Option (List MI) :=
  if drawn then
    (match okOrd P ops N ord && ord.all fun p => reOf ord p.1 == p.2 with
    | true => ordMI P ops N ord
    | false => none)
  else some (ops.toList.map (toMI P ops))

section
variable {P : Program} {n : Nat} {r : Rd} {ops : Array Oper}

theorem gval_eq {o : Oper} {e : Env} {s : Option Tmp} {w : Bool} (h : guardOf ops o = some (s, w)) : wantedE ops o e = gval e s w := by
  unfold guardOf at h
  unfold wantedE
  cases hg : o.guard with
  | none => rw [hg] at h; cases h
  | some p =>
    obtain ⟨j, w'⟩ := p
    rw [hg] at h
    simp only [Option.map_some, Option.some.injEq, Prod.mk.injEq] at h
    obtain ⟨h1, rfl⟩ := h
    simp only [h1, gval]
    cases s <;> rfl

theorem guard_none {o : Oper} {e : Env} (h : guardOf ops o = none) : wantedE ops o e = some true := by
  unfold guardOf at h
  unfold wantedE
  cases hg : o.guard with
  | none => rfl
  | some p => rw [hg] at h; cases h

theorem MR_sound {e : Env} {d : Option Tmp} {K : Env → Heap → Prop} {H : Heap} {o : Oper} (h : MR P r e d K H (mstep P e.ev (compile P o.op) H)) :
    (match stepOp P e.ev o H with
    | .val v H' => K (e.put d v) H'
    | .call fv args => InvS P fv args H (fun v H' => K (e.put d v) H')
    | .dfr fv args => r.l = none ∧ (∃ g fi ca, fv = .fn (.func g) fi ca) ∧ K ({ e with ds := .call fv args :: e.ds }.put d (.tuple [])) H
    | .recov => r.l = none ∧ K (e.put d .nilif) H
    | .fail => False) := by
  have hne : mstep P e.ev (compile P o.op) H ≠ .fail := fun hh => by rw [hh] at h; exact h
  rw [comp_sound hne]
  cases hs : mstep P e.ev (compile P o.op) H <;> rw [hs] at h <;> exact h

theorem toMI_sound {o : Oper} {l : List MI} {K : Env → Heap → Prop} {e : Env} {H : Heap} (h : wpM P r (toMI P ops o :: l) K e H) : wpOp P r ops o (wpM P r l K) e H := by
  unfold toMI at h
  unfold wpOp
  cases hg : guardOf ops o with
  | none =>
    rw [hg] at h
    rw [guard_none hg]
    exact MR_sound h
  | some q =>
    obtain ⟨s, w⟩ := q
    rw [hg] at h
    obtain ⟨b, hb, h1, h2⟩ := h
    rw [gval_eq hg, hb]
    cases b with
    | false => exact h1 rfl
    | true => exact MR_sound (h2 rfl)

theorem ops_sound {Q : Post} : ∀ {l : List Oper} {e : Env} {H : Heap}, wpM P r (l.map (toMI P ops)) (fun e H => Q .normal e H) e H → wpOps P r ops l Q e H
  | [], e, H, h => h
  | o :: l, e, H, h => wpOp_mono (toMI_sound (l := l.map (toMI P ops)) h) fun e H hh => ops_sound hh

theorem EvM_sound {e : Env} {H : Heap} {o : Oper} {v : V} (h : GdM e (guardOf ops o) v (EvM P e H (compile P o.op) v)) : Ev P ops o e H v := by
  unfold Ev
  have key : EvM P e H (compile P o.op) v → (match stepOp P e.ev o H with
    | .val u H' => u = v ∧ H' = H
    | .call fv args => InvS P fv args H (fun v' H' => v' = v ∧ H' = H)
    | _ => False) := by
    intro h
    unfold EvM at h
    have hne : mstep P e.ev (compile P o.op) H ≠ .fail := fun hh => by rw [hh] at h; exact h
    rw [comp_sound hne]
    exact h
  cases hg : guardOf ops o with
  | none => rw [hg] at h; rw [guard_none hg]; exact key h
  | some q =>
    obtain ⟨s, w⟩ := q
    rw [hg] at h
    obtain ⟨b, hb, h1, h2⟩ := h
    rw [gval_eq hg, hb]
    cases b with
    | false => exact h1 rfl
    | true => exact key (h2 rfl)

theorem LkM_sound {e : Env} {H : Heap} {o : Oper} {v : V} (h : GdM e (guardOf ops o) v (LkM P e H (compile P o.op) v)) : evalL P ops o e H = some v := by
  unfold evalL
  have key : LkM P e H (compile P o.op) v → (match stepOp P e.ev o H with
    | .val v _ => some v
    | _ => none) = some v := by
    intro h
    unfold LkM at h
    have hne : mstep P e.ev (compile P o.op) H ≠ .fail := fun hh => by rw [hh] at h; exact h
    rw [comp_sound hne]
    cases hs : mstep P e.ev (compile P o.op) H <;> rw [hs] at h <;> first | exact h.elim | (simp only at h; rw [h])
  cases hg : guardOf ops o with
  | none => rw [hg] at h; rw [guard_none hg]; exact key h
  | some q =>
    obtain ⟨s, w⟩ := q
    rw [hg] at h
    obtain ⟨b, hb, h1, h2⟩ := h
    rw [gval_eq hg, hb]
    cases b with
    | false => rw [h1 rfl]
    | true => exact key (h2 rfl)

theorem ckM_sound {N : List Nat} {k : Nat} {o : Oper} {e : Env} {H : Heap} (ho : ops[k]? = some o) (h : ckM P e H (N.contains k) (guardOf ops o) o.dst (compile P o.op)) : rev1 P ops N e H k := by
  unfold rev1
  rw [ho]
  simp only
  unfold ckM at h
  cases hd : o.dst with
  | none =>
    rw [hd] at h
    obtain ⟨v, hv⟩ := h
    cases hn : N.contains k with
    | true => rw [hn] at hv; exact ⟨v, EvM_sound hv⟩
    | false => rw [hn] at hv; simp only; rw [LkM_sound hv]; rfl
  | some d =>
    rw [hd] at h
    cases hn : N.contains k with
    | true => rw [hn] at h; exact EvM_sound h
    | false => rw [hn] at h; exact LkM_sound h

theorem cks_sound {N : List Nat} {X : Prop} {e : Env} {H : Heap} {K : Env → Heap → Prop} {l : List MI} (hX : wpM P r l K e H → X) : ∀ {ks : List Nat} {cks : List MI}, ks.mapM (fun k => (ops[k]?).map fun o => MI.ck (N.contains k) (guardOf ops o) o.dst (compile P o.op)) = some cks → wpM P r (cks ++ l) K e H → revs P ops N e H X ks
  | [], cks, hk, h => by simp at hk; subst hk; exact hX h
  | k :: ks, cks, hk, h => by
    simp only [List.mapM_cons, Option.bind_eq_bind, Option.pure_def, Option.bind_eq_some_iff, Option.map_eq_some_iff, Option.some.injEq] at hk
    obtain ⟨c, ⟨o, ho, rfl⟩, cs, hcs, rfl⟩ := hk
    obtain ⟨h1, h2⟩ := h
    exact ⟨ckM_sound ho h1, cks_sound hX hcs h2⟩

theorem ord_sound {N : List Nat} {Q : Post} : ∀ {ord : List (Nat × List Nat)} {L : List MI} {e : Env} {H : Heap}, ordMI P ops N ord = some L → wpM P r L (fun e H => Q .normal e H) e H → wpSeq P r ops N ord Q e H
  | [], L, e, H, hl, h => by simp [ordMI] at hl; subst hl; exact h
  | (i, ks) :: l, L, e, H, hl, h => by
    simp only [ordMI] at hl
    split at hl
    · rename_i o rest cks ho hr hc
      simp only [Option.some.injEq] at hl
      subst hl
      simp only [wpSeq, ho]
      cases hn : N.contains i with
      | true =>
        rw [hn] at h
        obtain ⟨v, hv, hk⟩ := h
        exact ⟨v, EvM_sound hv, ord_sound hr hk⟩
      | false =>
        rw [hn] at h
        simp only [Bool.false_eq_true, if_false, List.cons_append] at h
        exact wpOp_mono (toMI_sound h) fun e' H' hh => cks_sound (fun h => ord_sound hr h) hc hh
    · cases hl

theorem reg_sound {id : Nat} {N : List Nat} {ord : List (Nat × List Nat)} {d : Bool} {L : List MI} {Q : Post} {e : Env} {H : Heap} (hl : regMI P ops N ord d = some L) (h : wpM P r L (fun e H => Q .normal e H) e H) : wp P n r (.region id ops d) Q e H := by
  unfold regMI at hl
  cases d with
  | true =>
    simp only [if_true] at hl
    split at hl
    · rename_i hk
      exact wp_region_ord N ord hk (ord_sound hl h)
    · cases hl
  | false =>
    simp only [Bool.false_eq_true, if_false, Option.some.injEq] at hl
    subst hl
    exact ops_sound h

end

/-! ## Code -/
inductive MC where
  | skip
  | reg (l : List MI)
  | seq (a b : MC)
  | cond (c : Operand) (a b : MC)
  | block (id : Nat) (a : MC)
  | loop (a : MC)
  | range (f : Operand) (ps : List Tmp) (asg body : MC)
  | scope (a : MC)
  | label (l : Nat)
  | exit (id : Nat)
  | goto (l : Nat)
  | ret
  | refuse

abbrev Orc := List (Nat × List Nat × List (Nat × List Nat))
def Orc.at (o : Orc) (id : Nat) : List Nat × List (Nat × List Nat) := ((o.find? fun p => p.1 == id).map (·.2)).getD ([], [])

def mcode (P : Program) (o : Orc) : Code → Option MC
  | .skip => some .skip
  | .label l => some (.label l)
  | .region id ops d => (regMI P ops (o.at id).1 (o.at id).2 d).map .reg
  | .seq a b => (match mcode P o a, mcode P o b with | some x, some y => some (.seq x y) | _, _ => none)
  | .cond c a b => (match mcode P o a, mcode P o b with | some x, some y => some (.cond c x y) | _, _ => none)
  | .block id a => (mcode P o a).map (.block id)
  | .loop a => (mcode P o a).map .loop
  | .scope a => (mcode P o a).map .scope
  | .rangeFunc f ps a b => (match mcode P o a, mcode P o b with | some x, some y => some (.range f ps.toList x y) | _, _ => none)
  | .exit id => some (.exit id)
  | .goto l => some (.goto l)
  | .ret => some .ret
  | .refuse _ => some .refuse

def SmM (P : Program) (n : Nat) (r : Rd) (m : MC) (Q : Post) (e : Env) (H : Heap) : Prop := ∀ o c, mcode P o c = some m → Code.okN n P.globals.size c = true → Sm P n r c Q e H

section
variable {P : Program} {n : Nat} {r : Rd} {Q : Post} {e : Env} {H : Heap}

theorem smm_mono {m : MC} {Q' : Post} (h : SmM P n r m Q e H) (hq : ∀ x e H, Q x e H → Q' x e H) : SmM P n r m Q' e H := fun o c hc hok => (h o c hc hok).mono hq

theorem smm_skip (h : Q .normal e H) : SmM P n r .skip Q e H := by
  intro o c hc hok
  cases c <;> simp only [mcode, Option.map_eq_some_iff] at hc <;> first | exact sm_skip h | (cases hc; done) | (obtain ⟨_, _, hc⟩ := hc; cases hc; done) | (split at hc <;> cases hc; done)
theorem smm_label {l : Nat} (h : Q .normal e H) : SmM P n r (.label l) Q e H := by
  intro o c hc hok
  cases c <;> simp only [mcode, Option.map_eq_some_iff] at hc <;> first | exact sm_label h | (cases hc; done) | (obtain ⟨_, _, hc⟩ := hc; cases hc; done) | (split at hc <;> cases hc; done)
theorem smm_exit {id : Nat} (h : Q (.exit id) e H) : SmM P n r (.exit id) Q e H := by
  intro o c hc hok
  cases c <;> simp only [mcode, Option.map_eq_some_iff] at hc <;> first | (cases hc; exact sm_exit h) | (cases hc; done) | (obtain ⟨_, _, hc⟩ := hc; cases hc; done) | (split at hc <;> cases hc; done)
theorem smm_goto {l : Nat} (h : Q (.goto l) e H) : SmM P n r (.goto l) Q e H := by
  intro o c hc hok
  cases c <;> simp only [mcode, Option.map_eq_some_iff] at hc <;> first | (cases hc; exact sm_goto h) | (cases hc; done) | (obtain ⟨_, _, hc⟩ := hc; cases hc; done) | (split at hc <;> cases hc; done)
theorem smm_ret (h : Q .ret e H) : SmM P n r .ret Q e H := by
  intro o c hc hok
  cases c <;> simp only [mcode, Option.map_eq_some_iff] at hc <;> first | exact sm_ret h | (cases hc; done) | (obtain ⟨_, _, hc⟩ := hc; cases hc; done) | (split at hc <;> cases hc; done)

theorem smm_reg (hm : P.follows .mixedOrders = true) {l : List MI} (h : wpM P r l (fun e H => Q .normal e H) e H) : SmM P n r (.reg l) Q e H := by
  intro o c hc hok
  cases c <;> simp only [mcode, Option.map_eq_some_iff] at hc
  case region id ops d =>
    obtain ⟨l', hl, hc⟩ := hc
    cases hc
    exact wp_sound hm _ _ _ _ hok (reg_sound hl h)
  all_goals first | (cases hc; done) | (obtain ⟨_, _, hc⟩ := hc; cases hc; done) | (split at hc <;> cases hc; done)

theorem smm_seq {a b : MC} (h : SmM P n r a (seqK (fun e H => SmM P n r b Q e H) Q) e H) : SmM P n r (.seq a b) Q e H := by
  intro o c hc hok
  cases c <;> simp only [mcode, Option.map_eq_some_iff] at hc
  case seq x y =>
    split at hc
    · rename_i x' y' hx hy
      cases hc
      simp only [Code.okN, Bool.and_eq_true] at hok
      refine sm_seq ((h o x hx hok.1).mono fun z e H hz => ?_)
      cases z with
      | normal => exact hz o y hy hok.2
      | _ => exact hz
    · cases hc
  all_goals first | (cases hc; done) | (obtain ⟨_, _, hc⟩ := hc; cases hc; done) | (split at hc <;> cases hc; done)

theorem smm_cond {cd : Operand} {a b : MC} (h : ∃ t, e.ev cd = .bool t ∧ (t = true → SmM P n r a Q e H) ∧ (t = false → SmM P n r b Q e H)) : SmM P n r (.cond cd a b) Q e H := by
  intro o c hc hok
  cases c <;> simp only [mcode, Option.map_eq_some_iff] at hc
  case cond d x y =>
    split at hc
    · rename_i x' y' hx hy
      cases hc
      simp only [Code.okN, Bool.and_eq_true] at hok
      obtain ⟨t, ht, h1, h2⟩ := h
      refine sm_cond hok.1.1 ?_
      rw [ht]
      cases t with
      | true => exact h1 rfl o x hx hok.1.2
      | false => exact h2 rfl o y hy hok.2
    · cases hc
  all_goals first | (cases hc; done) | (obtain ⟨_, _, hc⟩ := hc; cases hc; done) | (split at hc <;> cases hc; done)

theorem smm_block {id : Nat} {a : MC} (h : SmM P n r a (blockK id Q) e H) : SmM P n r (.block id a) Q e H := by
  intro o c hc hok
  cases c <;> simp only [mcode, Option.map_eq_some_iff] at hc
  case block id' x =>
    obtain ⟨x', hx, hc⟩ := hc
    cases hc
    exact sm_block (h o x hx hok)
  all_goals first | (cases hc; done) | (obtain ⟨_, _, hc⟩ := hc; cases hc; done) | (split at hc <;> cases hc; done)

theorem smm_canon {m : MC} {e' : Env} {H' : Heap} (hc : CanonE P r.m e H e' H') (h : SmM P n r m Q e' H') : SmM P n r m Q e H := fun o c h1 h2 => sm_canon hc (h o c h1 h2)

theorem smm_ok {m : MC} (h : H.OK P → SmM P n r m Q e H) : SmM P n r m Q e H := fun o c h1 h2 => sm_ok fun hk => h hk o c h1 h2

/-- A LOOP, by what holds at each round's begin; the number falls. -/
theorem sm_loop_inv {c : Code} (I : Nat → Env → Heap → Prop) (hb : ∀ k e H, I k e H → Sm P n r c (fun x e' H' => match x with
      | .normal => ∃ k', k' < k ∧ ∃ e2 H2, CanonE P r.m e' H' e2 H2 ∧ I k' e2 H2
      | x => Q x e' H') e H) : ∀ (k : Nat) {e : Env} {H : Heap}, I k e H →
    ∀ (B : Nat) (w0 : World) (f : Inj) (a : Act) (w : World) (b : Frame) (ks : List Item) (cs : List Frame), StRel P B w0 f H w → ERel f n e a → RR f r b cs →
    ∃ x e' H' f' a' w', Q x e' H' ∧ f.leM r.m f' ∧ StRel P B w0 f' H' w' ∧ ERel f' n e' a' ∧ Arr P (lone (b.atR a (.code c :: .inLoop c :: ks)) cs w) b ks cs x a' w' := by
  intro k
  induction k using Nat.strongRecOn with
  | _ k ih =>
    intro e H hI B w0 f a w b ks cs h1 h2 h3
    obtain ⟨x, e1, H1, f1, a1, w1, q, hle, s1, s2, harr⟩ := hb k e H hI B w0 f a w b (.inLoop c :: ks) cs h1 h2 h3
    cases x with
    | normal =>
      obtain ⟨k', hk, e2, H2, ⟨s, hc, he⟩, hI2⟩ := q
      obtain ⟨x2, e3, H3, f3, a3, w3, q2, hle2, t1, t2, harr2⟩ := ih k' hk hI2 B w0 (f1.ren H2.marks s) a1 w1 b ks cs (s1.canon hc) ⟨s2.size, fun j => VRel.up (he.t j) (s2.t j), s2.ds.up he.ds⟩ ((h3.monoM hle).monoM (hc.leM f1))
      exact ⟨x2, e3, H3, f3, a3, w3, q2, (hle.trans (hc.leM f1)).trans hle2, t1, t2, .of_steps (Steps.trans harr (.one (stepR_inLoop))) harr2⟩
    | exit id => exact ⟨_, e1, H1, f1, a1, w1, q, hle, s1, s2, harr.pass rfl (by simp)⟩
    | goto l => exact ⟨_, e1, H1, f1, a1, w1, q, hle, s1, s2, harr.pass rfl (by simp)⟩
    | ret => exact ⟨_, e1, H1, f1, a1, w1, q, hle, s1, s2, harr.pass rfl (by simp)⟩

theorem smm_loop {a : MC} (I : Nat → Env → Heap → Prop) (k : Nat) (e0 : Env) (H0 : Heap) (h0 : CanonE P r.m e H e0 H0) (hI : I k e0 H0) (hb : ∀ k e H, I k e H → SmM P n r a (fun x e' H' => match x with
      | .normal => ∃ k', k' < k ∧ ∃ e2 H2, CanonE P r.m e' H' e2 H2 ∧ I k' e2 H2
      | x => Q x e' H') e H) : SmM P n r (.loop a) Q e H := by
  intro o c hc hok
  cases c <;> simp only [mcode, Option.map_eq_some_iff] at hc
  case loop x =>
    obtain ⟨x', hx, hc⟩ := hc
    cases hc
    refine sm_canon h0 ?_
    intro B w0 f a' w b ks cs h1 h2 h3
    obtain ⟨x2, e1, H1, f1, a1, w1, q, hle, s1, s2, harr⟩ := sm_loop_inv I (fun k e H hi => hb k e H hi o x hx hok) k hI B w0 f a' w b ks cs h1 h2 h3
    exact ⟨x2, e1, H1, f1, a1, w1, q, hle, s1, s2, .of_steps (.one stepR_loop) harr⟩
  all_goals first | (cases hc; done) | (obtain ⟨_, _, hc⟩ := hc; cases hc; done) | (split at hc <;> cases hc; done)

/-- A FUNCTION. -/
theorem callS_mc {g : FuncId} {fn : Func} {c : Code} {o : Orc} {m : MC} (hf : P.funcs[g]? = some fn) (hb : fn.body = some c) (hm : mcode P o c = some m) (hok : Code.okN fn.ntmps P.globals.size c = true) {args : List V} (hargs : args.length ≤ fn.ntmps) {H : Heap} {K : V → Heap → Prop}
    (h : H.OK P → InL H.marks args → SmM P fn.ntmps ⟨none, H.marks⟩ m (retK P fn fun v1 H1 => ∃ v' H', CanonV P H.marks v1 H1 v' H' ∧ K v' H') (env0 args) H) : CallS P g args H K :=
  callS_canon (callS_ok fun hk hi => callS_of_sm hf hb hok hargs (h hk hi o c hm hok))

end
end Go.Cm
