/- Drawn regions: one order for all. -/
import Derived.Test.YtgalmibnlkbdiaaGreatDoorCmCall
set_option linter.unusedVariables false
set_option linter.unusedSimpArgs false
namespace Go.Cm
open Go Go.RowKit

inductive Cl where | pure | look | act
  deriving DecidableEq

def clsConv (P : Program) (src dst : TypeId) : Cl :=
  match kdAt P dst with
  | some (.int _) => .pure
  | some .str => (match kdAt P src with | some (.slice _) => .look | _ => .pure)
  | _ => .act

/-- What an operation does: reckons; looks at the heap; changes it. -/
def cls (P : Program) : Op → Cl
  | .move _ | .assign _ | .pick _ _ _ | .build _ _ | .nilCheck _ | .binOp .. | .unOp .. | .makeInterface .. | .makeFunc .. | .fieldAddr .. | .field .. | .indexAddr .. | .index .. | .typeAssert .. | .extract .. => .pure
  | .load .. | .slice .. => .look
  | .convert s d _ => clsConv P s d
  | .call c => (match c.callee with
    | .builtin .len | .builtin .cap | .builtin .min | .builtin .max => .pure
    | _ => .act)
  | _ => .act

section
variable {P : Program} {n : Nat} {r : Rd} {ops : Array Oper}

def Sure (f : Heap → OpR) : Prop := ∃ x : Option V, ∀ H, f H = .of x H

theorem Sure.of (x : Option V) : Sure (fun H => .of x H) := ⟨x, fun _ => rfl⟩
theorem Sure.val (v : V) : Sure (fun H => .val v H) := ⟨some v, fun _ => rfl⟩
theorem Sure.fail : Sure (fun _ => .fail) := ⟨none, fun _ => rfl⟩

theorem sure_conv {src dst : TypeId} {x : V} (h : clsConv P src dst = .pure) : Sure (fun H => convOp P src dst x H) := by
  unfold clsConv at h
  unfold convOp
  split at h
  · rename_i k hk
    rw [hk]
    cases hs : kdAt P src with
    | none => exact ⟨none, fun H => rfl⟩
    | some s =>
      cases x with
      | int k' n => exact .val _
      | _ => exact .fail
  · rename_i hk
    rw [hk]
    split at h
    · cases h
    · rename_i hs
      cases hs2 : kdAt P src with
      | none => exact .fail
      | some s =>
        cases x with
        | int k' n => exact .val _
        | str s => exact .val _
        | _ =>
          cases s with
          | slice e => exact absurd hs2 (hs e)
          | _ => exact .fail
  · cases h

theorem sure_of_pure (ρ : Operand → V) (o : Oper) (h : cls P o.op = .pure) : Sure (fun H => stepOp P ρ o H) := by
  obtain ⟨dst, op, ty, pos, after, guard⟩ := o
  cases op <;> simp only [cls] at h <;> (try (cases h)) <;> simp only [stepOp]
  case move x => exact .val _
  case assign x => exact .val _
  case pick c a b =>
    cases hc : ρ c with
    | bool t => cases t <;> (simp only []; exact .val _)
    | _ => (simp only []; exact .fail)
  case build => exact .of _
  case nilCheck x =>
    cases hc : ρ x with
    | ptr => (simp only []; exact .val _)
    | iface => (simp only []; exact .val _)
    | fn f a c => cases f <;> simp only [] <;> first | exact .val _ | exact .fail
    | _ => (simp only []; exact .fail)
  case binOp => exact .of _
  case unOp => exact .of _
  case convert s d x => exact sure_conv h
  case makeInterface t x =>
    cases kdAt P t with
    | none => (simp only []; exact .fail)
    | some k => cases k <;> simp only [] <;> first | exact .val _ | exact .fail
  case makeFunc f a c => cases f <;> simp only [] <;> first | exact .val _ | exact .fail
  case fieldAddr => exact .of _
  case field => exact .of _
  case indexAddr => exact .of _
  case index => exact .of _
  case typeAssert => exact .of _
  case extract => exact .of _
  case call c =>
    obtain ⟨callee, args, ts⟩ := c
    cases callee with
    | value _ => simp at h
    | invoke _ _ => simp at h
    | builtin b =>
      simp only [callOp]
      have : ∀ (ts : List TypeId) (l : List V), Sure (fun H => builtinOp P b ts l H) := by
        intro ts l
        cases b <;> simp at h
        · cases ts <;> cases l <;> first | exact .of _ | exact .fail
        · cases ts <;> cases l <;> first | exact .of _ | exact .fail
        · exact .of _
        · exact .of _
      exact this _ _

/-- What does not change the heap. -/
theorem stays_of_look (ρ : Operand → V) (o : Oper) (h : cls P o.op ≠ .act) (H : Heap) : ∃ x : Option V, stepOp P ρ o H = .of x H := by
  cases hc : cls P o.op with
  | act => exact absurd hc h
  | pure => obtain ⟨x, hx⟩ := sure_of_pure ρ o hc; exact ⟨x, hx H⟩
  | look =>
    obtain ⟨dst, op, ty, pos, after, guard⟩ := o
    cases op <;> simp only [cls] at hc <;> try (cases hc)
    case look.load.intro t a =>
      simp only [stepOp]
      split
      · exact ⟨_, rfl⟩
      · exact ⟨none, rfl⟩
    case look.convert s d x =>
      simp only [stepOp]
      unfold clsConv at hc
      split at hc
      · cases hc
      · rename_i hk
        split at hc
        · rename_i e hs
          unfold convOp
          rw [hk, hs]
          cases ρ x with
          | int k n => exact ⟨some _, rfl⟩
          | str s => exact ⟨some _, rfl⟩
          | nilslice => simp only []; split <;> first | exact ⟨some _, rfl⟩ | exact ⟨none, rfl⟩
          | slice b o n c ex =>
            simp only []
            split
            · split
              · exact ⟨some _, rfl⟩
              · exact ⟨none, rfl⟩
            · exact ⟨none, rfl⟩
          | _ => exact ⟨none, rfl⟩
        · cases hc
      · cases hc
    case look.slice.intro t x lo hi mx =>
      simp only [stepOp]
      unfold sliceOp
      repeat' split
      all_goals first | exact ⟨none, rfl⟩ | exact ⟨some _, rfl⟩
    case look.call c =>
      obtain ⟨callee, args, ts⟩ := c
      cases callee with
      | value _ => simp at hc
      | invoke _ _ => simp at hc
      | builtin b => cases b <;> simp at hc

theorem stepOp_congr {ρ ρ' : Operand → V} (o : Oper) (h : ∀ x ∈ o.op.operands, ρ x = ρ' x) (H : Heap) : stepOp P ρ o H = stepOp P ρ' o H := by
  obtain ⟨dst, op, type, pos, after, guard⟩ := o
  have pairs : ∀ ps : Array (Nat × Operand), (∀ x ∈ ps.toList.map (·.2), ρ x = ρ' x) → (ps.toList.map fun p => (p.1, ρ p.2)) = (ps.toList.map fun p => (p.1, ρ' p.2)) := fun ps hp =>
    List.map_congr_left fun p hm => by rw [hp p.2 (List.mem_map.2 ⟨p, hm, rfl⟩)]
  have calls : ∀ c : Call, (∀ x ∈ c.operands, ρ x = ρ' x) → callOp P ρ c H = callOp P ρ' c H ∧ dfrOp ρ c = dfrOp ρ' c := fun c hc => by
    have ha : c.args.toList.map ρ = c.args.toList.map ρ' := List.map_congr_left fun x hx => hc x (by simp [Call.operands]; exact .inr (by simpa using hx))
    obtain ⟨callee, args, ts⟩ := c
    cases callee with
    | builtin b => exact ⟨by simp only [callOp, ha], rfl⟩
    | value f => have hf : ρ f = ρ' f := hc f (by simp [Call.operands]); exact ⟨by simp only [callOp, ha, hf], by simp only [dfrOp, ha, hf]⟩
    | invoke f m => have hf : ρ f = ρ' f := hc f (by simp [Call.operands]); exact ⟨by simp only [callOp, ha, hf], rfl⟩
  cases op <;> simp only [Op.operands] at h <;> simp only [stepOp]
  case build t ps => rw [pairs ps fun x hx => h x (by simpa using hx)]
  case buildSlice t n ps => rw [pairs ps fun x hx => h x (by simpa using hx)]
  case makeFunc fn first captured =>
    have e1 : first.toList.map ρ = first.toList.map ρ' := List.map_congr_left fun x hx => h x (by simp; exact .inl (by simpa using hx))
    have e2 : captured.toList.map ρ = captured.toList.map ρ' := List.map_congr_left fun x hx => h x (by simp; exact .inr (by simpa using hx))
    cases fn <;> simp only [e1, e2]
  case next x s => cases s <;> simp_all
  case call c => exact (calls c h).1
  case defer c => exact (calls c h).2
  case slice t x lo hi mx => cases lo <;> cases hi <;> cases mx <;> simp_all
  all_goals (first | rfl | (simp_all; done))

theorem Env.ev_put {e : Env} {dst : Option Tmp} {v : V} {x : Operand} (h : ∀ d, dst = some d → x ≠ .tmp d) : (e.put dst v).ev x = e.ev x := by
  cases dst with
  | none => rfl
  | some d =>
    cases x with
    | tmp t =>
      have hne : t ≠ d := fun he => h d rfl (he ▸ rfl)
      simp [Env.ev, Env.put, fset, hne]
    | _ => rfl

theorem Env.put_comm (e : Env) {x y : Option Tmp} (v u : V) (h : ∀ d, x = some d → y ≠ some d) : (e.put x v).put y u = (e.put y u).put x v := by
  cases x with
  | none => rfl
  | some d =>
    cases y with
    | none => rfl
    | some c =>
      have hne : d ≠ c := fun he => h d rfl (he ▸ rfl)
      simp only [Env.put]
      congr 1
      funext j
      simp only [fset]
      by_cases h1 : j = c <;> by_cases h2 : j = d <;> simp [h1, h2]
      · subst h1; exact absurd h2.symm hne
      all_goals (try (subst h1; simp [fset, Ne.symm hne]))
      all_goals (try (subst h2; simp [fset, hne]))

theorem stepOp_put (o : Oper) (e : Env) (dst : Option Tmp) (v : V) (h : ∀ d, dst = some d → d ∉ o.looksAt ops) (H : Heap) : stepOp P (e.put dst v).ev o H = stepOp P e.ev o H :=
  stepOp_congr o (fun x hx => Env.ev_put fun d hd hxd => h d hd (by
    subst hxd
    exact List.mem_append_left _ (List.mem_filterMap.2 ⟨.tmp d, by simpa using hx, rfl⟩))) H

theorem wantedE_put (o : Oper) (e : Env) (dst : Option Tmp) (v : V) (h : ∀ d, dst = some d → d ∉ o.looksAt ops) : wantedE ops o (e.put dst v) = wantedE ops o e := by
  cases dst with
  | none => rfl
  | some d =>
    unfold wantedE
    cases hg : o.guard with
    | none => rfl
    | some gw =>
      obtain ⟨g, want⟩ := gw
      simp only
      cases ht : (ops[g]?).bind (·.dst) with
      | none => rfl
      | some t =>
        have hne : t ≠ d := fun he => h d rfl (by subst he; simp [Oper.looksAt, hg, ht])
        simp only [Env.put, fset, hne, if_false]

/-- The value of what does not change the heap. -/
def evalL (P : Program) (ops : Array Oper) (o : Oper) (e : Env) (H : Heap) : Option V :=
  match wantedE ops o e with
  | none => none
  | some false => some (.tuple [])
  | some true => match stepOp P e.ev o H with
    | .val v _ => some v
    | _ => none

theorem evalL_put {o : Oper} {e : Env} {dst : Option Tmp} {v : V} (h : ∀ d, dst = some d → d ∉ o.looksAt ops) (H : Heap) : evalL P ops o (e.put dst v) H = evalL P ops o e H := by
  unfold evalL
  rw [wantedE_put o e dst v h, stepOp_put (ops := ops) o e dst v h]

theorem evalL_ds {o : Oper} {e : Env} {ds : List Dfr} (H : Heap) : evalL P ops o { e with ds := ds } H = evalL P ops o e H := by
  unfold evalL
  have e1 : wantedE ops o { e with ds := ds } = wantedE ops o e := rfl
  have e2 : ({ e with ds := ds } : Env).ev = e.ev := by funext x; cases x <;> rfl
  rw [e1, e2]

theorem evalL_pure {o : Oper} (h : cls P o.op = .pure) (e : Env) (H H' : Heap) : evalL P ops o e H = evalL P ops o e H' := by
  unfold evalL
  obtain ⟨x, hx⟩ := sure_of_pure e.ev o h
  have h1 := hx H
  have h2 := hx H'
  simp only at h1 h2
  rw [h1, h2]
  cases x <;> rfl

/-- The operation gives that and leaves the heap alone. -/
def Ev (P : Program) (ops : Array Oper) (o : Oper) (e : Env) (H : Heap) (v : V) : Prop :=
  match wantedE ops o e with
  | none => False
  | some false => v = .tuple []
  | some true => match stepOp P e.ev o H with
    | .val u H' => u = v ∧ H' = H
    | .call fv args => InvS P fv args H (fun v' H' => v' = v ∧ H' = H)
    | _ => False

theorem Ev_put {o : Oper} {e : Env} {dst : Option Tmp} {v u : V} (h : ∀ d, dst = some d → d ∉ o.looksAt ops) {H : Heap} : Ev P ops o (e.put dst v) H u ↔ Ev P ops o e H u := by
  unfold Ev
  rw [wantedE_put o e dst v h, stepOp_put (ops := ops) o e dst v h]

theorem Ev_ds {o : Oper} {e : Env} {ds : List Dfr} {H : Heap} {u : V} : Ev P ops o { e with ds := ds } H u ↔ Ev P ops o e H u := by
  unfold Ev
  have e1 : wantedE ops o { e with ds := ds } = wantedE ops o e := rfl
  have e2 : ({ e with ds := ds } : Env).ev = e.ev := by funext x; cases x <;> rfl
  rw [e1, e2]

theorem Ev_pure {o : Oper} (h : cls P o.op = .pure) {e : Env} {H H' : Heap} {u : V} (hv : Ev P ops o e H u) : Ev P ops o e H' u := by
  unfold Ev at *
  obtain ⟨x, hx⟩ := sure_of_pure e.ev o h
  have h1 := hx H
  have h2 := hx H'
  simp only at h1 h2
  cases hw : wantedE ops o e with
  | none => rw [hw] at hv; exact hv
  | some b =>
    rw [hw] at hv
    cases b with
    | false => exact hv
    | true =>
      simp only at hv ⊢
      rw [h1] at hv
      rw [h2]
      cases x with
      | none => exact hv.elim
      | some y => exact ⟨hv.1, rfl⟩

theorem Ev_of_evalL {o : Oper} (hc : cls P o.op ≠ .act) {e : Env} {H : Heap} {v : V} (h : evalL P ops o e H = some v) : Ev P ops o e H v := by
  unfold evalL at h
  unfold Ev
  cases hw : wantedE ops o e with
  | none => rw [hw] at h; cases h
  | some b =>
    rw [hw] at h
    cases b with
    | false => cases h; rfl
    | true =>
      obtain ⟨x, hx⟩ := stays_of_look e.ev o hc H
      simp only [hx] at h ⊢
      cases x with
      | none => cases h
      | some y => cases h; exact ⟨rfl, rfl⟩

/-- An operation's outcomes. -/
def wpO (P : Program) (r : Rd) (ops : Array Oper) (o : Oper) (e : Env) (H : Heap) (J : V → List Dfr → Heap → Prop) : Prop :=
  match wantedE ops o e with
  | none => False
  | some false => J (.tuple []) e.ds H
  | some true =>
    match stepOp P e.ev o H with
    | .val v H' => J v e.ds H'
    | .call fv args => InvS P fv args H (fun v H' => J v e.ds H')
    | .dfr fv args => r.l = none ∧ (∃ g fi ca, fv = .fn (.func g) fi ca) ∧ J (.tuple []) (.call fv args :: e.ds) H
    | .recov => r.l = none ∧ J .nilif e.ds H
    | .fail => False

theorem wpOp_iff {o : Oper} {K : Env → Heap → Prop} {e : Env} {H : Heap} : wpOp P r ops o K e H ↔ wpO P r ops o e H (fun v ds H' => K (({ e with ds := ds } : Env).put o.dst v) H') := by
  unfold wpOp wpO
  cases wantedE ops o e with
  | none => exact Iff.rfl
  | some b =>
    cases b with
    | false => exact Iff.rfl
    | true => cases stepOp P e.ev o H <;> exact Iff.rfl

theorem wpO_mono {o : Oper} {e : Env} {H : Heap} {J J' : V → List Dfr → Heap → Prop} (h : wpO P r ops o e H J) (hj : ∀ v ds H', J v ds H' → J' v ds H') : wpO P r ops o e H J' := by
  unfold wpO at *
  cases hw : wantedE ops o e with
  | none => rw [hw] at h; exact h
  | some b =>
    rw [hw] at h
    cases b with
    | false => exact hj _ _ _ h
    | true =>
      simp only at h ⊢
      cases hs : stepOp P e.ev o H with
      | val v H' => rw [hs] at h; exact hj _ _ _ h
      | call fv args => rw [hs] at h; exact InvS.mono h fun v H' hh => hj _ _ _ hh
      | dfr fv args => rw [hs] at h; exact ⟨h.1, h.2.1, hj _ _ _ h.2.2⟩
      | recov => rw [hs] at h; exact ⟨h.1, hj _ _ _ h.2⟩
      | fail => rw [hs] at h; exact h

theorem wpO_put {o : Oper} {e : Env} {dst : Option Tmp} {v : V} (h : ∀ d, dst = some d → d ∉ o.looksAt ops) {H : Heap} {J : V → List Dfr → Heap → Prop} : wpO P r ops o (e.put dst v) H J ↔ wpO P r ops o e H J := by
  have hds : (e.put dst v).ds = e.ds := by cases dst <;> rfl
  unfold wpO
  rw [wantedE_put o e dst v h, stepOp_put (ops := ops) o e dst v h, hds]

theorem wpO_look {o : Oper} (hc : cls P o.op ≠ .act) {e : Env} {H : Heap} {J : V → List Dfr → Heap → Prop} : wpO P r ops o e H J ↔ ∃ v, evalL P ops o e H = some v ∧ J v e.ds H := by
  unfold wpO evalL
  cases hw : wantedE ops o e with
  | none => simp
  | some b =>
    cases b with
    | false => simp
    | true =>
      obtain ⟨x, hx⟩ := stays_of_look e.ev o hc H
      simp only [hx]
      cases x <;> simp [OpR.of]

theorem wpO_ev {o : Oper} {e : Env} {H : Heap} {J : V → List Dfr → Heap → Prop} {v : V} (h : Ev P ops o e H v) (hj : J v e.ds H) : wpO P r ops o e H J := by
  unfold Ev at h
  unfold wpO
  cases hw : wantedE ops o e with
  | none => rw [hw] at h; exact h
  | some b =>
    rw [hw] at h
    cases b with
    | false => simp only at h ⊢; rw [← h]; exact hj
    | true =>
      simp only at h ⊢
      cases hs : stepOp P e.ev o H with
      | val u H' => rw [hs] at h; simp only at h ⊢; obtain ⟨rfl, rfl⟩ := h; exact hj
      | call fv args => rw [hs] at h; exact InvS.mono h fun v' H' hh => by rw [hh.1, hh.2]; exact hj
      | dfr fv args => rw [hs] at h; exact h.elim
      | recov => rw [hs] at h; exact h.elim
      | fail => rw [hs] at h; exact h.elim

theorem wpOp_mono {o : Oper} {e : Env} {H : Heap} {K K' : Env → Heap → Prop} (h : wpOp P r ops o K e H) (hk : ∀ e H, K e H → K' e H) : wpOp P r ops o K' e H :=
  wpOp_iff.2 (wpO_mono (wpOp_iff.1 h) fun _ _ _ hh => hk _ _ hh)

/-! ## Orders -/
/-- Those that an operation waits for, through others too: a bit each. -/
def ancMask (acc : List Nat) (o : Oper) : Nat := o.after.toList.foldl (fun m e => if Region.binds .any e then m ||| (1 <<< e.on) ||| acc.getD e.on 0 else m) 0
def ancGo : List Oper → List Nat → List Nat
  | [], acc => acc
  | o :: l, acc => ancGo l (acc ++ [ancMask acc o])
def ancs (ops : Array Oper) : List Nat := ancGo ops.toList []
def reach (ops : Array Oper) (_ : Nat) (i j : Nat) : Bool := ((ancs ops).getD j 0).testBit i

def Closed (ops : Array Oper) (listed : Array Bool) : Prop :=
  ∀ j o, ops[j]? = some o → listed.getD j false = true → ∀ e ∈ o.after, Region.binds .any e = true → listed.getD e.on false = true

theorem ancMask_bit {acc : List Nat} {o : Oper} {i : Nat} (h : (ancMask acc o).testBit i = true) : ∃ e ∈ o.after, Region.binds .any e = true ∧ (e.on = i ∨ (acc.getD e.on 0).testBit i = true) := by
  have gen : ∀ (l : List Edge) (m : Nat), (l.foldl (fun m e => if Region.binds .any e then m ||| (1 <<< e.on) ||| acc.getD e.on 0 else m) m).testBit i = true →
      m.testBit i = true ∨ ∃ e ∈ l, Region.binds .any e = true ∧ (e.on = i ∨ (acc.getD e.on 0).testBit i = true) := by
    intro l
    induction l with
    | nil => intro m h; exact .inl h
    | cons e l ih =>
      intro m h
      rcases ih _ h with h1 | ⟨e', he', h2⟩
      · simp only at h1
        split at h1
        · rename_i hb
          simp only [Nat.testBit_or, Bool.or_eq_true] at h1
          rcases h1 with (h1 | h1) | h1
          · exact .inl h1
          · refine .inr ⟨e, by simp, hb, .inl ?_⟩
            rw [Nat.one_shiftLeft, Nat.testBit_two_pow] at h1
            simpa using h1
          · exact .inr ⟨e, by simp, hb, .inr h1⟩
        · exact .inl h1
      · exact .inr ⟨e', by simp [he'], h2⟩
  rcases gen _ _ h with h1 | ⟨e, he, h2⟩
  · simp at h1
  · exact ⟨e, by simpa using he, h2⟩

theorem ancGo_listed {listed : Array Bool} (hc : Closed ops listed) {i : Nat} : ∀ (l : List Oper) (acc : List Nat), (∀ k, k < l.length → ops[acc.length + k]? = l[k]?) →
    (∀ j, (acc.getD j 0).testBit i = true → (∀ o, ops[j]? = some o → ∀ e ∈ o.after, Region.binds .any e = true → listed.getD e.on false = true) → listed.getD i false = true) →
    ∀ j, ((ancGo l acc).getD j 0).testBit i = true → (∀ o, ops[j]? = some o → ∀ e ∈ o.after, Region.binds .any e = true → listed.getD e.on false = true) → listed.getD i false = true
  | [], acc, _, hacc, j, h, hj => hacc j h hj
  | o :: l, acc, hl, hacc, j, h, hj => by
    refine ancGo_listed hc l (acc ++ [ancMask acc o]) (fun k hk => ?_) (fun j' h' hj' => ?_) j h hj
    · have := hl (k + 1) (by simp; omega)
      simp only [List.length_append, List.length_cons, List.length_nil, List.getElem?_cons_succ] at this ⊢
      rw [← this]
      congr 1
      omega
    · by_cases hlt : j' < acc.length
      · rw [List.getD_eq_getElem?_getD, List.getElem?_append_left hlt, ← List.getD_eq_getElem?_getD] at h'
        exact hacc j' h' hj'
      · by_cases heq : j' = acc.length
        · subst heq
          rw [List.getD_eq_getElem?_getD, List.getElem?_append_right (Nat.le_refl _)] at h'
          simp only [Nat.sub_self, List.getElem?_cons_zero, Option.getD_some] at h'
          obtain ⟨e, he, hb, h2⟩ := ancMask_bit h'
          have ho : ops[acc.length]? = some o := by simpa using hl 0 (by simp)
          have hle := hj' o ho e he hb
          rcases h2 with h2 | h2
          · rw [← h2]; exact hle
          · exact hacc e.on h2 (fun o2 ho2 e2 he2 hb2 => hc e.on o2 ho2 hle e2 he2 hb2)
        · rw [List.getD_eq_getElem?_getD, List.getElem?_eq_none (by simp; omega)] at h'
          simp at h'

theorem reach_listed {listed : Array Bool} (hc : Closed ops listed) (fuel i j : Nat) (h : reach ops fuel i j = true) (hj : ∀ o, ops[j]? = some o → ∀ e ∈ o.after, Region.binds .any e = true → listed.getD e.on false = true) : listed.getD i false = true :=
  ancGo_listed hc ops.toList [] (fun k hk => by simp) (fun j' h' _ => by simp at h') j h hj

theorem ready_not {listed : Array Bool} {i : Nat} (h : i ∈ Region.ready .any ops listed) : listed.getD i false = false := by
  have := (mem_ready.1 h).1
  rw [Array.getD_eq_getD_getElem?] at this ⊢
  cases hx : listed[i]? with
  | none => rfl
  | some b => rw [hx] at this; exact this

theorem ready_unreached {listed : Array Bool} (hc : Closed ops listed) {i j : Nat} (hi : i ∈ Region.ready .any ops listed) (hj : j ∈ Region.ready .any ops listed) (fuel : Nat) : reach ops fuel i j = false := by
  cases h : reach ops fuel i j with
  | false => rfl
  | true =>
    obtain ⟨_, o, ho, hall⟩ := mem_ready.1 hj
    have := reach_listed hc fuel i j h (fun o' ho' e he hb => by rw [ho] at ho'; cases ho'; exact hall e he hb)
    rw [ready_not hi] at this
    cases this

theorem Closed.set {listed : Array Bool} (hc : Closed ops listed) {i : Nat} (hi : i ∈ Region.ready .any ops listed) : Closed ops (listed.setIfInBounds i true) := by
  intro j o ho hj e he hb
  apply getD_set_true
  by_cases hij : i = j
  · subst hij
    obtain ⟨_, o', ho', hall⟩ := mem_ready.1 hi
    rw [ho] at ho'
    cases ho'
    exact hall e he hb
  · rw [getD_set_ne false hij] at hj
    exact hc j o ho hj e he hb

/-- The class of the operation with that number, given the calls that leave the heap alone. -/
def cl (P : Program) (N : List Nat) (i : Nat) (o : Oper) : Cl := if N.contains i then .look else cls P o.op

/-- Is what was looked up still so? -/
def revOk (P : Program) (ops : Array Oper) (re : List Nat) (listed : Array Bool) (e : Env) (H : Heap) : Prop :=
  ∀ k ∈ re, listed.getD k false = true → ∀ o, ops[k]? = some o → ∃ v, Ev P ops o e H v ∧ ∀ d, o.dst = some d → e.t d = v

def wpAnyR (P : Program) (r : Rd) (ops : Array Oper) (N : List Nat) (re : Nat → List Nat) (Q : Post) : Nat → Array Bool → Env → Heap → Prop
  | 0, listed, e, H => Region.ready .any ops listed = [] ∧ Q .normal e H
  | fuel + 1, listed, e, H => (Region.ready .any ops listed = [] → Q .normal e H) ∧
    ∀ i ∈ Region.ready .any ops listed, ∃ o, ops[i]? = some o ∧
      (cl P N i o ≠ .act → ∃ v, Ev P ops o e H v ∧ wpAnyR P r ops N re Q fuel (listed.setIfInBounds i true) (e.put o.dst v) H) ∧
      (cl P N i o = .act → wpOp P r ops o (fun e' H' => revOk P ops (re i) listed e' H' ∧ wpAnyR P r ops N re Q fuel (listed.setIfInBounds i true) e' H') e H)

theorem wpAny_of_R {N : List Nat} {re : Nat → List Nat} {Q : Post} : ∀ (fuel : Nat) (listed : Array Bool) (e : Env) (H : Heap), wpAnyR P r ops N re Q fuel listed e H → wpAny P r ops Q fuel listed e H
  | 0, _, _, _, h => h
  | fuel + 1, listed, e, H, h => by
    refine ⟨h.1, fun i hi => ?_⟩
    obtain ⟨o, ho, h1, h2⟩ := h.2 i hi
    rw [ho]
    by_cases hc : cl P N i o = .act
    · exact wpOp_mono (h2 hc) fun e' H' hh => wpAny_of_R fuel _ e' H' hh.2
    · obtain ⟨v, hv, hw⟩ := h1 hc
      exact wpOp_iff.2 (wpO_ev hv (wpAny_of_R fuel _ _ _ hw))

structure Sound (P : Program) (ops : Array Oper) (N : List Nat) (re : Nat → List Nat) : Prop where
  apart : ∀ i j oi oj, i ≠ j → ops[i]? = some oi → ops[j]? = some oj → reach ops ops.size i j = false → reach ops ops.size j i = false → oi.apart ops oj = true
  looks : ∀ i j oi oj, i ≠ j → ops[i]? = some oi → ops[j]? = some oj → cl P N j oj = .act → cl P N i oi = .look → reach ops ops.size i j = false → reach ops ops.size j i = false → i ∈ re j
  solo : ∀ j oj k ok, ops[j]? = some oj → k ∈ re j → ops[k]? = some ok → (∀ d, ok.dst = some d → d ∉ ok.looksAt ops) ∧ ∀ i oi, i ≠ k → ops[i]? = some oi → reach ops ops.size i k = false → ∀ d, oi.dst = some d → d ∉ ok.looksAt ops ∧ ok.dst ≠ some d

theorem wpAnyR_take {N : List Nat} {re : Nat → List Nat} (hs : Sound P ops N re) {Q : Post} {i : Nat} {oi : Oper} (hoi : ops[i]? = some oi) (hci : cl P N i oi ≠ .act) : ∀ (fuel : Nat) (listed : Array Bool) (e : Env) (H : Heap) (v : V), Closed ops listed → i ∈ Region.ready .any ops listed →
    Ev P ops oi e H v → wpAnyR P r ops N re Q fuel (listed.setIfInBounds i true) (e.put oi.dst v) H → wpAnyR P r ops N re Q (fuel + 1) listed e H := by
  intro fuel
  induction fuel with
  | zero =>
    intro listed e H v hcl hi hv h
    refine ⟨fun hn => absurd hi (by rw [hn]; simp), fun j hj => ?_⟩
    by_cases hij : j = i
    · subst hij
      exact ⟨oi, hoi, fun _ => ⟨v, hv, h⟩, fun hc => absurd hc hci⟩
    · have := ready_mono hj hij
      rw [h.1] at this
      cases this
  | succ fuel ih =>
    intro listed e H v hcl hi hv h
    refine ⟨fun hn => absurd hi (by rw [hn]; simp), fun j hj => ?_⟩
    by_cases hij : j = i
    · subst hij
      exact ⟨oi, hoi, fun _ => ⟨v, hv, h⟩, fun hc => absurd hc hci⟩
    · obtain ⟨oj, hoj, hL, hA⟩ := h.2 j (ready_mono hj hij)
      have hap := Oper.apart_spec (hs.apart i j oi oj (Ne.symm hij) hoi hoj (ready_unreached hcl hi hj _) (ready_unreached hcl hj hi _))
      obtain ⟨a1, a2, a3⟩ := hap
      have hset : ((listed.setIfInBounds j true).setIfInBounds i true) = ((listed.setIfInBounds i true).setIfInBounds j true) := Array.setIfInBounds_comm _ _ hij
      refine ⟨oj, hoj, fun hcj => ?_, fun hcj => ?_⟩
      · obtain ⟨u, hu, hany⟩ := hL hcj
        refine ⟨u, (Ev_put a1).1 hu, ih _ _ _ v (hcl.set hj) (ready_mono hi (Ne.symm hij)) ((Ev_put a3).2 hv) ?_⟩
        rw [hset, ← Env.put_comm _ v u a2]
        exact hany
      · have hw1 := (wpO_put (P := P) (r := r) (H := H) a1).1 (wpOp_iff.1 (hA hcj))
        apply wpOp_iff.2
        refine wpO_mono hw1 fun u ds H' ⟨hrev, hany⟩ => ?_
        have ecomm : (({ e.put oi.dst v with ds := ds } : Env).put oj.dst u) = (({ e with ds := ds } : Env).put oj.dst u).put oi.dst v := by
          have : ({ e.put oi.dst v with ds := ds } : Env) = ({ e with ds := ds } : Env).put oi.dst v := by cases oi.dst <;> rfl
          rw [this]
          exact Env.put_comm _ v u a2
        have hval : ∃ v', Ev P ops oi (({ e with ds := ds } : Env).put oj.dst u) H' v' ∧ (∀ d, oi.dst = some d → v' = v) := by
          by_cases hcl2 : cl P N i oi = .pure
          · have hp : cls P oi.op = .pure := by
              unfold cl at hcl2
              split at hcl2
              · cases hcl2
              · exact hcl2
            exact ⟨v, (Ev_put a3).2 (Ev_ds.2 (Ev_pure hp hv)), fun _ _ => rfl⟩
          · have hlk : cl P N i oi = .look := by cases hq : cl P N i oi <;> simp_all
            have hmem := hs.looks i j oi oj (Ne.symm hij) hoi hoj hcj hlk (ready_unreached hcl hi hj _) (ready_unreached hcl hj hi _)
            have hlt : i < listed.size := by
              have h0 := (mem_ready.1 hi).1
              rw [Array.getD_eq_getD_getElem?] at h0
              rcases Nat.lt_or_ge i listed.size with h' | h'
              · exact h'
              · rw [Array.getElem?_eq_none h'] at h0; cases h0
            obtain ⟨w, hw2, hw3⟩ := hrev i hmem (by simp [Array.getD_eq_getD_getElem?, Array.getElem?_setIfInBounds, hlt]) oi hoi
            have hself := (hs.solo j oj i oi hoj hmem hoi).1
            rw [ecomm] at hw2 hw3
            refine ⟨w, (Ev_put hself).1 hw2, fun d hd => ?_⟩
            rw [← hw3 d hd, hd]
            simp [Env.put, fset]
        obtain ⟨v', hv', hvv⟩ := hval
        rw [ecomm] at hrev hany
        constructor
        · intro k hk hkl ok hok
          have hki : k ≠ i := fun hh => by rw [hh, ready_not hi] at hkl; cases hkl
          obtain ⟨w, hw1, hw2⟩ := hrev k hk (getD_set_true hkl) ok hok
          have hnr : reach ops ops.size i k = false := by
            cases hrk : reach ops ops.size i k with
            | false => rfl
            | true =>
              have := reach_listed hcl ops.size i k hrk (fun o' ho' e he hb => hcl k o' ho' hkl e he hb)
              rw [ready_not hi] at this
              cases this
          have hsolo := (hs.solo j oj k ok hoj hk hok).2 i oi (Ne.symm hki) hoi hnr
          rw [Ev_put (fun d hd => (hsolo d hd).1)] at hw1
          refine ⟨w, hw1, fun d hd => ?_⟩
          rw [← hw2 d hd]
          cases hdi : oi.dst with
          | none => rfl
          | some di =>
            have : d ≠ di := fun hh => (hsolo di hdi).2 (by rw [hd, hh])
            simp [Env.put, fset, this]
        · refine ih _ _ _ v' (hcl.set hj) (ready_mono hi (Ne.symm hij)) hv' ?_
          rw [hset]
          have hput : (({ e with ds := ds } : Env).put oj.dst u).put oi.dst v' = (({ e with ds := ds } : Env).put oj.dst u).put oi.dst v := by
            cases hdi : oi.dst with
            | none => rfl
            | some d => rw [hvv d hdi]
          rw [hput]
          exact hany

/-! ## One order -/
def rev1 (P : Program) (ops : Array Oper) (N : List Nat) (e : Env) (H : Heap) (k : Nat) : Prop :=
  match ops[k]? with
  | none => True
  | some o => match N.contains k, o.dst with
    | true, none => ∃ v, Ev P ops o e H v
    | true, some d => Ev P ops o e H (e.t d)
    | false, none => (evalL P ops o e H).isSome = true
    | false, some d => evalL P ops o e H = some (e.t d)

def revs (P : Program) (ops : Array Oper) (N : List Nat) (e : Env) (H : Heap) (X : Prop) : List Nat → Prop
  | [] => X
  | k :: ks => rev1 P ops N e H k ∧ revs P ops N e H X ks

def wpSeq (P : Program) (r : Rd) (ops : Array Oper) (N : List Nat) : List (Nat × List Nat) → Post → Env → Heap → Prop
  | [], Q, e, H => Q .normal e H
  | (i, ks) :: l, Q, e, H => match ops[i]? with
    | none => False
    | some o => match N.contains i with
      | true => ∃ v, Ev P ops o e H v ∧ wpSeq P r ops N l Q (e.put o.dst v) H
      | false => wpOp P r ops o (fun e' H' => revs P ops N e' H' (wpSeq P r ops N l Q e' H') ks) e H

theorem rev1_iff {N : List Nat} {e : Env} {H : Heap} {k : Nat} (h : rev1 P ops N e H k) {o : Oper} (ho : ops[k]? = some o) (hc : cl P N k o ≠ .act) : ∃ v, Ev P ops o e H v ∧ ∀ d, o.dst = some d → e.t d = v := by
  unfold rev1 at h
  rw [ho] at h
  simp only at h
  unfold cl at hc
  cases hn : N.contains k with
  | true =>
    rw [hn] at h
    cases hd : o.dst with
    | none => rw [hd] at h; obtain ⟨v, hv⟩ := h; exact ⟨v, hv, fun d hd => by cases hd⟩
    | some d => rw [hd] at h; exact ⟨_, h, fun d' hd' => by cases hd'; rfl⟩
  | false =>
    rw [hn] at h hc
    have hc' : cls P o.op ≠ .act := by simpa using hc
    cases hd : o.dst with
    | none =>
      rw [hd] at h
      obtain ⟨v, hv⟩ := Option.isSome_iff_exists.1 h
      exact ⟨v, Ev_of_evalL hc' hv, fun d hd => by cases hd⟩
    | some d =>
      rw [hd] at h
      exact ⟨_, Ev_of_evalL hc' h, fun d' hd' => by cases hd'; rfl⟩

theorem revs_iff {N : List Nat} {e : Env} {H : Heap} {X : Prop} : ∀ {ks : List Nat}, revs P ops N e H X ks → X ∧ ∀ k ∈ ks, rev1 P ops N e H k
  | [], h => ⟨h, fun k hk => by cases hk⟩
  | k :: ks, h => by
    obtain ⟨h1, h2⟩ := h
    obtain ⟨h3, h4⟩ := revs_iff h2
    refine ⟨h3, fun k' hk' => ?_⟩
    rcases List.mem_cons.1 hk' with rfl | hk'
    · exact h1
    · exact h4 k' hk'

def reOf (ord : List (Nat × List Nat)) (j : Nat) : List Nat := ((ord.find? fun p => p.1 == j).map (·.2)).getD []

/-- Is the order one? -/
def sched (P : Program) (ops : Array Oper) (N : List Nat) : Array Bool → List (Nat × List Nat) → Bool
  | listed, [] => Region.ready .any ops listed == []
  | listed, (i, ks) :: l => (match ops[i]? with
    | none => false
    | some o => (Region.ready .any ops listed).contains i && (cl P N i o != .act || Region.ready .any ops listed == [i]) && ks.all (fun k => listed.getD k false && match ops[k]? with | some ok => cl P N k ok != .act | none => true) && sched P ops N (listed.setIfInBounds i true) l)

def allPairs (n : Nat) (p : Nat → Nat → Bool) : Bool := (List.range n).all fun i => (List.range n).all fun j => i == j || p i j

def okOrd (P : Program) (ops : Array Oper) (N : List Nat) (ord : List (Nat × List Nat)) : Bool :=
  ord.length == ops.size && sched P ops N (Array.replicate ops.size false) ord &&
  allPairs ops.size (fun i j => match ops[i]?, ops[j]? with
    | some oi, some oj => reach ops ops.size i j || reach ops ops.size j i || (oi.apart ops oj && (cl P N j oj != .act || cl P N i oi != .look || (reOf ord j).contains i))
    | _, _ => true) &&
  (List.range ops.size).all (fun j => match ops[j]? with
    | some oj => (reOf ord j).all fun k => match ops[k]? with
      | some ok => (match ok.dst with | some d => !(ok.looksAt ops).contains d | none => true) &&
          (List.range ops.size).all fun i => i == k || reach ops ops.size i k || (match ops[i]? with
            | some oi => (match oi.dst with | some d => !(ok.looksAt ops).contains d && ok.dst != some d | none => true)
            | none => true)
      | none => true
    | none => true)

instance : LawfulBEq Cl where
  eq_of_beq {a b} h := by cases a <;> cases b <;> first | rfl | (cases h)
  rfl {a} := by cases a <;> rfl

theorem sound_of_okOrd {N : List Nat} {ord : List (Nat × List Nat)} (h : okOrd P ops N ord = true) : Sound P ops N (reOf ord) := by
  simp only [okOrd, Bool.and_eq_true] at h
  obtain ⟨⟨⟨_, _⟩, h3⟩, h4⟩ := h
  have pair : ∀ i j oi oj, i ≠ j → ops[i]? = some oi → ops[j]? = some oj → (reach ops ops.size i j || reach ops ops.size j i || (oi.apart ops oj && (cl P N j oj != .act || cl P N i oi != .look || (reOf ord j).contains i))) = true := by
    intro i j oi oj hij hoi hoj
    have hi : i < ops.size := (Array.getElem?_eq_some_iff.1 hoi).1
    have hj : j < ops.size := (Array.getElem?_eq_some_iff.1 hoj).1
    have := List.all_eq_true.1 (List.all_eq_true.1 h3 i (List.mem_range.2 hi)) j (List.mem_range.2 hj)
    simp only [hoi, hoj] at this
    rw [Bool.or_eq_true, beq_iff_eq] at this
    rcases this with h | h
    · exact absurd h hij
    · exact h
  have solo : ∀ j oj, ops[j]? = some oj → ∀ k ∈ reOf ord j, ∀ ok : Oper, ops[k]? = some ok → ((match ok.dst with | some d => !(ok.looksAt ops).contains d | none => true) && (List.range ops.size).all fun i => i == k || reach ops ops.size i k || (match ops[i]? with | some oi => (match oi.dst with | some d => !(ok.looksAt ops).contains d && ok.dst != some d | none => true) | none => true)) = true := fun j oj hoj k hk ok hok => by
    have hj : j < ops.size := (Array.getElem?_eq_some_iff.1 hoj).1
    have := List.all_eq_true.1 h4 j (List.mem_range.2 hj)
    rw [hoj] at this
    have h5 := List.all_eq_true.1 this k hk
    rw [hok] at h5
    exact h5
  refine ⟨fun i j oi oj hij hoi hoj r1 r2 => ?_, fun i j oi oj hij hoi hoj ca clk r1 r2 => ?_, fun j oj k ok hoj hk hok => ?_⟩
  · have := pair i j oi oj hij hoi hoj
    rw [r1, r2] at this
    simp only [Bool.false_or, Bool.and_eq_true] at this
    exact this.1
  · have := pair i j oi oj hij hoi hoj
    rw [r1, r2, ca, clk] at this
    simp only [Bool.false_or, Bool.and_eq_true, bne_self_eq_false, List.contains_iff_mem] at this
    exact this.2
  · have h5 := solo j oj hoj k hk ok hok
    simp only [Bool.and_eq_true] at h5
    refine ⟨fun d hd => ?_, fun i oi hik hoi hnr d hd => ?_⟩
    · have := h5.1
      rw [hd] at this
      simpa using this
    · have hi : i < ops.size := (Array.getElem?_eq_some_iff.1 hoi).1
      have h6 := List.all_eq_true.1 h5.2 i (List.mem_range.2 hi)
      rw [hoi] at h6
      simp only [hd, hnr, Bool.or_false, Bool.or_eq_true, beq_iff_eq, hik, false_or, Bool.and_eq_true, bne_iff_ne] at h6
      exact ⟨by simpa using h6.1, h6.2⟩

theorem wpAnyR_of_seq {N : List Nat} {ord : List (Nat × List Nat)} (hs : Sound P ops N (reOf ord)) {Q : Post} : ∀ (l : List (Nat × List Nat)) (listed : Array Bool) (e : Env) (H : Heap), (∀ p ∈ l, reOf ord p.1 = p.2) → Closed ops listed → sched P ops N listed l = true →
    wpSeq P r ops N l Q e H → wpAnyR P r ops N (reOf ord) Q l.length listed e H
  | [], listed, e, H, _, _, hsch, h => ⟨by simpa [sched] using hsch, h⟩
  | (i, ks) :: l, listed, e, H, hre, hcl, hsch, h => by
    simp only [sched] at hsch
    simp only [wpSeq] at h
    cases ho : ops[i]? with
    | none => rw [ho] at h; exact h.elim
    | some o =>
      rw [ho] at h hsch
      simp only [Bool.and_eq_true, List.contains_iff_mem, Bool.or_eq_true, bne_iff_ne, beq_iff_eq, List.all_eq_true] at hsch
      obtain ⟨⟨⟨hr, hact⟩, hks⟩, hrest⟩ := hsch
      have hri : reOf ord i = ks := hre (i, ks) (by simp)
      have hre' : ∀ p ∈ l, reOf ord p.1 = p.2 := fun p hp => hre p (by simp [hp])
      by_cases hc : cl P N i o = .act
      · have hone : Region.ready .any ops listed = [i] := by
          rcases hact with h1 | h1
          · exact absurd hc h1
          · exact h1
        have hN : N.contains i = false := by
          cases hn : N.contains i with
          | false => rfl
          | true => unfold cl at hc; rw [if_pos hn] at hc; cases hc
        rw [hN] at h
        refine ⟨fun hn => absurd hone (by rw [hn]; simp), fun j hj => ?_⟩
        rw [hone] at hj
        have : j = i := by simpa using hj
        subst this
        refine ⟨o, ho, fun h1 => absurd hc h1, fun _ => wpOp_mono h fun e' H' hh => ?_⟩
        obtain ⟨h1, h2⟩ := revs_iff hh
        refine ⟨?_, wpAnyR_of_seq hs l _ e' H' hre' (hcl.set hr) hrest h1⟩
        intro k hk _ ok hok
        rw [hri] at hk
        have := (hks k hk).2
        rw [hok] at this
        exact rev1_iff (h2 k hk) hok (by simpa using this)
      · cases hN : N.contains i with
        | true =>
          rw [hN] at h
          obtain ⟨v, hv, hh⟩ := h
          exact wpAnyR_take hs ho hc l.length listed e H v hcl hr hv (wpAnyR_of_seq hs l _ _ H hre' (hcl.set hr) hrest hh)
        | false =>
          rw [hN] at h
          have hcls : cls P o.op ≠ .act := by
            unfold cl at hc
            rw [hN] at hc
            simpa using hc
          obtain ⟨v, hv, hh⟩ := (wpO_look hcls).1 (wpOp_iff.1 h)
          exact wpAnyR_take hs ho hc l.length listed e H v hcl hr (Ev_of_evalL hcls hv) (wpAnyR_of_seq hs l _ _ H hre' (hcl.set hr) hrest (revs_iff hh).1)

/-- A DRAWN REGION, by one order. -/
theorem wp_region_ord {id : Nat} {Q : Post} {e : Env} {H : Heap} (N : List Nat) (ord : List (Nat × List Nat)) (hk : (okOrd P ops N ord && ord.all fun p => reOf ord p.1 == p.2) = true) (h : wpSeq P r ops N ord Q e H) : wp P n r (.region id ops true) Q e H := by
  simp only [Bool.and_eq_true] at hk
  obtain ⟨hk, hre⟩ := hk
  have hs := sound_of_okOrd hk
  simp only [okOrd, Bool.and_eq_true, beq_iff_eq] at hk
  obtain ⟨⟨⟨hl, hsch⟩, _⟩, _⟩ := hk
  simp only [wp]
  rw [← hl]
  apply wpAny_of_R (N := N) (re := reOf ord)
  refine wpAnyR_of_seq hs ord _ e H (fun p hp => by simpa using List.all_eq_true.1 hre p hp) ?_ (by rw [hl]; exact hsch) h
  intro j o ho hj
  simp [Array.getD_eq_getD_getElem?, Array.getElem?_replicate] at hj
  split at hj <;> simp at hj

end
end Go.Cm
