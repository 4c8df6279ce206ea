/- The abstract machine, run: for runs without an unknown. -/
import Derived.Test.YtgalmibnlkbdiaaGreatDoorCmFn
set_option linter.unusedVariables false
set_option linter.unusedSimpArgs false
namespace Go.Cm
open Go Go.RowKit

/-! ## Tables -/
inductive Tr (α : Type) where
  | nil
  | node (v : Option α) (l r : Tr α)
  | ovr (n : Nat) (v : Option α) (t : Tr α)

def Tr.get {α : Type} : Tr α → Nat → Option α
  | .nil, _ => none
  | .node v l r, n => @Nat.casesOn (fun _ => Option α) n v fun k => @Bool.casesOn (fun _ => Option α) (Nat.beq (Nat.mod k 2) 0) (r.get (Nat.div k 2)) (l.get (Nat.div k 2))
  | .ovr c v t, n => @Bool.casesOn (fun _ => Option α) (Nat.beq n c) (t.get n) v

def Tr.put1 {α : Type} (ih : Tr α → Nat → Option α → Tr α) (u : Option α) (l r : Tr α) (n : Nat) (v : Option α) : Tr α :=
  @Nat.casesOn (fun _ => Tr α) n (.node v l r) fun k => @Bool.casesOn (fun _ => Tr α) (Nat.beq (Nat.mod k 2) 0) (.node u l (ih r (Nat.div k 2) v)) (.node u (ih l (Nat.div k 2) v) r)

def Tr.set {α : Type} (d : Nat) : Tr α → Nat → Option α → Tr α :=
  @Nat.rec (fun _ => Tr α → Nat → Option α → Tr α) (fun t n v => .ovr n v t)
    (fun _ ih t n v => @Tr.casesOn α (fun _ => Tr α) t (Tr.put1 ih none .nil .nil n v) (fun u l r => Tr.put1 ih u l r n v) (fun c u t' => .ovr n v (.ovr c u t'))) d

theorem Tr.get_nil {α : Type} (n : Nat) : (Tr.nil : Tr α).get n = none := rfl
theorem Tr.get_ovr {α : Type} (c : Nat) (v : Option α) (t : Tr α) (n : Nat) : (Tr.ovr c v t).get n = if n = c then v else t.get n := by
  show @Bool.casesOn (fun _ => Option α) (Nat.beq n c) (t.get n) v = _
  by_cases h : n = c
  · subst h; rw [if_pos rfl, Nat.beq_refl]
  · rw [if_neg h, show Nat.beq n c = false from Bool.eq_false_iff.2 fun hh => h (Nat.eq_of_beq_eq_true hh)]
theorem Tr.get_node {α : Type} (v : Option α) (l r : Tr α) (n : Nat) : (Tr.node v l r).get n = match n with
    | 0 => v
    | k + 1 => if k % 2 = 0 then l.get (k / 2) else r.get (k / 2) := by
  cases n with
  | zero => rfl
  | succ k =>
    show @Bool.casesOn (fun _ => Option α) (Nat.beq (k % 2) 0) (r.get (k / 2)) (l.get (k / 2)) = if k % 2 = 0 then l.get (k / 2) else r.get (k / 2)
    by_cases h : k % 2 = 0
    · rw [if_pos h, h, Nat.beq_refl]
    · rw [if_neg h, show Nat.beq (k % 2) 0 = false from Bool.eq_false_iff.2 fun hh => h (Nat.eq_of_beq_eq_true hh)]

theorem Tr.put1_eq {α : Type} (ih : Tr α → Nat → Option α → Tr α) (u : Option α) (l r : Tr α) (n : Nat) (v : Option α) : Tr.put1 ih u l r n v = match n with
    | 0 => .node v l r
    | k + 1 => if k % 2 = 0 then .node u (ih l (k / 2) v) r else .node u l (ih r (k / 2) v) := by
  cases n with
  | zero => rfl
  | succ k =>
    show @Bool.casesOn (fun _ => Tr α) (Nat.beq (k % 2) 0) (.node u l (ih r (k / 2) v)) (.node u (ih l (k / 2) v) r) = if k % 2 = 0 then .node u (ih l (k / 2) v) r else .node u l (ih r (k / 2) v)
    by_cases h : k % 2 = 0
    · rw [if_pos h, h, Nat.beq_refl]
    · rw [if_neg h, show Nat.beq (k % 2) 0 = false from Bool.eq_false_iff.2 fun hh => h (Nat.eq_of_beq_eq_true hh)]

theorem Tr.get_set {α : Type} : ∀ (d : Nat) (t : Tr α) (n : Nat) (v : Option α) (m : Nat), (Tr.set d t n v).get m = if m = n then v else t.get m
  | 0, t, n, v, m => Tr.get_ovr n v t m
  | d + 1, t, n, v, m => by
    have key : ∀ (u : Option α) (l r : Tr α), (Tr.put1 (Tr.set d) u l r n v).get m = if m = n then v else (Tr.node u l r).get m := by
      intro u l r
      have ihl := Tr.get_set d l
      have ihr := Tr.get_set d r
      rw [Tr.put1_eq]
      cases n with
      | zero =>
        simp only [Tr.get_node]
        cases m with
        | zero => simp
        | succ j => simp
      | succ k =>
        simp only
        by_cases hk : k % 2 = 0
        · rw [if_pos hk]
          simp only [Tr.get_node]
          cases m with
          | zero => simp
          | succ j =>
            simp only
            by_cases hj : j % 2 = 0
            · simp only [hj, if_true, ihl]
              by_cases h : j = k
              · subst h; simp
              · have : j / 2 ≠ k / 2 := by omega
                simp [this, h]
            · have : j ≠ k := fun h => hj (h ▸ hk)
              simp [hj, this]
        · rw [if_neg hk]
          simp only [Tr.get_node]
          cases m with
          | zero => simp
          | succ j =>
            simp only
            by_cases hj : j % 2 = 0
            · have : j ≠ k := fun h => hk (h ▸ hj)
              simp [hj, this]
            · simp only [hj, if_false, ihr]
              by_cases h : j = k
              · subst h; simp
              · have : j / 2 ≠ k / 2 := by omega
                simp [this, h]
    cases t with
    | nil =>
      show (Tr.put1 (Tr.set d) none .nil .nil n v).get m = _
      rw [key]
      congr 1
      rw [Tr.get_node]
      cases m <;> simp [Tr.get_nil]
    | node u l r => exact key u l r
    | ovr c u t' => exact Tr.get_ovr n v (.ovr c u t') m

def Tr.up {α : Type} (t : Tr α) (n : Nat) (v : Option α) : Tr α := Tr.set 24 t n v
theorem Tr.get_up {α : Type} (t : Tr α) (n : Nat) (v : Option α) (m : Nat) : (t.up n v).get m = if m = n then v else t.get m := Tr.get_set 24 t n v m

/-! ## States -/
structure CE where
  t : Tr V
  ds : List Dfr

/-- A place in the program's code. -/
inductive Loc where
  | fn (g : FuncId)
  | a (l : Loc)
  | b (l : Loc)
  | lab (l : Loc) (n : Nat)

def codeAt (P : Program) : Loc → Option Code
  | .fn g => (P.funcs[g]?).bind (·.body)
  | .a l => (match codeAt P l with
    | some (.seq a _) => some a
    | some (.cond _ a _) => some a
    | some (.block _ a) => some a
    | some (.loop a) => some a
    | some (.scope a) => some a
    | some (.rangeFunc _ _ a _) => some a
    | _ => none)
  | .b l => (match codeAt P l with
    | some (.seq _ b) => some b
    | some (.cond _ _ b) => some b
    | some (.rangeFunc _ _ _ b) => some b
    | _ => none)
  | .lab l n => (codeAt P l).bind fun c => findLabel c n

structure CL where
  st : LoopState
  pend : Option Code
  t : Tr V
  n : Nat
  loc : Loc
  dfr : Nat

structure CH where
  cells : Tr Obj
  nc : Nat
  its : Tr (List UInt8 × Nat)
  ni : Nat
  lps : Tr CL
  nl : Nat
  ds : Tr Bool
  nd : Nat
  lc : Nat := 0
  li : Nat := 0
  ll : Nat := 0
  ld : Nat := 0

def slots (t : Tr V) : Nat → V := fun j => (t.get j).getD .undef
def CE.toE (e : CE) : Env := { t := slots e.t, ds := e.ds }
def rangeParts : Option Code → Array Tmp × Code × Code
  | some (.rangeFunc _ ps a b) => (ps, a, b)
  | _ => (#[], .skip, .skip)
def CL.toL (P : Program) (r : CL) : LoopRec := { st := r.st, pend := r.pend, t := slots r.t, n := r.n, params := (rangeParts (codeAt P r.loc)).1, assign := (rangeParts (codeAt P r.loc)).2.1, body := (rangeParts (codeAt P r.loc)).2.2, dfr := r.dfr }
def CH.toH (P : Program) (h : CH) : Heap := { cs := h.cells.get, nc := h.nc, its := h.its.get, ni := h.ni, lps := fun l => (h.lps.get l).map (CL.toL P), nl := h.nl, ds := fun j => (h.ds.get j).getD false, nd := h.nd }

def CE.put (e : CE) (d : Option Tmp) (v : V) : CE :=
  match d with
  | some d => { e with t := e.t.up d (some v) }
  | none => e

theorem slots_up (t : Tr V) (d : Nat) (v : V) : slots (t.up d (some v)) = fset (slots t) d v := by
  funext j
  simp only [slots, Tr.get_up, fset]
  by_cases h : j = d <;> simp [h]

theorem CE.toE_put (e : CE) (d : Option Tmp) (v : V) : (e.put d v).toE = e.toE.put d v := by
  cases d with
  | none => rfl
  | some d => simp only [CE.put, CE.toE, Env.put, slots_up]

section
variable {P : Program}
def CH.putLp (h : CH) (l : Nat) (r : CL) : CH := { h with lps := h.lps.up l (some r), ll := min h.ll l }
theorem CH.toH_putLp (h : CH) (l : Nat) (r : CL) : ((h.putLp l r).toH P) = (h.toH P).putLp l (r.toL P) := by
  simp only [CH.putLp, CH.toH, Heap.putLp]
  congr 1
  funext j
  simp only [Tr.get_up, fset]
  by_cases hj : j = l <;> simp [hj]
def CH.pushLp (h : CH) (r : CL) : CH := { h with lps := h.lps.up h.nl (some r), nl := h.nl + 1, ll := min h.ll h.nl }
theorem CH.toH_pushLp (h : CH) (r : CL) : ((h.pushLp r).toH P) = (h.toH P).pushLp (r.toL P) := by
  simp only [CH.pushLp, CH.toH, Heap.pushLp]
  congr 1
  funext j
  simp only [Tr.get_up, fset]
  by_cases hj : j = h.nl <;> simp [hj]
def CH.pushDs (h : CH) : CH := { h with ds := h.ds.up h.nd (some true), nd := h.nd + 1, ld := min h.ld h.nd }
theorem CH.toH_pushDs (h : CH) : (h.pushDs.toH P) = (h.toH P).pushDs := by
  simp only [CH.pushDs, CH.toH, Heap.pushDs]
  congr 1
  funext j
  simp only [Tr.get_up, fset]
  by_cases hj : j = h.nd <;> simp [hj]
def CH.dropDs (h : CH) (j : Nat) : CH := { h with ds := h.ds.up j (some false), ld := min h.ld j }
theorem CH.toH_dropDs (h : CH) (j : Nat) : ((h.dropDs j).toH P) = (h.toH P).dropDs j := by
  simp only [CH.dropDs, CH.toH, Heap.dropDs]
  congr 1
  funext i
  simp only [Tr.get_up, fset]
  by_cases hj : i = j <;> simp [hj]

end

/-! ## What an operation changes -/
structure Chg (H H' : Heap) (bs is : List Nat) : Prop where
  lps : H'.lps = H.lps
  nl : H'.nl = H.nl
  ds : H'.ds = H.ds
  nd : H'.nd = H.nd
  cs : ∀ b, b ≠ H.nc → b ∉ bs → H'.cs b = H.cs b
  its : ∀ i, i ≠ H.ni → i ∉ is → H'.its i = H.its i

theorem Chg.refl (H : Heap) (bs is : List Nat) : Chg H H bs is := ⟨rfl, rfl, rfl, rfl, fun _ _ _ => rfl, fun _ _ _ => rfl⟩
theorem Chg.push (H : Heap) (o : Obj) (bs is : List Nat) : Chg H (H.push o) bs is := ⟨rfl, rfl, rfl, rfl, fun b h _ => by simp [Heap.push, fset, h], fun _ _ _ => rfl⟩
theorem Chg.put {H : Heap} {b : Nat} (o : Option Obj) {bs : List Nat} (is : List Nat) (h : b ∈ bs) : Chg H (H.put b o) bs is :=
  ⟨rfl, rfl, rfl, rfl, fun c _ hc => by
    have : c ≠ b := fun hh => hc (hh ▸ h)
    simp [Heap.put, fset, this], fun _ _ _ => rfl⟩
theorem Chg.putPush {H : Heap} {b : Nat} (o : Option Obj) (ob : Obj) {bs : List Nat} (is : List Nat) (h : b ∈ bs) : Chg H ((H.put b o).push ob) bs is :=
  ⟨rfl, rfl, rfl, rfl, fun c hn hc => by
    have : c ≠ b := fun hh => hc (hh ▸ h)
    have hn' : c ≠ (H.put b o).nc := hn
    simp [Heap.push, Heap.put, fset, this]
    intro hh
    exact absurd hh hn, fun _ _ _ => rfl⟩
theorem Chg.pushIt (H : Heap) (s : List UInt8) (bs is : List Nat) : Chg H (H.pushIt s) bs is := ⟨rfl, rfl, rfl, rfl, fun _ _ _ => rfl, fun b h _ => by simp [Heap.pushIt, fset, h]⟩
theorem Chg.putIt {H : Heap} {i : Nat} (s : List UInt8) (p : Nat) (bs : List Nat) {is : List Nat} (h : i ∈ is) : Chg H (H.putIt i s p) bs is :=
  ⟨rfl, rfl, rfl, rfl, fun _ _ _ => rfl, fun c _ hc => by
    have : c ≠ i := fun hh => hc (hh ▸ h)
    simp [Heap.putIt, fset, this]⟩

def V.blks : V → List Nat
  | .ptr b _ => [b]
  | .slice b _ _ _ _ => [b]
  | _ => []
def V.itrs : V → List Nat
  | .it i => [i]
  | _ => []

def touchB (ρ : Operand → V) (o : Oper) : List Nat :=
  match o.op with
  | .store _ a _ => (ρ a).blks
  | .call c => (match c.args.toList with
    | a :: _ => (ρ a).blks
    | [] => [])
  | _ => []
def touchI (ρ : Operand → V) (o : Oper) : List Nat := o.op.operands.toList.flatMap fun x => (ρ x).itrs

section
variable {P : Program} {r : Option Nat}

theorem chg_append {t xt : TypeId} {s x v : V} {H H' : Heap} {bs is : List Nat} (hs : ∀ b ∈ s.blks, b ∈ bs) (h : appendOp P t xt s x H = .val v H') : Chg H H' bs is := by
  unfold appendOp at h
  repeat' split at h
  all_goals first
    | (cases h; done)
    | (cases h; exact .refl _ _ _)
    | (cases h; exact .push _ _ _ _)
    | (cases h; exact .put _ _ (hs _ (by simp [V.blks])))
    | (cases h; exact .putPush _ _ _ (hs _ (by simp [V.blks])))

theorem chg_copy {t : TypeId} {d s v : V} {H H' : Heap} {bs is : List Nat} (hs : ∀ b ∈ d.blks, b ∈ bs) (h : copyOp P t d s H = .val v H') : Chg H H' bs is := by
  unfold copyOp at h
  repeat' split at h
  all_goals first
    | (cases h; done)
    | (cases h; exact .refl _ _ _)
    | (cases h; exact .put _ _ (hs _ (by simp [V.blks])))

theorem chg_of {x : Option V} {v : V} {H H' : Heap} {bs is : List Nat} (h : OpR.of x H = .val v H') : Chg H H' bs is := by
  cases x <;> cases h
  exact .refl _ _ _

theorem chg_step {ρ : Operand → V} {o : Oper} {v : V} {H H' : Heap} (h : stepOp P ρ o H = .val v H') : Chg H H' (touchB ρ o) (touchI ρ o) := by
  by_cases hc : cls P o.op = .act
  · have hI : ∀ x ∈ o.op.operands.toList, ∀ b ∈ (ρ x).itrs, b ∈ touchI ρ o := fun x hx b hb => List.mem_flatMap.2 ⟨x, hx, hb⟩
    generalize touchI ρ o = is at *
    obtain ⟨dst, op, ty, pos, after, guard⟩ := o
    cases op <;> simp only [stepOp] at h <;> (try (cases h; done)) <;> simp only [cls] at hc <;> (try (cases hc; done))
    case alloc t =>
      split at h <;> cases h
      exact .push _ _ _ _
    case box t x =>
      split at h <;> cases h
      exact .push _ _ _ _
    case buildSlice t n ps =>
      unfold buildSliceOp at h
      repeat' split at h
      all_goals first
        | (cases h; done)
        | (cases h; exact .push _ _ _ _)
    case store t a x =>
      split at h
      · rename_i b o ti ha hti
        split at h
        · rename_i H2 hst
          cases h
          unfold Heap.store at hst
          split at hst
          · split at hst
            · cases hst
              exact .put _ _ (by simp [touchB, ha, V.blks])
            · cases hst
          · cases hst
        · cases h
      · cases h
    case convert s d x =>
      unfold convOp at h
      repeat' split at h
      all_goals first
        | (cases h; done)
        | (cases h; exact .refl _ _ _)
        | (cases h; exact .push _ _ _ _)
    case makeSlice t l c =>
      unfold makeSliceOp at h
      repeat' split at h
      all_goals first
        | (cases h; done)
        | (cases h; exact .push _ _ _ _)
    case range t x =>
      unfold rangeOp at h
      repeat' split at h
      all_goals first
        | (cases h; done)
        | (cases h; exact .pushIt _ _ _ _)
    case next x s =>
      cases s with
      | false => cases h
      | true =>
        simp only at h
        unfold nextOp at h
        split at h
        · rename_i i hi
          repeat' split at h
          all_goals first
            | (cases h; done)
            | (cases h; exact .refl _ _ _)
            | (cases h; exact .putIt _ _ _ (hI x (by simp [Op.operands]) i (by simp [hi, V.itrs])))
        · cases h
    case call c =>
      obtain ⟨callee, ⟨args⟩, ⟨ts⟩⟩ := c
      unfold callOp at h
      cases callee with
      | value f => cases h
      | invoke rr m =>
        simp only at h
        repeat' split at h
        all_goals cases h
      | builtin b =>
        simp only at h
        unfold builtinOp at h
        split at h
        · exact chg_of h
        · exact chg_of h
        · exact chg_of h
        · exact chg_of h
        · rename_i t xt s x ets eargs
          cases args with
          | nil => cases eargs
          | cons a0 ar =>
            simp only [List.map_cons, List.cons.injEq] at eargs
            obtain ⟨rfl, _⟩ := eargs
            exact chg_append (fun b hb => by simpa [touchB] using hb) h
        · rename_i t ts' d s ets eargs
          cases args with
          | nil => cases eargs
          | cons a0 ar =>
            simp only [List.map_cons, List.cons.injEq] at eargs
            obtain ⟨rfl, _⟩ := eargs
            exact chg_copy (fun b hb => by simpa [touchB] using hb) h
        · exact chg_of h
        · cases h
        · rename_i pt it p k ets eargs
          cases args with
          | nil => cases eargs
          | cons a0 ar =>
            simp only [List.map_cons, List.cons.injEq] at eargs
            obtain ⟨rfl, _⟩ := eargs
            unfold unsafeStrOp at h
            repeat' split at h
            all_goals first
              | (cases h; done)
              | (cases h; exact .refl _ _ _)
              | (rename_i hpa _ _ _ _ _ _ _ _ _ _ _; cases h; refine .put _ _ ?_; simp only [touchB]; rw [hpa]; simp [V.blks])
              | (rename_i hpa _ _ _ _ _ _ _ _ _ _; cases h; refine .put _ _ ?_; simp only [touchB]; rw [hpa]; simp [V.blks])
              | (rename_i hpa _ _ _ _ _ _ _ _ _; cases h; refine .put _ _ ?_; simp only [touchB]; rw [hpa]; simp [V.blks])
              | (rename_i hpa _ _ _ _ _ _ _ _; cases h; refine .put _ _ ?_; simp only [touchB]; rw [hpa]; simp [V.blks])
        · cases h
    case defer c =>
      unfold dfrOp at h
      split at h <;> cases h
  · obtain ⟨x, hx⟩ := stays_of_look ρ o hc H
    rw [hx] at h
    exact chg_of h

/-- A short operation's changes. -/
def touchBM (ρ : Operand → V) : MOp → List Nat
  | .store _ a _ => (ρ a).blks
  | .app _ _ _ s _ => (ρ s).blks
  | .cpy _ d _ => (ρ d).blks
  | .gen o => touchB ρ ⟨none, o, 0, "", #[], none⟩
  | _ => []
def touchIM (ρ : Operand → V) : MOp → List Nat
  | .nxt x => (ρ x).itrs
  | .gen o => touchI ρ ⟨none, o, 0, "", #[], none⟩
  | _ => []
def MOp.acts : MOp → Bool
  | .alloc .. => true
  | .box .. => true
  | .bslice .. => true
  | .store .. => true
  | .cbytes .. => true
  | .mkslice .. => true
  | .rng .. => true
  | .nxt .. => true
  | .app .. => true
  | .cpy .. => true
  | .gen _ => true
  | _ => false

theorem chg_m {ρ : Operand → V} {m : MOp} {v : V} {H H' : Heap} (h : mstep P ρ m H = .val v H') : Chg H H' (touchBM ρ m) (touchIM ρ m) := by
  cases m <;> simp only [mstep] at h
  case gen o => exact chg_step h
  case store =>
    split at h
    · rename_i b o ha
      split at h
      · rename_i H2 hst
        cases h
        unfold storeM at hst
        split at hst
        · split at hst
          · cases hst
            exact .put _ _ (by simp [touchBM, ha, V.blks])
          · cases hst
        · cases hst
      · cases h
    · cases h
  case nxt x =>
    unfold nextOp at h
    split at h
    · rename_i i hi
      repeat' split at h
      all_goals first
        | (cases h; done)
        | (cases h; exact .refl _ _ _)
        | (cases h; exact .putIt _ _ _ (by simp [touchIM, hi, V.itrs]))
    · cases h
  case app e size bytes s x =>
    have hs : ∀ b ∈ (ρ s).blks, b ∈ touchBM ρ (.app e size bytes s x) := fun b hb => hb
    generalize touchBM ρ (.app e size bytes s x) = bs at hs ⊢
    unfold appM at h
    repeat' split at h
    all_goals first
      | (cases h; done)
      | (cases h; exact .refl _ _ _)
      | (cases h; exact .push _ _ _ _)
      | (rename_i hsv _ _ _ _ _; rw [hsv] at hs; cases h; exact .put _ _ (hs _ (by simp [V.blks])))
      | (rename_i hsv _ _ _ _ _ _ _ _ _ _; rw [hsv] at hs; cases h; exact .putPush _ _ _ (hs _ (by simp [V.blks])))
      | (cases h; exact .put _ _ (hs _ (by simp_all [V.blks])))
      | (cases h; exact .putPush _ _ _ (hs _ (by simp_all [V.blks])))
  case cpy size d s =>
    have hs : ∀ b ∈ (ρ d).blks, b ∈ touchBM ρ (.cpy size d s) := fun b hb => hb
    generalize touchBM ρ (.cpy size d s) = bs at hs ⊢
    unfold cpyM at h
    repeat' split at h
    all_goals first
      | (cases h; done)
      | (cases h; exact .refl _ _ _)
      | (cases h; exact .put _ _ (hs _ (by simp_all [V.blks])))
  all_goals (try unfold sslM at h)
  all_goals repeat' split at h
  all_goals first
    | (cases h; done)
    | exact chg_of h
    | (cases h; exact .refl _ _ _)
    | (cases h; exact .push _ _ _ _)
    | (cases h; exact .pushIt _ _ _ _)

theorem stays_m {ρ : Operand → V} {m : MOp} (hm : m.acts = false) {v : V} {H H' : Heap} (h : mstep P ρ m H = .val v H') : H' = H := by
  have of : ∀ {x : Option V}, OpR.of x H = .val v H' → H' = H := fun {x} h => by cases x <;> cases h; rfl
  cases m <;> simp only [MOp.acts] at hm <;> first | (cases hm; done) | skip
  all_goals simp only [mstep] at h
  all_goals (try unfold sslM at h)
  all_goals repeat' split at h
  all_goals first
    | (cases h; done)
    | exact of h
    | (cases h; rfl)

/-- A heap, a change taken over. -/
def CH.sync (h : CH) (H' : Heap) (bs is : List Nat) : CH :=
  { h with cells := (h.nc :: bs).foldl (fun t b => t.up b (H'.cs b)) h.cells, nc := H'.nc, its := (h.ni :: is).foldl (fun t b => t.up b (H'.its b)) h.its, ni := H'.ni, lc := (h.nc :: bs).foldl min h.lc, li := (h.ni :: is).foldl min h.li }

theorem get_fold {α : Type} (g : Nat → Option α) : ∀ (bs : List Nat) (t : Tr α) (m : Nat), (bs.foldl (fun t b => t.up b (g b)) t).get m = if m ∈ bs then g m else t.get m
  | [], t, m => by simp
  | b :: bs, t, m => by
    rw [List.foldl_cons, get_fold g bs]
    by_cases h : m ∈ bs
    · simp [h]
    · rw [if_neg h, Tr.get_up]
      by_cases hb : m = b
      · subst hb; simp
      · simp [hb, h]

theorem CH.toH_sync (h : CH) {H' : Heap} {bs is : List Nat} (hc : Chg (h.toH P) H' bs is) : ((h.sync H' bs is).toH P) = H' := by
  obtain ⟨cs, nc, its, ni, lps, nl, ds, nd⟩ := H'
  obtain ⟨c1, c2, c3, c4, c5, c6⟩ := hc
  simp only at c1 c2 c3 c4 c5 c6
  subst c1 c2 c3 c4
  simp only [CH.sync, CH.toH, Heap.mk.injEq, and_true, true_and]
  constructor
  · funext m
    rw [get_fold]
    by_cases hm : m ∈ h.nc :: bs
    · rw [if_pos hm]
    · rw [if_neg hm]
      simp only [List.mem_cons, not_or] at hm
      exact (c5 m hm.1 hm.2).symm
  · funext m
    rw [get_fold]
    by_cases hm : m ∈ h.ni :: is
    · rw [if_pos hm]
    · rw [if_neg hm]
      simp only [List.mem_cons, not_or] at hm
      exact (c6 m hm.1 hm.2).symm


/-- Below its marks the second is as the first. -/
structure Keeps (a b : CH) : Prop where
  c : b.lc ≤ a.lc ∧ ∀ x, x < b.lc → b.cells.get x = a.cells.get x
  i : b.li ≤ a.li ∧ ∀ x, x < b.li → b.its.get x = a.its.get x
  l : b.ll ≤ a.ll ∧ ∀ x, x < b.ll → b.lps.get x = a.lps.get x
  d : b.ld ≤ a.ld ∧ ∀ x, x < b.ld → b.ds.get x = a.ds.get x

theorem Keeps.refl (a : CH) : Keeps a a := ⟨⟨Nat.le_refl _, fun _ _ => rfl⟩, ⟨Nat.le_refl _, fun _ _ => rfl⟩, ⟨Nat.le_refl _, fun _ _ => rfl⟩, ⟨Nat.le_refl _, fun _ _ => rfl⟩⟩
theorem Keeps.trans {a b c : CH} (h : Keeps a b) (k : Keeps b c) : Keeps a c :=
  ⟨⟨Nat.le_trans k.c.1 h.c.1, fun x hx => (k.c.2 x hx).trans (h.c.2 x (Nat.lt_of_lt_of_le hx k.c.1))⟩,
   ⟨Nat.le_trans k.i.1 h.i.1, fun x hx => (k.i.2 x hx).trans (h.i.2 x (Nat.lt_of_lt_of_le hx k.i.1))⟩,
   ⟨Nat.le_trans k.l.1 h.l.1, fun x hx => (k.l.2 x hx).trans (h.l.2 x (Nat.lt_of_lt_of_le hx k.l.1))⟩,
   ⟨Nat.le_trans k.d.1 h.d.1, fun x hx => (k.d.2 x hx).trans (h.d.2 x (Nat.lt_of_lt_of_le hx k.d.1))⟩⟩

theorem keeps_putLp (h : CH) (l : Nat) (r : CL) : Keeps h (h.putLp l r) :=
  ⟨⟨Nat.le_refl _, fun _ _ => rfl⟩, ⟨Nat.le_refl _, fun _ _ => rfl⟩, ⟨Nat.min_le_left _ _, fun x hx => by
    have hx' : x < min h.ll l := hx
    show (h.lps.up l (some r)).get x = _
    rw [Tr.get_up, if_neg (by omega)]⟩, ⟨Nat.le_refl _, fun _ _ => rfl⟩⟩
theorem keeps_pushLp (h : CH) (r : CL) : Keeps h (h.pushLp r) :=
  ⟨⟨Nat.le_refl _, fun _ _ => rfl⟩, ⟨Nat.le_refl _, fun _ _ => rfl⟩, ⟨Nat.min_le_left _ _, fun x hx => by
    have hx' : x < min h.ll h.nl := hx
    show (h.lps.up h.nl (some r)).get x = _
    rw [Tr.get_up, if_neg (by omega)]⟩, ⟨Nat.le_refl _, fun _ _ => rfl⟩⟩
theorem keeps_pushDs (h : CH) : Keeps h h.pushDs :=
  ⟨⟨Nat.le_refl _, fun _ _ => rfl⟩, ⟨Nat.le_refl _, fun _ _ => rfl⟩, ⟨Nat.le_refl _, fun _ _ => rfl⟩, ⟨Nat.min_le_left _ _, fun x hx => by
    have hx' : x < min h.ld h.nd := hx
    show (h.ds.up h.nd (some true)).get x = _
    rw [Tr.get_up, if_neg (by omega)]⟩⟩
theorem keeps_dropDs (h : CH) (j : Nat) : Keeps h (h.dropDs j) :=
  ⟨⟨Nat.le_refl _, fun _ _ => rfl⟩, ⟨Nat.le_refl _, fun _ _ => rfl⟩, ⟨Nat.le_refl _, fun _ _ => rfl⟩, ⟨Nat.min_le_left _ _, fun x hx => by
    have hx' : x < min h.ld j := hx
    show (h.ds.up j (some false)).get x = _
    rw [Tr.get_up, if_neg (by omega)]⟩⟩

theorem foldl_min : ∀ (bs : List Nat) (m : Nat), bs.foldl min m ≤ m ∧ ∀ b ∈ bs, bs.foldl min m ≤ b
  | [], m => ⟨Nat.le_refl _, fun b hb => by cases hb⟩
  | b :: bs, m => by
    obtain ⟨h1, h2⟩ := foldl_min bs (min m b)
    refine ⟨Nat.le_trans h1 (Nat.min_le_left _ _), fun c hc => ?_⟩
    rcases List.mem_cons.1 hc with rfl | hc
    · exact Nat.le_trans h1 (Nat.min_le_right _ _)
    · exact h2 c hc

theorem keeps_sync (h : CH) (H' : Heap) (bs is : List Nat) : Keeps h (h.sync H' bs is) := by
  refine ⟨⟨(foldl_min _ _).1, fun x hx => ?_⟩, ⟨(foldl_min _ _).1, fun x hx => ?_⟩, ⟨Nat.le_refl _, fun _ _ => rfl⟩, ⟨Nat.le_refl _, fun _ _ => rfl⟩⟩
  · show ((h.nc :: bs).foldl (fun t b => t.up b (H'.cs b)) h.cells).get x = _
    rw [get_fold, if_neg]
    intro hm
    have := (foldl_min (h.nc :: bs) h.lc).2 x hm
    have hx' : x < (h.nc :: bs).foldl min h.lc := hx
    omega
  · show ((h.ni :: is).foldl (fun t b => t.up b (H'.its b)) h.its).get x = _
    rw [get_fold, if_neg]
    intro hm
    have := (foldl_min (h.ni :: is) h.li).2 x hm
    have hx' : x < (h.ni :: is).foldl min h.li := hx
    omega

end
end Go.Cm
