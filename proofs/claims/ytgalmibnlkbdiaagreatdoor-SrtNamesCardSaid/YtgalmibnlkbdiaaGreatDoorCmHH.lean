/- Explicit heaps and frames over a heap that is not known. -/
import Derived.Test.YtgalmibnlkbdiaaGreatDoorCmMC
set_option linter.unusedVariables false
set_option linter.unusedSimpArgs false
namespace Go.Cm
open Go Go.RowKit

/-! ## Frames -/
def ET : List (Nat × V) → Nat → V
  | [], _ => .undef
  | (k, u) :: r, j => if j = k then u else ET r j

def upE : List (Nat × V) → Nat → V → List (Nat × V)
  | [], d, v => [(d, v)]
  | (k, u) :: r, d, v => if d = k then (d, v) :: r else (k, u) :: upE r d v

theorem ET_upE (d : Nat) (v : V) : ∀ (l : List (Nat × V)) (j : Nat), ET (upE l d v) j = if j = d then v else ET l j
  | [], j => by simp [upE, ET]
  | (k, u) :: r, j => by
    simp only [upE]
    by_cases h : d = k
    · subst h
      by_cases hj : j = d <;> simp [ET, hj]
    · rw [if_neg h]
      simp only [ET]
      rw [ET_upE d v r j]
      by_cases hj : j = k
      · subst hj
        rw [if_pos rfl, if_neg (Ne.symm h), if_pos rfl]
      · rw [if_neg hj, if_neg hj]

theorem put_ET (l : List (Nat × V)) (ds : List Dfr) (d : Nat) (v : V) : (⟨ET l, ds⟩ : Env).put (some d) v = ⟨ET (upE l d v), ds⟩ := by
  simp only [Env.put, Env.mk.injEq, and_true]
  funext j
  rw [ET_upE]
  rfl
theorem put_none (e : Env) (v : V) : e.put none v = e := rfl
theorem ds_ET (l : List (Nat × V)) (ds ds' : List Dfr) : ({ (⟨ET l, ds⟩ : Env) with ds := ds' } : Env) = ⟨ET l, ds'⟩ := rfl

theorem ev_tmp (l : List (Nat × V)) (ds : List Dfr) (t : Nat) : (⟨ET l, ds⟩ : Env).ev (.tmp t) = ET l t := rfl
theorem ev_const (e : Env) (v : Value) : e.ev (.const v) = ofVal v := rfl
theorem ev_global (e : Env) (g : Nat) : e.ev (.global g) = .ptr g 0 := rfl
theorem ev_func (e : Env) (f : FuncId) : e.ev (.func f) = .fn (.func f) [] [] := rfl

theorem env0_0 : env0 [] = ⟨ET [], []⟩ := by simp only [env0, Env.mk.injEq, and_true]; funext j; rfl
theorem env0_1 (a : V) : env0 [a] = ⟨ET [(0, a)], []⟩ := by
  simp only [env0, Env.mk.injEq, and_true]; funext j
  rcases j with _ | j <;> simp [ET]
theorem env0_2 (a b : V) : env0 [a, b] = ⟨ET [(0, a), (1, b)], []⟩ := by
  simp only [env0, Env.mk.injEq, and_true]; funext j
  rcases j with _ | _ | j <;> simp [ET]
theorem env0_3 (a b c : V) : env0 [a, b, c] = ⟨ET [(0, a), (1, b), (2, c)], []⟩ := by
  simp only [env0, Env.mk.injEq, and_true]; funext j
  rcases j with _ | _ | _ | j <;> simp [ET]
theorem env0_4 (a b c d : V) : env0 [a, b, c, d] = ⟨ET [(0, a), (1, b), (2, c), (3, d)], []⟩ := by
  simp only [env0, Env.mk.injEq, and_true]; funext j
  rcases j with _ | _ | _ | _ | j <;> simp [ET]
theorem env0_5 (a b c d e : V) : env0 [a, b, c, d, e] = ⟨ET [(0, a), (1, b), (2, c), (3, d), (4, e)], []⟩ := by
  simp only [env0, Env.mk.injEq, and_true]; funext j
  rcases j with _ | _ | _ | _ | _ | j <;> simp [ET]
theorem env0_6 (a b c d e f : V) : env0 [a, b, c, d, e, f] = ⟨ET [(0, a), (1, b), (2, c), (3, d), (4, e), (5, f)], []⟩ := by
  simp only [env0, Env.mk.injEq, and_true]; funext j
  rcases j with _ | _ | _ | _ | _ | _ | j <;> simp [ET]

theorem setAll_nil (t : Nat → V) (vs : List V) : setAll t [] vs = t := by cases vs <;> rfl
theorem setAll_ET (l : List (Nat × V)) (p : Nat) (ps : List Nat) (v : V) (vs : List V) : setAll (ET l) (p :: ps) (v :: vs) = setAll (ET (upE l p v)) ps vs := by
  simp only [setAll]
  congr 1
  funext j
  rw [ET_upE]
  rfl

/-! ## Heaps -/
structure XH where
  ov : List (Nat × Option Obj)
  nw : List (Option Obj)
  it : List (Option (List UInt8 × Nat))
  kd : List Bool

def lkp : List (Nat × Option Obj) → Nat → Option (Option Obj)
  | [], _ => none
  | (a, o) :: r, b => if b = a then some o else lkp r b

def upO : List (Nat × Option Obj) → Nat → Option Obj → List (Nat × Option Obj)
  | [], b, o => [(b, o)]
  | (a, u) :: r, b, o => if b = a then (b, o) :: r else (a, u) :: upO r b o

theorem lkp_upO (b : Nat) (o : Option Obj) : ∀ (l : List (Nat × Option Obj)) (j : Nat), lkp (upO l b o) j = if j = b then some o else lkp l j
  | [], j => by simp [upO, lkp]
  | (k, u) :: r, j => by
    simp only [upO]
    by_cases h : b = k
    · subst h
      by_cases hj : j = b <;> simp [lkp, hj]
    · rw [if_neg h]
      simp only [lkp]
      rw [lkp_upO b o r j]
      by_cases hj : j = k
      · subst hj
        rw [if_pos rfl, if_neg (Ne.symm h), if_pos rfl]
      · rw [if_neg hj, if_neg hj]

def HH (H : Heap) (x : XH) : Heap where
  cs := fun b => if b < H.nc then (match lkp x.ov b with | some o => o | none => H.cs b) else (x.nw[b - H.nc]?).join
  nc := H.nc + x.nw.length
  its := fun i => if i < H.ni then H.its i else (x.it[i - H.ni]?).join
  ni := H.ni + x.it.length
  lps := H.lps
  nl := H.nl
  ds := fun j => if j < H.nd then H.ds j else (x.kd[j - H.nd]?).getD false
  nd := H.nd + x.kd.length

section
variable {P : Program} {H : Heap} {ov : List (Nat × Option Obj)} {nw : List (Option Obj)} {it : List (Option (List UInt8 × Nat))} {kd : List Bool}

theorem HH_nil (hk : H.OK P) : HH H ⟨[], [], [], []⟩ = H := by
  obtain ⟨cs, nc, its, ni, lps, nl, ds, nd⟩ := H
  simp only [HH, List.length_nil, Nat.add_zero, Heap.mk.injEq, true_and, and_true]
  refine ⟨?_, ?_, ?_⟩
  · funext b
    split
    · rfl
    · rename_i h
      cases hb : cs b with
      | none => rfl
      | some o => exact absurd (hk.cs b o hb).1 h
  · funext b
    split
    · rfl
    · rename_i h
      cases hb : its b with
      | none => rfl
      | some o => exact absurd (hk.its b o hb) h
  · funext b
    split
    · rfl
    · rename_i h
      cases hb : ds b with
      | false => rfl
      | true => exact absurd (hk.ds b hb) h

theorem HH_nc : (HH H ⟨ov, nw, it, kd⟩).nc = H.nc + nw.length := by rfl
theorem HH_ni : (HH H ⟨ov, nw, it, kd⟩).ni = H.ni + it.length := by rfl
theorem HH_nl : (HH H ⟨ov, nw, it, kd⟩).nl = H.nl := by rfl
theorem HH_nd : (HH H ⟨ov, nw, it, kd⟩).nd = H.nd + kd.length := by rfl
theorem HH_lps : (HH H ⟨ov, nw, it, kd⟩).lps = H.lps := by rfl

theorem HH_cs_new (i : Nat) : (HH H ⟨ov, nw, it, kd⟩).cs (H.nc + i) = (nw[i]?).join := by
  have h : ¬ (H.nc + i < H.nc) := by omega
  simp only [HH, h, if_false]
  congr 2; omega
theorem HH_cs_new0 : (HH H ⟨ov, nw, it, kd⟩).cs H.nc = (nw[0]?).join := HH_cs_new 0
theorem HH_cs_old {b : Nat} (h : b < H.nc) : (HH H ⟨ov, nw, it, kd⟩).cs b = (lkp ov b).getD (H.cs b) := by
  simp only [HH, h, if_true]
  cases lkp ov b <;> rfl

theorem HH_push (o : Obj) : (HH H ⟨ov, nw, it, kd⟩).push o = HH H ⟨ov, nw ++ [some o], it, kd⟩ := by
  simp only [Heap.push, HH, List.length_append, List.length_singleton, Heap.mk.injEq, true_and, and_true, Nat.add_assoc]
  funext b
  simp only [fset]
  by_cases hb : b = H.nc + nw.length
  · subst hb
    have : ¬ (H.nc + nw.length < H.nc) := by omega
    simp [this]
  · simp only [hb, if_false]
    split
    · rfl
    · rename_i hlt
      rw [List.getElem?_append]
      split
      · rfl
      · rename_i h2
        have : b - H.nc - nw.length ≠ 0 := by omega
        have h3 : nw[b - H.nc]? = none := List.getElem?_eq_none (by omega)
        rw [h3, List.getElem?_eq_none (by simp; omega)]

theorem HH_put_new (i : Nat) (o : Option Obj) (hi : i < nw.length) : (HH H ⟨ov, nw, it, kd⟩).put (H.nc + i) o = HH H ⟨ov, nw.set i o, it, kd⟩ := by
  simp only [Heap.put, HH, List.length_set, Heap.mk.injEq, true_and, and_true]
  funext b
  simp only [fset]
  by_cases hb : b = H.nc + i
  · subst hb
    have : ¬ (H.nc + i < H.nc) := by omega
    simp [this, hi]
  · simp only [hb, if_false]
    split
    · rfl
    · rename_i hlt
      rw [List.getElem?_set]
      rw [if_neg (by omega)]
theorem HH_put_new0 (o : Option Obj) (hi : 0 < nw.length) : (HH H ⟨ov, nw, it, kd⟩).put H.nc o = HH H ⟨ov, nw.set 0 o, it, kd⟩ := HH_put_new 0 o hi
theorem HH_put_old {b : Nat} (h : b < H.nc) (o : Option Obj) : (HH H ⟨ov, nw, it, kd⟩).put b o = HH H ⟨upO ov b o, nw, it, kd⟩ := by
  simp only [Heap.put, HH, Heap.mk.injEq, true_and, and_true]
  funext c
  simp only [fset, lkp_upO]
  by_cases hc : c = b
  · subst hc
    simp [h]
  · simp only [hc, if_false]

theorem HH_its_new (i : Nat) : (HH H ⟨ov, nw, it, kd⟩).its (H.ni + i) = (it[i]?).join := by
  have h : ¬ (H.ni + i < H.ni) := by omega
  simp only [HH, h, if_false]
  congr 2; omega
theorem HH_its_new0 : (HH H ⟨ov, nw, it, kd⟩).its H.ni = (it[0]?).join := HH_its_new 0
theorem HH_pushIt (s : List UInt8) : (HH H ⟨ov, nw, it, kd⟩).pushIt s = HH H ⟨ov, nw, it ++ [some (s, 0)], kd⟩ := by
  simp only [Heap.pushIt, HH, List.length_append, List.length_singleton, Heap.mk.injEq, true_and, and_true, Nat.add_assoc]
  funext b
  simp only [fset]
  by_cases hb : b = H.ni + it.length
  · subst hb
    have : ¬ (H.ni + it.length < H.ni) := by omega
    simp [this]
  · simp only [hb, if_false]
    split
    · rfl
    · rename_i hlt
      rw [List.getElem?_append]
      split
      · rfl
      · rename_i h2
        have : b - H.ni - it.length ≠ 0 := by omega
        have h3 : it[b - H.ni]? = none := List.getElem?_eq_none (by omega)
        rw [h3, List.getElem?_eq_none (by simp; omega)]
theorem HH_putIt (i : Nat) (s : List UInt8) (p : Nat) (hi : i < it.length) : (HH H ⟨ov, nw, it, kd⟩).putIt (H.ni + i) s p = HH H ⟨ov, nw, it.set i (some (s, p)), kd⟩ := by
  simp only [Heap.putIt, HH, List.length_set, Heap.mk.injEq, true_and, and_true]
  funext b
  simp only [fset]
  by_cases hb : b = H.ni + i
  · subst hb
    have : ¬ (H.ni + i < H.ni) := by omega
    simp [this, hi]
  · simp only [hb, if_false]
    split
    · rfl
    · rename_i hlt
      rw [List.getElem?_set]
      rw [if_neg (by omega)]
theorem HH_putIt0 (s : List UInt8) (p : Nat) (hi : 0 < it.length) : (HH H ⟨ov, nw, it, kd⟩).putIt H.ni s p = HH H ⟨ov, nw, it.set 0 (some (s, p)), kd⟩ := HH_putIt 0 s p hi

theorem HH_pushDs : (HH H ⟨ov, nw, it, kd⟩).pushDs = HH H ⟨ov, nw, it, kd ++ [true]⟩ := by
  simp only [Heap.pushDs, HH, List.length_append, List.length_singleton, Heap.mk.injEq, true_and, and_true, Nat.add_assoc]
  funext b
  simp only [fset]
  by_cases hb : b = H.nd + kd.length
  · subst hb
    have : ¬ (H.nd + kd.length < H.nd) := by omega
    simp [this]
  · simp only [hb, if_false]
    split
    · rfl
    · rename_i hlt
      rw [List.getElem?_append]
      split
      · rfl
      · rename_i h2
        have : b - H.nd - kd.length ≠ 0 := by omega
        have h3 : kd[b - H.nd]? = none := List.getElem?_eq_none (by omega)
        rw [h3, List.getElem?_eq_none (by simp; omega)]
theorem HH_ds_new (i : Nat) : (HH H ⟨ov, nw, it, kd⟩).ds (H.nd + i) = (kd[i]?).getD false := by
  have h : ¬ (H.nd + i < H.nd) := by omega
  simp only [HH, h, if_false]
  congr 2; omega
theorem HH_ds_new0 : (HH H ⟨ov, nw, it, kd⟩).ds H.nd = (kd[0]?).getD false := HH_ds_new 0
theorem HH_dropDs (i : Nat) (hi : i < kd.length) : (HH H ⟨ov, nw, it, kd⟩).dropDs (H.nd + i) = HH H ⟨ov, nw, it, kd.set i false⟩ := by
  simp only [Heap.dropDs, HH, List.length_set, Heap.mk.injEq, true_and, and_true]
  funext b
  simp only [fset]
  by_cases hb : b = H.nd + i
  · subst hb
    have : ¬ (H.nd + i < H.nd) := by omega
    simp [this, hi]
  · simp only [hb, if_false]
    split
    · rfl
    · rename_i hlt
      rw [List.getElem?_set]
      rw [if_neg (by omega)]
theorem HH_dropDs0 (hi : 0 < kd.length) : (HH H ⟨ov, nw, it, kd⟩).dropDs H.nd = HH H ⟨ov, nw, it, kd.set 0 false⟩ := HH_dropDs 0 hi

/-! ## Said anew -/
def ObUp (N : Marks) (s : Nat → Nat) (o' o : Obj) : Prop := o.e = o'.e ∧ o.k = o'.k ∧ o.w = o'.w ∧ UpL N s o'.l o.l ∧ ∀ v ∈ o'.l, V.isCell v = true

def NwUp (N : Marks) (s : Nat → Nat) (x : List (Option Obj)) : List Nat → List (Option Obj) → Prop
  | [], [] => True
  | _ :: ks, none :: r => NwUp N s x ks r
  | k :: ks, some o' :: r => (∃ o, x[k]? = some (some o) ∧ ObUp N s o' o) ∧ NwUp N s x ks r
  | _, _ => False

def OvUp (N : Marks) (s : Nat → Nat) (H : Heap) (x : List (Nat × Option Obj)) : List (Nat × Option Obj) → Prop
  | [] => True
  | (_, none) :: r => OvUp N s H x r
  | (b, some o') :: r => (∃ o, (lkp x b).getD (H.cs b) = some o ∧ ObUp N s o' o) ∧ OvUp N s H x r

def keysIn (x y : List (Nat × Option Obj)) : Prop := ∀ b, lkp y b = none → lkp x b = none

def ItUp : List (Option (List UInt8 × Nat)) → List (Option (List UInt8 × Nat)) → Prop
  | _, [] => True
  | a :: x, b :: y => (b = none ∨ b = a) ∧ ItUp x y
  | [], _ :: _ => False

def KdUp : List Bool → List Bool → Prop
  | _, [] => True
  | a :: x, b :: y => (b = false ∨ a = true) ∧ KdUp x y
  | [], b :: y => b = false ∧ KdUp [] y

/-- The renumbering: old blocks keep their numbers; the new ones are the listed ones. -/
def rn (nc : Nat) (ks : List Nat) (b : Nat) : Nat := if b < nc then b else nc + (ks[b - nc]?).getD (b - nc)

theorem rn_old {nc b : Nat} {ks : List Nat} (h : b < nc) : rn nc ks b = b := by simp [rn, h]
theorem rn_new {nc : Nat} {ks : List Nat} (i : Nat) : rn nc ks (nc + i) = nc + (ks[i]?).getD i := by
  have h : ¬ (nc + i < nc) := by omega
  simp only [rn, h, if_false]
  have : nc + i - nc = i := by omega
  rw [this]
theorem rn_new0 {nc : Nat} {ks : List Nat} : rn nc ks nc = nc + (ks[0]?).getD 0 := rn_new 0

theorem NwUp.len {N : Marks} {s : Nat → Nat} {x : List (Option Obj)} : ∀ {ks : List Nat} {y : List (Option Obj)}, NwUp N s x ks y → ks.length = y.length
  | [], [], _ => rfl
  | _ :: ks, none :: r, h => by simp [NwUp.len (ks := ks) (y := r) h]
  | k :: ks, some o' :: r, h => by simp [NwUp.len (ks := ks) (y := r) h.2]

theorem NwUp.get {N : Marks} {s : Nat → Nat} {x : List (Option Obj)} : ∀ {ks : List Nat} {y : List (Option Obj)}, NwUp N s x ks y → ∀ (i : Nat) o', y[i]? = some (some o') → ∃ k o, ks[i]? = some k ∧ x[k]? = some (some o) ∧ ObUp N s o' o
  | [], [], _, i, o', h => by simp at h
  | k :: ks, none :: r, hu, i, o', h => by
    cases i with
    | zero => simp at h
    | succ i => simpa using NwUp.get (ks := ks) (y := r) hu i o' (by simpa using h)
  | k :: ks, some o :: r, hu, i, o', h => by
    cases i with
    | zero =>
      simp at h; subst h
      obtain ⟨⟨ob, h1, h2⟩, _⟩ := hu
      exact ⟨k, ob, rfl, h1, h2⟩
    | succ i => simpa using NwUp.get (ks := ks) (y := r) hu.2 i o' (by simpa using h)

theorem OvUp.get {N : Marks} {s : Nat → Nat} {x : List (Nat × Option Obj)} : ∀ {y : List (Nat × Option Obj)}, OvUp N s H x y → ∀ (b : Nat) o', lkp y b = some (some o') → ∃ o, (lkp x b).getD (H.cs b) = some o ∧ ObUp N s o' o
  | [], _, b, o', h => by simp [lkp] at h
  | (a, none) :: r, hu, b, o', h => by
    simp only [lkp] at h
    split at h
    · cases h
    · exact OvUp.get (y := r) hu b o' h
  | (a, some o) :: r, hu, b, o', h => by
    simp only [lkp] at h
    split at h
    · rename_i hb
      cases h
      rw [hb]
      exact hu.1
    · exact OvUp.get (y := r) hu.2 b o' h

theorem ItUp.get : ∀ {x y : List (Option (List UInt8 × Nat))}, ItUp x y → ∀ (i : Nat) v, y[i]? = some (some v) → x[i]? = some (some v)
  | _, [], _, i, v, h => by simp at h
  | a :: x, b :: y, hu, i, v, h => by
    cases i with
    | zero =>
      simp at h; subst h
      rcases hu.1 with h1 | h1
      · cases h1
      · simp [← h1]
    | succ i => simpa using ItUp.get hu.2 i v (by simpa using h)

theorem KdUp.get : ∀ {x y : List Bool}, KdUp x y → ∀ (i : Nat), y[i]? = some true → x[i]? = some true
  | _, [], _, i, h => by simp at h
  | a :: x, b :: y, hu, i, h => by
    cases i with
    | zero =>
      simp at h; subst h
      rcases hu.1 with h1 | h1
      · cases h1
      · simp [h1]
    | succ i => simpa using KdUp.get hu.2 i (by simpa using h)
  | [], b :: y, hu, i, h => by
    cases i with
    | zero =>
      simp at h; subst h
      exact absurd hu.1 (by simp)
    | succ i => have := KdUp.get hu.2 i (by simpa using h); simp at this

theorem canonHH (hk : H.OK P) {x y : XH} (ks : List Nat) (hnd : ks.Nodup) (hlt : ∀ k ∈ ks, k < x.nw.length)
    (hnw : NwUp (HH H y).marks (rn H.nc ks) x.nw ks y.nw) (hov : OvUp (HH H y).marks (rn H.nc ks) H x.ov y.ov) (hkey : keysIn x.ov y.ov) (hit : ItUp x.it y.it) (hkd : KdUp x.kd y.kd) :
    Canon P H.marks (rn H.nc ks) (HH H x) (HH H y) where
  glob := hk.glob
  sid := fun b hb => rn_old hb
  inj := fun b b' h1 h2 h => by
    have hl := hnw.len
    have h1' : b < H.nc + y.nw.length := h1
    have h2' : b' < H.nc + y.nw.length := h2
    simp only [rn] at h
    by_cases hb : b < H.nc <;> by_cases hb' : b' < H.nc
    · rw [if_pos hb, if_pos hb'] at h; exact h
    · rw [if_pos hb, if_neg hb'] at h; omega
    · rw [if_neg hb, if_pos hb'] at h; omega
    · rw [if_neg hb, if_neg hb'] at h
      have e1 : b - H.nc < ks.length := by omega
      have e2 : b' - H.nc < ks.length := by omega
      rw [List.getElem?_eq_getElem e1, List.getElem?_eq_getElem e2] at h
      simp only [Option.getD_some] at h
      have hp := List.pairwise_iff_getElem.1 hnd
      rcases Nat.lt_trichotomy (b - H.nc) (b' - H.nc) with hlt2 | heq | hlt2
      · exact absurd (by omega) (hp _ _ e1 e2 hlt2)
      · omega
      · exact absurd (by omega) (hp _ _ e2 e1 hlt2)
  le := ⟨Nat.le_add_right _ _, Nat.le_add_right _ _, Nat.le_refl _, Nat.le_add_right _ _⟩
  cs := fun b ob' hb => by
    have hle : H.marks.le (HH H y).marks := ⟨Nat.le_add_right _ _, Nat.le_add_right _ _, Nat.le_refl _, Nat.le_add_right _ _⟩
    by_cases hlt' : b < H.nc
    · refine ⟨Nat.lt_of_lt_of_le hlt' (Nat.le_add_right _ _), ?_⟩
      rw [rn_old hlt']
      have hx : (HH H x).cs b = (lkp x.ov b).getD (H.cs b) := HH_cs_old hlt'
      have hy : (HH H y).cs b = (lkp y.ov b).getD (H.cs b) := HH_cs_old hlt'
      rw [hy] at hb
      rw [hx]
      cases hl : lkp y.ov b with
      | none =>
        rw [hl] at hb
        rw [hkey b hl]
        obtain ⟨h1, h2, h3⟩ := hk.cs b ob' hb
        exact ⟨ob', hb, rfl, rfl, rfl, h2.up hle (fun c hc => rn_old hc), h3⟩
      | some q =>
        rw [hl] at hb
        simp only [Option.getD_some] at hb
        subst hb
        exact hov.get b ob' hl
    · have hcs : (HH H y).cs b = (y.nw[b - H.nc]?).join := by simp only [HH, hlt', if_false]
      rw [hcs] at hb
      have hb2 : y.nw[b - H.nc]? = some (some ob') := by
        cases hq : y.nw[b - H.nc]? with
        | none => rw [hq] at hb; cases hb
        | some q => rw [hq] at hb; simp at hb; rw [hb]
      have hlen : b - H.nc < y.nw.length := (List.getElem?_eq_some_iff.1 hb2).1
      refine ⟨show b < H.nc + y.nw.length by omega, ?_⟩
      obtain ⟨k, o, hk1, hk2, hu⟩ := hnw.get _ _ hb2
      refine ⟨o, ?_, hu⟩
      simp only [rn, hlt', if_false, hk1, Option.getD_some]
      have : ¬ (H.nc + k < H.nc) := by omega
      simp only [HH, this, if_false]
      have e : H.nc + k - H.nc = k := by omega
      rw [e, hk2]; rfl
  its := fun i v hi => by
    by_cases hl : i < H.ni
    · have hy : (HH H y).its i = H.its i := by simp only [HH, hl, if_true]
      have hx : (HH H x).its i = H.its i := by simp only [HH, hl, if_true]
      rw [hy] at hi; rw [hx]
      exact ⟨Nat.lt_of_lt_of_le hl (Nat.le_add_right _ _), hi⟩
    · have hy : (HH H y).its i = (y.it[i - H.ni]?).join := by simp only [HH, hl, if_false]
      have hx : (HH H x).its i = (x.it[i - H.ni]?).join := by simp only [HH, hl, if_false]
      rw [hy] at hi; rw [hx]
      have hi2 : y.it[i - H.ni]? = some (some v) := by
        cases hq : y.it[i - H.ni]? with
        | none => rw [hq] at hi; cases hi
        | some q => rw [hq] at hi; simp at hi; rw [hi]
      have hlen := (List.getElem?_eq_some_iff.1 hi2).1
      exact ⟨show i < H.ni + y.it.length by omega, by rw [hit.get _ _ hi2]; rfl⟩
  lps := fun l r' hl => by
    have hr : H.lps l = some r' := hl
    obtain ⟨h1, h2, h3⟩ := hk.lps l r' hr
    exact ⟨h1, Nat.lt_of_lt_of_le h3 (Nat.le_add_right _ _), r', hr, rfl, rfl, rfl, rfl, rfl, rfl, rfl, fun j => (h2 j).up ⟨Nat.le_add_right _ _, Nat.le_add_right _ _, Nat.le_refl _, Nat.le_add_right _ _⟩ (fun c hc => rn_old hc)⟩
  ds := fun j hj => by
    by_cases hl : j < H.nd
    · have hy : (HH H y).ds j = H.ds j := by simp only [HH, hl, if_true]
      have hx : (HH H x).ds j = H.ds j := by simp only [HH, hl, if_true]
      rw [hy] at hj; rw [hx]
      exact ⟨Nat.lt_of_lt_of_le hl (Nat.le_add_right _ _), hj⟩
    · have hy : (HH H y).ds j = (y.kd[j - H.nd]?).getD false := by simp only [HH, hl, if_false]
      have hx : (HH H x).ds j = (x.kd[j - H.nd]?).getD false := by simp only [HH, hl, if_false]
      rw [hy] at hj; rw [hx]
      have hj2 : y.kd[j - H.nd]? = some true := by
        cases hq : y.kd[j - H.nd]? with
        | none => rw [hq] at hj; cases hj
        | some q => rw [hq] at hj; simp at hj; rw [hj]
      have hlen := (List.getElem?_eq_some_iff.1 hj2).1
      exact ⟨show j < H.nd + y.kd.length by omega, by rw [hkd.get _ hj2]; rfl⟩

/-! ## Frames said anew -/
def EtUp (N : Marks) (s : Nat → Nat) (t : Nat → V) : List (Nat × V) → Prop
  | [] => True
  | (k, v) :: r => Up N s v (t k) ∧ EtUp N s t r

theorem EtUp.all {N : Marks} {s : Nat → Nat} {t : Nat → V} : ∀ {l : List (Nat × V)}, EtUp N s t l → ∀ j, Up N s (ET l j) (t j)
  | [], _, j => .undef _
  | (k, v) :: r, h, j => by
    simp only [ET]
    split
    · rename_i hj; rw [hj]; exact h.1
    · exact EtUp.all h.2 j

theorem canonE_HH (hk : H.OK P) {x y : XH} {l' : List (Nat × V)} {ds' : List Dfr} {e : Env} {m : Marks} (hm : m = H.marks) (ks : List Nat) (hnd : ks.Nodup) (hlt : ∀ k ∈ ks, k < x.nw.length)
    (hnw : NwUp (HH H y).marks (rn H.nc ks) x.nw ks y.nw) (hov : OvUp (HH H y).marks (rn H.nc ks) H x.ov y.ov) (hkey : keysIn x.ov y.ov) (hit : ItUp x.it y.it) (hkd : KdUp x.kd y.kd)
    (ht : EtUp (HH H y).marks (rn H.nc ks) e.t l') (hd : DUp (HH H y).marks (rn H.nc ks) ds' e.ds) :
    CanonE P m e (HH H x) ⟨ET l', ds'⟩ (HH H y) := by
  subst hm
  exact ⟨rn H.nc ks, canonHH hk ks hnd hlt hnw hov hkey hit hkd, ht.all, hd⟩

theorem canonV_HH (hk : H.OK P) {x y : XH} {v v' : V} (ks : List Nat) (hnd : ks.Nodup) (hlt : ∀ k ∈ ks, k < x.nw.length)
    (hnw : NwUp (HH H y).marks (rn H.nc ks) x.nw ks y.nw) (hov : OvUp (HH H y).marks (rn H.nc ks) H x.ov y.ov) (hkey : keysIn x.ov y.ov) (hit : ItUp x.it y.it) (hkd : KdUp x.kd y.kd)
    (hv : Up (HH H y).marks (rn H.nc ks) v' v) : CanonV P H.marks v (HH H x) v' (HH H y) :=
  ⟨rn H.nc ks, canonHH hk ks hnd hlt hnw hov hkey hit hkd, hv⟩

/-- Nothing new, nothing changed. -/
theorem canonV_same (hk : H.OK P) {x : XH} {v v' : V} (hov : x.ov = []) (hv : Up H.marks (rn H.nc []) v' v) : CanonV P H.marks v (HH H x) v' H := by
  have h := canonV_HH (H := H) (x := x) (y := ⟨[], [], [], []⟩) (v := v) (v' := v') hk [] List.nodup_nil (fun k hk => by cases hk) trivial trivial (fun b _ => by rw [hov]; rfl) (by cases x.it <;> trivial) (by cases x.kd <;> trivial) (by rw [HH_nil hk]; exact hv)
  rw [HH_nil hk] at h
  exact h

end

/-! ## The relation on explicit values -/
section
variable {N : Marks} {s : Nat → Nat}
theorem up_undef {v : V} : Up N s .undef v ↔ True := ⟨fun _ => trivial, fun _ => .undef v⟩
theorem up_bool {b : Bool} {v : V} : Up N s (.bool b) v ↔ v = .bool b := ⟨fun h => by cases h; rfl, fun h => by rw [h]; exact .bool b⟩
theorem up_int {k : IntKind} {n : Int} {v : V} : Up N s (.int k n) v ↔ v = .int k n := ⟨fun h => by cases h; rfl, fun h => by rw [h]; exact .int k n⟩
theorem up_str {l : List UInt8} {v : V} : Up N s (.str l) v ↔ v = .str l := ⟨fun h => by cases h; rfl, fun h => by rw [h]; exact .str l⟩
theorem up_nilptr {v : V} : Up N s .nilptr v ↔ v = .nilptr := ⟨fun h => by cases h; rfl, fun h => by rw [h]; exact .nilptr⟩
theorem up_nilslice {v : V} : Up N s .nilslice v ↔ v = .nilslice := ⟨fun h => by cases h; rfl, fun h => by rw [h]; exact .nilslice⟩
theorem up_nilfn {v : V} : Up N s .nilfn v ↔ v = .nilfn := ⟨fun h => by cases h; rfl, fun h => by rw [h]; exact .nilfn⟩
theorem up_nilif {v : V} : Up N s .nilif v ↔ v = .nilif := ⟨fun h => by cases h; rfl, fun h => by rw [h]; exact .nilif⟩
theorem up_ptr {b o : Nat} {v : V} : Up N s (.ptr b o) v ↔ b < N.c ∧ v = .ptr (s b) o := ⟨fun h => by cases h; exact ⟨by assumption, rfl⟩, fun h => by rw [h.2]; exact .ptr b o h.1⟩
theorem up_slice {b o n c : Nat} {ex : Bool} {v : V} : Up N s (.slice b o n c ex) v ↔ b < N.c ∧ v = .slice (s b) o n c ex := ⟨fun h => by cases h; exact ⟨by assumption, rfl⟩, fun h => by rw [h.2]; exact .slice b o n c ex h.1⟩
theorem up_it {i : Nat} {v : V} : Up N s (.it i) v ↔ i < N.i ∧ v = .it i := ⟨fun h => by cases h; exact ⟨by assumption, rfl⟩, fun h => by rw [h.2]; exact .it i h.1⟩
theorem up_agg {l m : List V} : Up N s (.agg l) (.agg m) ↔ UpL N s l m := ⟨fun h => by cases h; exact ⟨by assumption, by assumption⟩, fun h => .agg l m h.len h.at_⟩
theorem up_tuple {l m : List V} : Up N s (.tuple l) (.tuple m) ↔ UpL N s l m := ⟨fun h => by cases h; exact ⟨by assumption, by assumption⟩, fun h => .tuple l m h.len h.at_⟩
theorem up_fn {g : FuncId} {a b c d : List V} : Up N s (.fn (.func g) a b) (.fn (.func g) c d) ↔ UpL N s a c ∧ UpL N s b d :=
  ⟨fun h => by cases h; exact ⟨⟨by assumption, by assumption⟩, ⟨by assumption, by assumption⟩⟩, fun h => .fn g a b c d h.1.len h.1.at_ h.2.len h.2.at_⟩
theorem upL_nil {m : List V} : UpL N s [] m ↔ m = [] := ⟨fun h => by have := h.len; cases m <;> simp at this ⊢, fun h => by rw [h]; exact UpL.nil N s⟩
theorem upL_cons {a b : V} {l m : List V} : UpL N s (a :: l) (b :: m) ↔ Up N s a b ∧ UpL N s l m :=
  ⟨fun h => ⟨h.at_ 0 a b rfl rfl, by have := h.len; simpa using this, fun i x y hx hy => h.at_ (i + 1) x y (by simpa using hx) (by simpa using hy)⟩, fun h => UpL.cons h.1 h.2⟩

theorem Up.flat {v : V} : v.flat = true → Up N s v v := by
  have key : ∀ (n : Nat) (v : V), SizeOf.sizeOf v < n → v.flat = true → Up N s v v := by
    intro n
    induction n with
    | zero => intro v h; omega
    | succ n ih =>
      intro v hn hf
      have lst : ∀ l : List V, SizeOf.sizeOf l < n + 1 → V.flatL l = true → ∀ (i : Nat) x y, l[i]? = some x → l[i]? = some y → Up N s x y := by
        intro l hl hfl i x y hx hy
        rw [hx] at hy; cases hy
        have := List.sizeOf_lt_of_mem (List.mem_of_getElem? hx)
        exact ih x (by omega) (flatL_at hfl hx)
      cases v with
      | undef => exact .undef _
      | junk => exact .junk _ rfl
      | bool b => exact .bool b
      | int k n => exact .int k n
      | str l => exact .str l
      | ptr b o => simp [V.flat] at hf
      | nilptr => exact .nilptr
      | slice => simp [V.flat] at hf
      | nilslice => exact .nilslice
      | fn g a b =>
        cases g with
        | func g =>
          simp only [V.flat, Bool.and_eq_true] at hf
          simp only [V.fn.sizeOf_spec] at hn
          exact .fn g a b a b rfl (lst a (by omega) hf.1) rfl (lst b (by omega) hf.2)
        | _ => simp [V.flat] at hf
      | nilfn => exact .nilfn
      | iface t v => simp only [V.flat] at hf; simp only [V.iface.sizeOf_spec] at hn; exact .iface t v v (ih v (by omega) hf)
      | nilif => exact .nilif
      | agg l => simp only [V.flat] at hf; simp only [V.agg.sizeOf_spec] at hn; exact .agg l l rfl (lst l (by omega) hf)
      | tuple l => simp only [V.flat] at hf; simp only [V.tuple.sizeOf_spec] at hn; exact .tuple l l rfl (lst l (by omega) hf)
      | it i => simp [V.flat] at hf
  exact key _ v (Nat.lt_succ_self _)

theorem UpL.flat {l : List V} (h : V.flatL l = true) : UpL N s l l := ⟨rfl, fun i x y hx hy => by rw [hx] at hy; cases hy; exact Up.flat (flatL_at h hx)⟩
end
end Go.Cm
