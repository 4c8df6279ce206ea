/- Canonical heaps: what is no longer reached is forgotten, the rest is numbered anew. -/
import Derived.Test.YtgalmibnlkbdiaaGreatDoorCmLocal
set_option linter.unusedVariables false
set_option linter.unusedSimpArgs false
namespace Go.Cm
open Go Go.RowKit

/-- The first value says of what the second says no more, its blocks by new numbers. -/
inductive Up (N : Marks) (s : Nat → Nat) : V → V → Prop
  | undef (v : V) : Up N s .undef v
  | junk (v : V) (h : v.isCell = true) : Up N s .junk v
  | bool (b : Bool) : Up N s (.bool b) (.bool b)
  | int (k : IntKind) (n : Int) : Up N s (.int k n) (.int k n)
  | str (l : List UInt8) : Up N s (.str l) (.str l)
  | ptr (b o : Nat) (h : b < N.c) : Up N s (.ptr b o) (.ptr (s b) o)
  | nilptr : Up N s .nilptr .nilptr
  | slice (b o n c : Nat) (ex : Bool) (h : b < N.c) : Up N s (.slice b o n c ex) (.slice (s b) o n c ex)
  | nilslice : Up N s .nilslice .nilslice
  | fn (g : FuncId) (fi ca fi' ca' : List V) (h1 : fi.length = fi'.length) (h2 : ∀ (i : Nat) x y, fi[i]? = some x → fi'[i]? = some y → Up N s x y)
      (h3 : ca.length = ca'.length) (h4 : ∀ (i : Nat) x y, ca[i]? = some x → ca'[i]? = some y → Up N s x y) : Up N s (.fn (.func g) fi ca) (.fn (.func g) fi' ca')
  | yield (l : Nat) (h : l < N.l) : Up N s (.fn (.yield l) [] []) (.fn (.yield l) [] [])
  | nilfn : Up N s .nilfn .nilfn
  | iface (t : TypeId) (v w : V) (h : Up N s v w) : Up N s (.iface t v) (.iface t w)
  | nilif : Up N s .nilif .nilif
  | agg (cs cs' : List V) (h1 : cs.length = cs'.length) (h2 : ∀ (i : Nat) x y, cs[i]? = some x → cs'[i]? = some y → Up N s x y) : Up N s (.agg cs) (.agg cs')
  | tuple (cs cs' : List V) (h1 : cs.length = cs'.length) (h2 : ∀ (i : Nat) x y, cs[i]? = some x → cs'[i]? = some y → Up N s x y) : Up N s (.tuple cs) (.tuple cs')
  | it (i : Nat) (h : i < N.i) : Up N s (.it i) (.it i)

structure UpL (N : Marks) (s : Nat → Nat) (l l' : List V) : Prop where
  len : l.length = l'.length
  at_ : ∀ (i : Nat) x y, l[i]? = some x → l'[i]? = some y → Up N s x y

theorem UpL.nil (N : Marks) (s : Nat → Nat) : UpL N s [] [] := ⟨rfl, fun i x y h => by simp at h⟩
theorem UpL.cons {N : Marks} {s : Nat → Nat} {x y : V} {l l' : List V} (h : Up N s x y) (t : UpL N s l l') : UpL N s (x :: l) (y :: l') :=
  ⟨by simp [t.len], fun i a b ha hb => by
    cases i with
    | zero => simp at ha hb; subst ha; subst hb; exact h
    | succ i => simp at ha hb; exact t.at_ i a b ha hb⟩
theorem UpL.append {N : Marks} {s : Nat → Nat} {l l' m m' : List V} (h : UpL N s l l') (h2 : UpL N s m m') : UpL N s (l ++ m) (l' ++ m') := by
  refine ⟨by simp [h.len, h2.len], fun i x y hx hy => ?_⟩
  rw [List.getElem?_append] at hx hy
  rw [h.len] at hx
  split at hx
  · rename_i hi; rw [if_pos hi] at hy; exact h.at_ i x y hx hy
  · rename_i hi; rw [if_neg hi] at hy; exact h2.at_ _ x y hx hy
theorem UpL.take {N : Marks} {s : Nat → Nat} {l m : List V} (h : UpL N s l m) (n : Nat) : UpL N s (l.take n) (m.take n) := by
  refine ⟨by simp [h.len], fun i x y hx hy => ?_⟩
  rw [List.getElem?_take] at hx hy
  split at hx
  · rename_i hi; rw [if_pos hi] at hy; exact h.at_ i x y hx hy
  · cases hx
theorem UpL.drop {N : Marks} {s : Nat → Nat} {l m : List V} (h : UpL N s l m) (n : Nat) : UpL N s (l.drop n) (m.drop n) := by
  refine ⟨by simp [h.len], fun i x y hx hy => ?_⟩
  rw [List.getElem?_drop] at hx hy
  exact h.at_ _ x y hx hy

def Inj.ren (f : Inj) (N : Marks) (s : Nat → Nat) : Inj :=
  ⟨fun b => if b < N.c then f.c (s b) else none, fun i => if i < N.i then f.i i else none, fun l => if l < N.l then f.l l else none, fun d => if d < N.d then f.d d else none⟩

theorem VRel.up {f : Inj} {N : Marks} {s : Nat → Nat} {v' v : V} {w : Value} (hu : Up N s v' v) (h : VRel f v w) : VRel (f.ren N s) v' w := by
  induction hu generalizing w with
  | undef v => exact .undef _
  | junk v hc => exact .junk _ (h.cell hc)
  | bool b => rw [h.bool_inv]; exact .bool b
  | int k n => rw [h.int_inv]; exact .int k n
  | str l => rw [h.str_inv]; exact .str l
  | ptr b o hb => obtain ⟨ci, hc, rfl⟩ := h.ptr_inv; exact .ptr b o ci (by simp [Inj.ren, hb, hc])
  | nilptr => rw [h.nilptr_inv]; exact .nilptr
  | slice b o n c ex hb =>
    obtain ⟨ci, a, c', hc, rfl, h1, h2, h3, h4, h5⟩ := h.slice_inv
    exact .slice b o n c ex ci a c' (by simp [Inj.ren, hb, hc]) h1 h2 h3 h4 h5
  | nilslice => rw [h.nilslice_inv]; exact .nilslice
  | fn g fi ca fi' ca' h1 h2 h3 h4 i1 i2 =>
    obtain ⟨fw, cw, rfl, r1, r2⟩ := h.fn_inv
    refine .fn g fi ca fw cw (h1.trans r1.len) (fun i x y hx hy => ?_) (h3.trans r2.len) (fun i x y hx hy => ?_)
    · have hi : i < fi'.length := by rw [← h1]; exact (List.getElem?_eq_some_iff.1 hx).1
      exact i1 i x _ hx (List.getElem?_eq_getElem hi) (r1.at_ i _ y (List.getElem?_eq_getElem hi) hy)
    · have hi : i < ca'.length := by rw [← h3]; exact (List.getElem?_eq_some_iff.1 hx).1
      exact i2 i x _ hx (List.getElem?_eq_getElem hi) (r2.at_ i _ y (List.getElem?_eq_getElem hi) hy)
  | yield l hl => obtain ⟨l', hl', _, _, rfl⟩ := h.yield_inv; exact .yield l l' (by simp [Inj.ren, hl, hl'])
  | nilfn => rw [h.nilfn_inv]; exact .nilfn
  | iface t v w' hv ih => obtain ⟨u, rfl, hu⟩ := h.iface_inv; exact .iface t v u (ih hu)
  | nilif => rw [h.nilif_inv]; exact .nilif
  | agg cs cs' h1 h2 ih =>
    obtain ⟨m, rfl, hr⟩ := h.agg_inv
    refine .agg cs m (h1.trans hr.len) fun i x y hx hy => ?_
    have hi : i < cs'.length := by rw [← h1]; exact (List.getElem?_eq_some_iff.1 hx).1
    exact ih i x _ hx (List.getElem?_eq_getElem hi) (hr.at_ i _ y (List.getElem?_eq_getElem hi) hy)
  | tuple cs cs' h1 h2 ih =>
    obtain ⟨m, rfl, hr⟩ := h.tuple_inv
    refine .tuple cs m (h1.trans hr.len) fun i x y hx hy => ?_
    have hi : i < cs'.length := by rw [← h1]; exact (List.getElem?_eq_some_iff.1 hx).1
    exact ih i x _ hx (List.getElem?_eq_getElem hi) (hr.at_ i _ y (List.getElem?_eq_getElem hi) hy)
  | it i hi => obtain ⟨g, hg, rfl⟩ := h.it_inv; exact .it i g (by simp [Inj.ren, hi, hg])

theorem LRel.up {f : Inj} {N : Marks} {s : Nat → Nat} {l' l : List V} {m : List Value} (hu : UpL N s l' l) (h : LRel f l m) : LRel (f.ren N s) l' m := by
  refine ⟨hu.len.trans h.len, fun i x y hx hy => ?_⟩
  have hi : i < l.length := by rw [← hu.len]; exact (List.getElem?_eq_some_iff.1 hx).1
  exact VRel.up (hu.at_ i x _ hx (List.getElem?_eq_getElem hi)) (h.at_ i _ y (List.getElem?_eq_getElem hi) hy)

/-- All that a value names lies below the marks. -/
def V.In (m : Marks) (v : V) : Prop := Up m (fun b => b) v v
def InL (m : Marks) (l : List V) : Prop := UpL m (fun b => b) l l

structure Marks.le (m N : Marks) : Prop where
  c : m.c ≤ N.c
  i : m.i ≤ N.i
  l : m.l ≤ N.l
  d : m.d ≤ N.d

theorem Marks.le.refl (m : Marks) : m.le m := ⟨Nat.le_refl _, Nat.le_refl _, Nat.le_refl _, Nat.le_refl _⟩
theorem Marks.le.trans {a b c : Marks} (h : a.le b) (k : b.le c) : a.le c := ⟨Nat.le_trans h.c k.c, Nat.le_trans h.i k.i, Nat.le_trans h.l k.l, Nat.le_trans h.d k.d⟩

theorem Up.wide {m N : Marks} {t s : Nat → Nat} {v v' : V} (h : Up m t v v') (hm : m.le N) (hs : ∀ b, b < m.c → s b = t b) : Up N s v v' := by
  induction h with
  | undef v => exact .undef v
  | junk v h => exact .junk v h
  | bool b => exact .bool b
  | int k n => exact .int k n
  | str l => exact .str l
  | ptr b o h => rw [← hs b h]; exact .ptr b o (Nat.lt_of_lt_of_le h hm.c)
  | nilptr => exact .nilptr
  | slice b o n c ex h => rw [← hs b h]; exact .slice b o n c ex (Nat.lt_of_lt_of_le h hm.c)
  | nilslice => exact .nilslice
  | fn g fi ca fi' ca' h1 _ h3 _ i1 i2 => exact .fn g fi ca fi' ca' h1 i1 h3 i2
  | yield l h => exact .yield l (Nat.lt_of_lt_of_le h hm.l)
  | nilfn => exact .nilfn
  | iface t v w _ ih => exact .iface t v w ih
  | nilif => exact .nilif
  | agg cs cs' h1 _ ih => exact .agg cs cs' h1 ih
  | tuple cs cs' h1 _ ih => exact .tuple cs cs' h1 ih
  | it i h => exact .it i (Nat.lt_of_lt_of_le h hm.i)

theorem UpL.wide {m N : Marks} {t s : Nat → Nat} {v v' : List V} (h : UpL m t v v') (hm : m.le N) (hs : ∀ b, b < m.c → s b = t b) : UpL N s v v' :=
  ⟨h.len, fun i x y hx hy => (h.at_ i x y hx hy).wide hm hs⟩

theorem V.In.up {m N : Marks} {s : Nat → Nat} {v : V} (h : v.In m) (hm : m.le N) (hs : ∀ b, b < m.c → s b = b) : Up N s v v := Up.wide h hm hs
theorem InL.up {m N : Marks} {s : Nat → Nat} {l : List V} (h : InL m l) (hm : m.le N) (hs : ∀ b, b < m.c → s b = b) : UpL N s l l := UpL.wide h hm hs

/-- A value that is known is below the marks. -/
theorem VRel.inM {f : Inj} {m : Marks} (hc : ∀ b, m.c ≤ b → f.c b = none) (hi : ∀ b, m.i ≤ b → f.i b = none) (hl : ∀ b, m.l ≤ b → f.l b = none) {v : V} {w : Value} (h : VRel f v w) : v.In m := by
  have lt : ∀ {g : Nat → Option CI} {k b : Nat} {x : CI}, (∀ b, k ≤ b → g b = none) → g b = some x → b < k := fun hg hx => Nat.lt_of_not_le fun hb => by rw [hg _ hb] at hx; cases hx
  have lt2 : ∀ {g : Nat → Option Nat} {k b x : Nat}, (∀ b, k ≤ b → g b = none) → g b = some x → b < k := fun hg hx => Nat.lt_of_not_le fun hb => by rw [hg _ hb] at hx; cases hx
  unfold V.In
  have self : ∀ {l : List V} {l' : List Value}, l.length = l'.length → (∀ (i : Nat) x y, l[i]? = some x → l'[i]? = some y → Up m (fun b => b) x x) → ∀ (i : Nat) x y, l[i]? = some x → l[i]? = some y → Up m (fun b => b) x y := by
    intro l l' h1 ih i x y hx hy
    have hlt : i < l'.length := by rw [← h1]; exact (List.getElem?_eq_some_iff.1 hx).1
    rw [hx] at hy; cases hy
    exact ih i x _ hx (List.getElem?_eq_getElem hlt)
  induction h with
  | undef v => exact .undef _
  | junk v h => exact .junk _ rfl
  | bool b => exact .bool b
  | int k n => exact .int k n
  | str s => exact .str s
  | ptr b o ci h => exact .ptr b o (lt hc h)
  | nilptr => exact .nilptr
  | slice b o n c ex ci a c' h => exact .slice b o n c ex (lt hc h)
  | nilslice => exact .nilslice
  | fn g fi ca fi' ca' h1 _ h3 _ i1 i2 => exact .fn g fi ca fi ca rfl (self h1 i1) rfl (self h3 i2)
  | yield l l' h => exact .yield l (lt2 hl h)
  | nilfn => exact .nilfn
  | iface t v w _ ih => exact .iface t v v ih
  | nilif => exact .nilif
  | agg cs cs' h1 _ ih => exact .agg cs cs rfl (self h1 ih)
  | tuple cs cs' h1 _ ih => exact .tuple cs cs rfl (self h1 ih)
  | it i g h => exact .it i (lt2 hi h)

/-- What is always so of a heap. -/
structure Heap.OK (P : Program) (H : Heap) : Prop where
  glob : P.globals.size ≤ H.nc
  cs : ∀ b ob, H.cs b = some ob → b < H.nc ∧ InL H.marks ob.l ∧ ∀ x ∈ ob.l, V.isCell x = true
  its : ∀ i x, H.its i = some x → i < H.ni
  lps : ∀ l r, H.lps l = some r → l < H.nl ∧ (∀ j, (r.t j).In H.marks) ∧ r.dfr < H.nd
  ds : ∀ j, H.ds j = true → j < H.nd

section
variable {P : Program}

theorem StRel.inM {B : Nat} {w0 : World} {f : Inj} {H : Heap} {w : World} (h : StRel P B w0 f H w) {v : V} {x : Value} (hv : VRel f v x) : v.In H.marks :=
  hv.inM (fun b hb => (h.freshC b hb).2) (fun b hb => (h.freshI b hb).2) (fun b hb => (h.freshL b hb).2)

theorem StRel.inLs {B : Nat} {w0 : World} {f : Inj} {H : Heap} {w : World} (h : StRel P B w0 f H w) {l : List V} {m : List Value} (hv : LRel f l m) : InL H.marks l := by
  refine ⟨rfl, fun i x y hx hy => ?_⟩
  rw [hx] at hy; cases hy
  have hi : i < m.length := by rw [← hv.len]; exact (List.getElem?_eq_some_iff.1 hx).1
  exact h.inM (hv.at_ i x _ hx (List.getElem?_eq_getElem hi))

theorem StRel.ok {B : Nat} {w0 : World} {f : Inj} {H : Heap} {w : World} (h : StRel P B w0 f H w) : H.OK P where
  glob := Nat.le_of_not_lt fun hlt => by
    obtain ⟨ci, hc, _⟩ := h.globs H.nc hlt
    rw [(h.freshC H.nc (Nat.le_refl _)).2] at hc; cases hc
  cs := fun b ob hb => by
    refine ⟨Nat.lt_of_not_le fun hle => (by rw [(h.freshC b hle).1] at hb; cases hb), ?_⟩
    obtain ⟨ci, arr, fr, e, hc, ho⟩ := h.cells b ob hb
    exact ⟨h.inLs ho.rel, ho.isc⟩
  its := fun i x hi => Nat.lt_of_not_le fun hle => by rw [(h.freshI i hle).1] at hi; cases hi
  lps := fun l r hl => by
    refine ⟨Nat.lt_of_not_le fun hle => (by rw [(h.freshL l hle).1] at hl; cases hl), ?_⟩
    obtain ⟨g, tm, gd, _, _, hd, _, ht, _⟩ := h.lps l r hl
    exact ⟨fun j => h.inM (ht j), Nat.lt_of_not_le fun hle => by rw [(h.freshD _ hle).2] at hd; cases hd⟩
  ds := fun j hj => Nat.lt_of_not_le fun hle => by rw [(h.freshD j hle).1] at hj; cases hj

/-- H' is H1, forgotten and numbered anew but for what lies below m. -/
structure Canon (P : Program) (m : Marks) (s : Nat → Nat) (H1 H' : Heap) : Prop where
  glob : P.globals.size ≤ m.c
  sid : ∀ b, b < m.c → s b = b
  inj : ∀ b b', b < H'.nc → b' < H'.nc → s b = s b' → b = b'
  le : m.le H'.marks
  cs : ∀ b ob', H'.cs b = some ob' → b < H'.nc ∧ ∃ ob, H1.cs (s b) = some ob ∧ ob.e = ob'.e ∧ ob.k = ob'.k ∧ ob.w = ob'.w ∧ UpL H'.marks s ob'.l ob.l ∧ ∀ x ∈ ob'.l, V.isCell x = true
  its : ∀ i x, H'.its i = some x → i < H'.ni ∧ H1.its i = some x
  lps : ∀ l r', H'.lps l = some r' → l < H'.nl ∧ r'.dfr < H'.nd ∧ ∃ r, H1.lps l = some r ∧ r.st = r'.st ∧ r.pend = r'.pend ∧ r.n = r'.n ∧ r.params = r'.params ∧ r.assign = r'.assign ∧ r.body = r'.body ∧ r.dfr = r'.dfr ∧ ∀ j, Up H'.marks s (r'.t j) (r.t j)
  ds : ∀ j, H'.ds j = true → j < H'.nd ∧ H1.ds j = true

theorem Canon.leM {m : Marks} {s : Nat → Nat} {H1 H' : Heap} (h : Canon P m s H1 H') (f : Inj) : f.leM m (f.ren H'.marks s) :=
  ⟨fun b x hb hx => by
    have : b < H'.marks.c := Nat.lt_of_lt_of_le hb h.le.c
    simp only [Inj.ren, this, if_true, h.sid b hb]; exact hx,
   fun b x hb hx => by
    have : b < H'.marks.i := Nat.lt_of_lt_of_le hb h.le.i
    simp only [Inj.ren, this, if_true]; exact hx,
   fun b x hb hx => by
    have : b < H'.marks.l := Nat.lt_of_lt_of_le hb h.le.l
    simp only [Inj.ren, this, if_true]; exact hx,
   fun b x hb hx => by
    have : b < H'.marks.d := Nat.lt_of_lt_of_le hb h.le.d
    simp only [Inj.ren, this, if_true]; exact hx⟩

theorem StRel.canon {B : Nat} {w0 : World} {f : Inj} {H1 H' : Heap} {w : World} (h : StRel P B w0 f H1 w) {m : Marks} {s : Nat → Nat} (hc : Canon P m s H1 H') : StRel P B w0 (f.ren H'.marks s) H' w where
  below := h.below
  base := h.base
  cells := fun b ob' hb => by
    obtain ⟨hlt, ob, hob, he, hk, hw, hu, hcell⟩ := hc.cs b ob' hb
    obtain ⟨ci, arr, fr, e, hci, ho⟩ := h.cells _ ob hob
    have hlt' : b < H'.marks.c := hlt
    refine ⟨ci, arr, fr, e, by simp only [Inj.ren, hlt', if_true]; exact hci, ho.heap, ho.lim, by rw [hu.len]; exact ho.fits, ?_, ?_, ?_, ?_, ?_, ?_, ?_⟩
    · rw [hu.len]; exact LRel.up hu ho.rel
    · intro hh; rw [← hk] at hh; rw [← he]; exact ho.ty hh
    · intro hh; rw [← hk] at hh; exact ho.own hh
    · intro hh; rw [← hk] at hh; exact ho.arg hh
    · exact hcell
    · intro hh; rw [← hk] at hh; exact ho.frle hh
    · intro hh; rw [← hw] at hh; rw [hu.len]; exact ho.whole hh
  sep := fun b b' ob ob' ci ci' h1 h2 h3 h4 hk hne => by
    obtain ⟨l1, o1, k1, e1, q1, _⟩ := hc.cs b ob h1
    obtain ⟨l2, o2, k2, e2, q2, _⟩ := hc.cs b' ob' h2
    have l1' : b < H'.marks.c := l1
    have l2' : b' < H'.marks.c := l2
    simp only [Inj.ren, l1', l2', if_true] at h3 h4
    exact h.sep _ _ o1 o2 ci ci' k1 k2 h3 h4 (by rw [q1]; exact hk) fun heq => hne (hc.inj b b' l1 l2 heq)
  freshC := fun b hb => by
    refine ⟨?_, ?_⟩
    · cases hh : H'.cs b with
      | none => rfl
      | some ob => exact absurd (hc.cs b ob hh).1 (Nat.not_lt_of_le hb)
    · have : ¬ b < H'.marks.c := Nat.not_lt_of_le hb
      simp only [Inj.ren, this, if_false]
  its := fun i t pos hi => by
    obtain ⟨hl, h1⟩ := hc.its i _ hi
    obtain ⟨g, hg, hB, hh⟩ := h.its i t pos h1
    have hl' : i < H'.marks.i := hl
    exact ⟨g, by simp only [Inj.ren, hl', if_true]; exact hg, hB, hh⟩
  itsep := fun i j g hi hj => by
    simp only [Inj.ren] at hi hj
    split at hi <;> split at hj <;> first | exact h.itsep i j g hi hj | cases hi | cases hj
  freshI := fun b hb => by
    refine ⟨?_, ?_⟩
    · cases hh : H'.its b with
      | none => rfl
      | some x => exact absurd (hc.its b x hh).1 (Nat.not_lt_of_le hb)
    · have : ¬ b < H'.marks.i := Nat.not_lt_of_le hb
      simp only [Inj.ren, this, if_false]
  lps := fun l r' hl => by
    obtain ⟨hlt, hd, r, hr, e1, e2, e3, e4, e5, e6, e7, hu⟩ := hc.lps l r' hl
    obtain ⟨g, tm, gd, hg, hB, hgd, hn, ht, fn, hh⟩ := h.lps l r hr
    have hlt' : l < H'.marks.l := hlt
    have hd' : r'.dfr < H'.marks.d := hd
    refine ⟨g, tm, gd, by simp only [Inj.ren, hlt', if_true]; exact hg, hB, by simp only [Inj.ren, hd', if_true]; rw [← e7]; exact hgd, by rw [← e3]; exact hn, fun j => VRel.up (hu j) (ht j), fn, ?_⟩
    rw [← e1, ← e2, ← e4, ← e5, ← e6]; exact hh
  lpsep := fun i j g hi hj => by
    simp only [Inj.ren] at hi hj
    split at hi <;> split at hj <;> first | exact h.lpsep i j g hi hj | cases hi | cases hj
  freshL := fun b hb => by
    refine ⟨?_, ?_⟩
    · cases hh : H'.lps b with
      | none => rfl
      | some x => exact absurd (hc.lps b x hh).1 (Nat.not_lt_of_le hb)
    · have : ¬ b < H'.marks.l := Nat.not_lt_of_le hb
      simp only [Inj.ren, this, if_false]
  ds := fun j hj => by
    obtain ⟨hl, h1⟩ := hc.ds j hj
    obtain ⟨g, hg, hB, hh⟩ := h.ds j h1
    have hl' : j < H'.marks.d := hl
    exact ⟨g, by simp only [Inj.ren, hl', if_true]; exact hg, hB, hh⟩
  dsep := fun i j g hi hj => by
    simp only [Inj.ren] at hi hj
    split at hi <;> split at hj <;> first | exact h.dsep i j g hi hj | cases hi | cases hj
  freshD := fun b hb => by
    refine ⟨?_, ?_⟩
    · cases hh : H'.ds b with
      | false => rfl
      | true => exact absurd (hc.ds b hh).1 (Nat.not_lt_of_le hb)
    · have : ¬ b < H'.marks.d := Nat.not_lt_of_le hb
      simp only [Inj.ren, this, if_false]
  inC := fun b x hx => by
    simp only [Inj.ren] at hx
    split at hx
    · exact h.inC _ x hx
    · cases hx
  inI := fun b x hx => by
    simp only [Inj.ren] at hx
    split at hx
    · exact h.inI _ x hx
    · cases hx
  inL := fun b x hx => by
    simp only [Inj.ren] at hx
    split at hx
    · exact h.inL _ x hx
    · cases hx
  inD := fun b x hx => by
    simp only [Inj.ren] at hx
    split at hx
    · exact h.inD _ x hx
    · cases hx
  globs := fun g hg => by
    obtain ⟨ci, h1, h2, h3⟩ := h.globs g hg
    have hlt : g < m.c := Nat.lt_of_lt_of_le hg hc.glob
    have hlt' : g < H'.marks.c := Nat.lt_of_lt_of_le hlt hc.le.c
    exact ⟨ci, by simp only [Inj.ren, hlt', if_true, hc.sid g hlt]; exact h1, h2, h3⟩

/-! ## Frames -/
inductive DUp (N : Marks) (s : Nat → Nat) : List Dfr → List Dfr → Prop
  | nil : DUp N s [] []
  | col (j : Nat) (h : j < N.d) (r r' : List Dfr) (t : DUp N s r r') : DUp N s (.col j :: r) (.col j :: r')
  | call (g : FuncId) (fi ca args fi' ca' args' : List V) (r r' : List Dfr) (h1 : UpL N s fi fi') (h2 : UpL N s ca ca') (h3 : UpL N s args args') (t : DUp N s r r') :
      DUp N s (.call (.fn (.func g) fi ca) args :: r) (.call (.fn (.func g) fi' ca') args' :: r')

theorem DsRel.up {f : Inj} {N : Marks} {s : Nat → Nat} {l' l : List Dfr} {m : List Deferred} (hu : DUp N s l' l) (h : DsRel f l m) : DsRel (f.ren N s) l' m := by
  induction hu generalizing m with
  | nil => cases h; exact .nil
  | col j hj r r' _ ih => cases h with | col _ g _ _ hg t => exact .col j g _ _ (by simp only [Inj.ren, hj, if_true]; exact hg) (ih t)
  | call g fi ca args fi' ca' args' r r' h1 h2 h3 _ ih => cases h with | call _ _ _ _ fw cw aw _ _ k1 k2 k3 t => exact .call g fi ca args fw cw aw _ _ (LRel.up h1 k1) (LRel.up h2 k2) (LRel.up h3 k3) (ih t)

structure EUp (N : Marks) (s : Nat → Nat) (e' e : Env) : Prop where
  t : ∀ j, Up N s (e'.t j) (e.t j)
  ds : DUp N s e'.ds e.ds

/-- A state, said anew. -/
def CanonE (P : Program) (m : Marks) (e : Env) (H : Heap) (e' : Env) (H' : Heap) : Prop := ∃ s, Canon P m s H H' ∧ EUp H'.marks s e' e

theorem sm_canon {n : Nat} {r : Rd} {c : Code} {Q : Post} {e e' : Env} {H H' : Heap} (hc : CanonE P r.m e H e' H') (h : Sm P n r c Q e' H') : Sm P n r c Q e H := by
  obtain ⟨s, hc, he⟩ := hc
  intro B w0 f a w b k cs h1 h2 h3
  obtain ⟨x, e1, H1, f1, a1, w1, q, hle, s1, s2, harr⟩ := h B w0 (f.ren H'.marks s) a w b k cs (h1.canon hc) ⟨h2.size, fun j => VRel.up (he.t j) (h2.t j), h2.ds.up he.ds⟩ (h3.monoM (hc.leM f))
  exact ⟨x, e1, H1, f1, a1, w1, q, (hc.leM f).trans hle, s1, s2, harr⟩

/-- An answer, said anew. -/
def CanonV (P : Program) (m : Marks) (v : V) (H : Heap) (v' : V) (H' : Heap) : Prop := ∃ s, Canon P m s H H' ∧ Up H'.marks s v' v

theorem callS_canon {g : FuncId} {args : List V} {H : Heap} {K : V → Heap → Prop} (h : CallS P g args H fun v1 H1 => ∃ v' H', CanonV P H.marks v1 H1 v' H' ∧ K v' H') : CallS P g args H K := by
  intro B w0 f w av kind cs hst has hno
  obtain ⟨v1, H1, f1, x1, w1, fr1, ⟨v', H', ⟨s, hc, hu⟩, hK⟩, hle, s1, hv1, rest⟩ := h B w0 f w av kind cs hst has hno
  exact ⟨v', H', f1.ren H'.marks s, x1, w1, fr1, hK, ((hle.toM _).trans (hc.leM f1)).toLe hst, s1.canon hc, VRel.up hu hv1, rest⟩

theorem invS_canon {fv : V} {args : List V} {H : Heap} {K : V → Heap → Prop} (h : InvS P fv args H fun v1 H1 => ∃ v' H', CanonV P H.marks v1 H1 v' H' ∧ K v' H') : InvS P fv args H K := by
  intro B w0 f w fv' av c cs hst hfv has
  obtain ⟨v1, H1, f1, x1, w1, ⟨v', H', ⟨s, hc, hu⟩, hK⟩, hle, s1, hv1, rest⟩ := h B w0 f w fv' av c cs hst hfv has
  exact ⟨v', H', f1.ren H'.marks s, x1, w1, hK, ((hle.toM _).trans (hc.leM f1)).toLe hst, s1.canon hc, VRel.up hu hv1, rest⟩

theorem callS_ok {g : FuncId} {args : List V} {H : Heap} {K : V → Heap → Prop} (h : H.OK P → InL H.marks args → CallS P g args H K) : CallS P g args H K :=
  fun B w0 f w av kind cs hst has hno => h hst.ok (hst.inLs has) B w0 f w av kind cs hst has hno

theorem invS_ok {fv : V} {args : List V} {H : Heap} {K : V → Heap → Prop} (h : H.OK P → fv.In H.marks → InL H.marks args → InvS P fv args H K) : InvS P fv args H K :=
  fun B w0 f w fv' av c cs hst hfv has => h hst.ok (hst.inM hfv) (hst.inLs has) B w0 f w fv' av c cs hst hfv has

theorem sm_ok {n : Nat} {r : Rd} {c : Code} {Q : Post} {e : Env} {H : Heap} (h : H.OK P → Sm P n r c Q e H) : Sm P n r c Q e H :=
  fun B w0 f a w b k cs h1 h2 h3 => h h1.ok B w0 f a w b k cs h1 h2 h3

end
end Go.Cm
