/- How the abstract machine's values and heaps stand to the model's. -/
import Derived.Test.YtgalmibnlkbdiaaGreatDoorCmDef
set_option linter.unusedVariables false
set_option linter.unusedSimpArgs false
namespace Go.Cm
open Go Go.RowKit

structure CI where
  g : Nat
  d : Nat
  sz : Nat
  lim : Nat

structure Inj where
  c : Nat → Option CI
  i : Nat → Option Nat
  l : Nat → Option Nat
  d : Nat → Option Nat

structure Inj.le (f f' : Inj) : Prop where
  c : ∀ b x, f.c b = some x → f'.c b = some x
  i : ∀ b x, f.i b = some x → f'.i b = some x
  l : ∀ b x, f.l b = some x → f'.l b = some x
  d : ∀ b x, f.d b = some x → f'.d b = some x

theorem Inj.le.refl (f : Inj) : f.le f := ⟨fun _ _ h => h, fun _ _ h => h, fun _ _ h => h, fun _ _ h => h⟩
theorem Inj.le.trans {f g h : Inj} (a : f.le g) (b : g.le h) : f.le h :=
  ⟨fun _ _ x => b.c _ _ (a.c _ _ x), fun _ _ x => b.i _ _ (a.i _ _ x), fun _ _ x => b.l _ _ (a.l _ _ x), fun _ _ x => b.d _ _ (a.d _ _ x)⟩

inductive VRel (f : Inj) : V → Value → Prop
  | undef (v : Value) : VRel f .undef v
  | junk (v : Value) (h : v.oneCell' = true) : VRel f .junk v
  | bool (b : Bool) : VRel f (.bool b) (.bool b)
  | int (k : IntKind) (n : Int) : VRel f (.int k n) (.int k n)
  | str (s : List UInt8) : VRel f (.str s) (.string ⟨⟨s⟩⟩)
  | ptr (b o : Nat) (ci : CI) (h : f.c b = some ci) : VRel f (.ptr b o) (.pointer (some ⟨ci.g, ci.d + o, none⟩))
  | nilptr : VRel f .nilptr (.pointer none)
  | slice (b o n c : Nat) (ex : Bool) (ci : CI) (a : Addr) (c' : Nat) (h : f.c b = some ci) (ha : c' = 0 ∨ a = ⟨ci.g, ci.d + o, none⟩)
      (hc : c ≤ c') (he : ex = true → c' = c) (hn : n ≤ c) (hl : ex = false → ci.d + o + c' * ci.sz ≤ ci.lim) : VRel f (.slice b o n c ex) (.slice (some a) n c')
  | nilslice : VRel f .nilslice (.slice none 0 0)
  | fn (g : FuncId) (fi ca : List V) (fi' ca' : List Value) (h1 : fi.length = fi'.length) (h2 : ∀ (i : Nat) x y, fi[i]? = some x → fi'[i]? = some y → VRel f x y)
      (h3 : ca.length = ca'.length) (h4 : ∀ (i : Nat) x y, ca[i]? = some x → ca'[i]? = some y → VRel f x y) : VRel f (.fn (.func g) fi ca) (.func (.func g) ⟨fi'⟩ ⟨ca'⟩)
  | yield (l l' : Nat) (h : f.l l = some l') : VRel f (.fn (.yield l) [] []) (.func (.yield l') #[] #[])
  | nilfn : VRel f .nilfn .nilFunc
  | iface (t : TypeId) (v : V) (w : Value) (h : VRel f v w) : VRel f (.iface t v) (.iface t w)
  | nilif : VRel f .nilif .nilIface
  | agg (cs : List V) (cs' : List Value) (h1 : cs.length = cs'.length) (h2 : ∀ (i : Nat) x y, cs[i]? = some x → cs'[i]? = some y → VRel f x y) : VRel f (.agg cs) (.agg ⟨cs'⟩)
  | tuple (cs : List V) (cs' : List Value) (h1 : cs.length = cs'.length) (h2 : ∀ (i : Nat) x y, cs[i]? = some x → cs'[i]? = some y → VRel f x y) : VRel f (.tuple cs) (.tuple ⟨cs'⟩)
  | it (i g : Nat) (h : f.i i = some g) : VRel f (.it i) (.pointer (some ⟨g, 0, none⟩))

theorem VRel.mono {f f' : Inj} (hf : f.le f') {v : V} {w : Value} (h : VRel f v w) : VRel f' v w := by
  induction h with
  | undef v => exact .undef v
  | junk v h => exact .junk v h
  | bool b => exact .bool b
  | int k n => exact .int k n
  | str s => exact .str s
  | ptr b o ci h => exact .ptr b o ci (hf.c _ _ h)
  | nilptr => exact .nilptr
  | slice b o n c ex ci a c' h ha hc he hn hl => exact .slice b o n c ex ci a c' (hf.c _ _ h) ha hc he hn hl
  | nilslice => exact .nilslice
  | fn g fi ca fi' ca' h1 _ h3 _ i1 i2 => exact .fn g fi ca fi' ca' h1 i1 h3 i2
  | yield l l' h => exact .yield l l' (hf.l _ _ h)
  | nilfn => exact .nilfn
  | iface t v w _ i => exact .iface t v w i
  | nilif => exact .nilif
  | agg cs cs' h1 _ i => exact .agg cs cs' h1 i
  | tuple cs cs' h1 _ i => exact .tuple cs cs' h1 i
  | it i g h => exact .it i g (hf.i _ _ h)

/-! ## Lists of values -/
structure LRel (f : Inj) (l : List V) (m : List Value) : Prop where
  len : l.length = m.length
  at_ : ∀ (i : Nat) x y, l[i]? = some x → m[i]? = some y → VRel f x y

theorem LRel.mono {f f' : Inj} (hf : f.le f') {l : List V} {m : List Value} (h : LRel f l m) : LRel f' l m := ⟨h.len, fun i x y a b => (h.at_ i x y a b).mono hf⟩
theorem LRel.nil (f : Inj) : LRel f [] [] := ⟨rfl, fun i x y a _ => by simp at a⟩
theorem LRel.cons {f : Inj} {x : V} {y : Value} {l : List V} {m : List Value} (h : VRel f x y) (t : LRel f l m) : LRel f (x :: l) (y :: m) :=
  ⟨by simp [t.len], fun i a b ha hb => by
    cases i with
    | zero => simp at ha hb; subst ha; subst hb; exact h
    | succ i => simp at ha hb; exact t.at_ i a b ha hb⟩
theorem LRel.uncons {f : Inj} {x : V} {l : List V} {m : List Value} (h : LRel f (x :: l) m) : ∃ y m', m = y :: m' ∧ VRel f x y ∧ LRel f l m' := by
  cases m with
  | nil => have := h.len; simp at this
  | cons y m => exact ⟨y, m, rfl, h.at_ 0 x y rfl rfl, by have := h.len; simpa using this, fun i a b ha hb => h.at_ (i + 1) a b (by simpa using ha) (by simpa using hb)⟩
theorem LRel.nil_inv {f : Inj} {m : List Value} (h : LRel f [] m) : m = [] := by
  cases m with
  | nil => rfl
  | cons y m => have := h.len; simp at this
theorem LRel.get {f : Inj} {l : List V} {m : List Value} (h : LRel f l m) {i : Nat} {x : V} (hx : l[i]? = some x) : ∃ y, m[i]? = some y ∧ VRel f x y := by
  have hi : i < l.length := (List.getElem?_eq_some_iff.1 hx).1
  have hi' : i < m.length := by rw [← h.len]; exact hi
  exact ⟨m[i], List.getElem?_eq_getElem hi', h.at_ i x _ hx (List.getElem?_eq_getElem hi')⟩
theorem LRel.append {f : Inj} {l l2 : List V} {m m2 : List Value} (h : LRel f l m) (h2 : LRel f l2 m2) : LRel f (l ++ l2) (m ++ m2) := by
  refine ⟨by simp [h.len, h2.len], fun i x y hx hy => ?_⟩
  rw [List.getElem?_append] at hx hy
  rw [h.len] at hx
  split at hx
  · rename_i hi; rw [if_pos hi] at hy; exact h.at_ i x y hx hy
  · rename_i hi; rw [if_neg hi] at hy; exact h2.at_ _ x y hx hy
theorem LRel.take {f : Inj} {l : List V} {m : List Value} (h : LRel f l m) (n : Nat) : LRel f (l.take n) (m.take n) := by
  refine ⟨by simp [h.len], fun i x y hx hy => ?_⟩
  rw [List.getElem?_take] at hx hy
  split at hx
  · rename_i hi; rw [if_pos hi] at hy; exact h.at_ i x y hx hy
  · cases hx
theorem LRel.drop {f : Inj} {l : List V} {m : List Value} (h : LRel f l m) (n : Nat) : LRel f (l.drop n) (m.drop n) := by
  refine ⟨by simp [h.len], fun i x y hx hy => ?_⟩
  rw [List.getElem?_drop] at hx hy
  exact h.at_ _ x y hx hy
theorem LRel.map {α : Type} {f : Inj} (l : List α) (p : α → V) (q : α → Value) (h : ∀ x ∈ l, VRel f (p x) (q x)) : LRel f (l.map p) (l.map q) := by
  refine ⟨by simp, fun i x y hx hy => ?_⟩
  rw [List.getElem?_map] at hx hy
  cases hl : l[i]? with
  | none => rw [hl] at hx; cases hx
  | some a =>
    rw [hl] at hx hy
    simp at hx hy
    subst hx; subst hy
    exact h a (List.mem_of_getElem? hl)

theorem VRel.agg' {f : Inj} {l : List V} {m : List Value} (h : LRel f l m) : VRel f (.agg l) (.agg ⟨m⟩) := .agg l m h.len h.at_
theorem VRel.tuple' {f : Inj} {l : List V} {m : List Value} (h : LRel f l m) : VRel f (.tuple l) (.tuple ⟨m⟩) := .tuple l m h.len h.at_
theorem VRel.agg_inv {f : Inj} {l : List V} {w : Value} (h : VRel f (.agg l) w) : ∃ m, w = .agg ⟨m⟩ ∧ LRel f l m := by
  cases h with | agg _ m h1 h2 => exact ⟨m, rfl, h1, h2⟩
theorem VRel.tuple_inv {f : Inj} {l : List V} {w : Value} (h : VRel f (.tuple l) w) : ∃ m, w = .tuple ⟨m⟩ ∧ LRel f l m := by
  cases h with | tuple _ m h1 h2 => exact ⟨m, rfl, h1, h2⟩
theorem VRel.bool_inv {f : Inj} {b : Bool} {w : Value} (h : VRel f (.bool b) w) : w = .bool b := by cases h; rfl
theorem VRel.int_inv {f : Inj} {k : IntKind} {n : Int} {w : Value} (h : VRel f (.int k n) w) : w = .int k n := by cases h; rfl
theorem VRel.str_inv {f : Inj} {s : List UInt8} {w : Value} (h : VRel f (.str s) w) : w = .string ⟨⟨s⟩⟩ := by cases h; rfl
theorem VRel.nilslice_inv {f : Inj} {w : Value} (h : VRel f .nilslice w) : w = .slice none 0 0 := by cases h; rfl
theorem VRel.nilptr_inv {f : Inj} {w : Value} (h : VRel f .nilptr w) : w = .pointer none := by cases h; rfl
theorem VRel.nilif_inv {f : Inj} {w : Value} (h : VRel f .nilif w) : w = .nilIface := by cases h; rfl
theorem VRel.nilfn_inv {f : Inj} {w : Value} (h : VRel f .nilfn w) : w = .nilFunc := by cases h; rfl
theorem VRel.ptr_inv {f : Inj} {b o : Nat} {w : Value} (h : VRel f (.ptr b o) w) : ∃ ci, f.c b = some ci ∧ w = .pointer (some ⟨ci.g, ci.d + o, none⟩) := by
  cases h with | ptr _ _ ci h => exact ⟨ci, h, rfl⟩
theorem VRel.iface_inv {f : Inj} {t : TypeId} {v : V} {w : Value} (h : VRel f (.iface t v) w) : ∃ u, w = .iface t u ∧ VRel f v u := by
  cases h with | iface _ _ u h => exact ⟨u, rfl, h⟩
theorem VRel.it_inv {f : Inj} {i : Nat} {w : Value} (h : VRel f (.it i) w) : ∃ g, f.i i = some g ∧ w = .pointer (some ⟨g, 0, none⟩) := by
  cases h with | it _ g h => exact ⟨g, h, rfl⟩
theorem VRel.slice_inv {f : Inj} {b o n c : Nat} {ex : Bool} {w : Value} (h : VRel f (.slice b o n c ex) w) : ∃ ci a c', f.c b = some ci ∧ w = .slice (some a) n c' ∧
    (c' = 0 ∨ a = ⟨ci.g, ci.d + o, none⟩) ∧ c ≤ c' ∧ (ex = true → c' = c) ∧ n ≤ c ∧ (ex = false → ci.d + o + c' * ci.sz ≤ ci.lim) := by
  cases h with | slice _ _ _ _ _ ci a c' h ha hc he hn hl => exact ⟨ci, a, c', h, rfl, ha, hc, he, hn, hl⟩
theorem VRel.fn_inv {f : Inj} {g : FuncId} {fi ca : List V} {w : Value} (h : VRel f (.fn (.func g) fi ca) w) : ∃ fi' ca', w = .func (.func g) ⟨fi'⟩ ⟨ca'⟩ ∧ LRel f fi fi' ∧ LRel f ca ca' := by
  cases h with | fn _ _ _ fi' ca' h1 h2 h3 h4 => exact ⟨fi', ca', rfl, ⟨h1, h2⟩, ⟨h3, h4⟩⟩
theorem VRel.yield_inv {f : Inj} {l : Nat} {fi ca : List V} {w : Value} (h : VRel f (.fn (.yield l) fi ca) w) : ∃ l', f.l l = some l' ∧ fi = [] ∧ ca = [] ∧ w = .func (.yield l') #[] #[] := by
  cases h with | yield _ l' h => exact ⟨l', h, rfl, rfl, rfl⟩

theorem VRel.cell {f : Inj} {v : V} {w : Value} (h : VRel f v w) (hc : v.isCell = true) : w.oneCell' = true := by
  cases h <;> first | rfl | (simp [V.isCell] at hc; done) | assumption

theorem VRel.ofScalar (f : Inj) (v : Value) : VRel f (ofScalar v) v := by
  cases v with
  | bool b => exact .bool b
  | int k n => exact .int k n
  | string s => obtain ⟨⟨l⟩⟩ := s; exact .str l
  | pointer a => cases a with
    | none => exact .nilptr
    | some a => exact .junk _ rfl
  | slice a n c =>
    cases a with
    | none =>
      cases n with
      | zero => cases c with
        | zero => exact .nilslice
        | succ c => exact .junk _ rfl
      | succ n => exact .junk _ rfl
    | some a => exact .junk _ rfl
  | nilFunc => exact .nilfn
  | nilIface => exact .nilif
  | agg cs => exact .undef _
  | tuple cs => exact .undef _
  | float k b => exact .junk _ rfl
  | complex k a b => exact .junk _ rfl
  | map r => exact .junk _ rfl
  | chan r => exact .junk _ rfl
  | func fn a b => exact .junk _ rfl
  | iface t v => exact .junk _ rfl

theorem LRel.scalars (f : Inj) (l : List Value) : LRel f (l.map Cm.ofScalar) l := by
  have := LRel.map (f := f) l Cm.ofScalar id (fun x _ => VRel.ofScalar f x)
  simpa using this

theorem VRel.ofVal (f : Inj) (v : Value) : VRel f (ofVal v) v := by
  cases v with
  | agg cs => obtain ⟨l⟩ := cs; exact .agg' (LRel.scalars f l)
  | _ => simp only [Cm.ofVal]; exact VRel.ofScalar f _

theorem cellsOf_isc {v : V} {cs : List V} (hc : cellsOf v = some cs) : ∀ x ∈ cs, V.isCell x = true := by
  unfold cellsOf at hc
  split at hc
  · split at hc
    · rename_i h
      cases hc
      exact fun x hx => List.all_eq_true.1 h x hx
    · cases hc
  · split at hc
    · rename_i h
      cases hc
      intro x hx
      simp at hx
      subst hx
      exact h
    · cases hc

/-- Cells of a value, all of one cell. -/
theorem cellsOf_rel {f : Inj} {v : V} {w : Value} (h : VRel f v w) {cs : List V} (hc : cellsOf v = some cs) : LRel f cs w.cells.toList ∧ ∀ x ∈ w.cells.toList, x.oneCell' = true := by
  have key : ∀ (l : List V) (m : List Value), l.all V.isCell = true → LRel f l m → ∀ x ∈ m, x.oneCell' = true := by
    intro l m hl hr x hx
    obtain ⟨i, hi⟩ := List.mem_iff_getElem?.1 hx
    have hi' : i < l.length := by rw [hr.len]; exact (List.getElem?_eq_some_iff.1 hi).1
    exact (hr.at_ i _ x (List.getElem?_eq_getElem hi') hi).cell (List.all_eq_true.1 hl _ (List.getElem_mem hi'))
  cases v with
  | agg l =>
    obtain ⟨m, rfl, hr⟩ := h.agg_inv
    simp only [cellsOf] at hc
    split at hc
    · rename_i hl
      cases hc
      exact ⟨hr, key _ m hl hr⟩
    · cases hc
  | undef => simp [cellsOf, V.isCell] at hc
  | tuple l => simp [cellsOf, V.isCell] at hc
  | _ =>
    simp [cellsOf, V.isCell] at hc
    subst hc
    have h1 := h.cell (by rfl)
    have hw : w.cells = #[w] := by cases w <;> first | rfl | (simp [Value.oneCell'] at h1)
    rw [hw]
    refine ⟨LRel.cons h (LRel.nil f), fun x hx => ?_⟩
    simp at hx
    subst hx
    exact h1

theorem splice_rel {f : Inj} {l cs : List V} {m ms : List Value} (h : LRel f l m) (hc : LRel f cs ms) (o : Nat) : LRel f (splice l o cs) (m.take o ++ (ms ++ m.drop (o + ms.length))) := by
  unfold splice
  rw [hc.len]
  exact (h.take o).append (hc.append (h.drop _))

theorem readCells_isc {l cs : List V} {o n : Nat} (h : ∀ x ∈ l, V.isCell x = true) (hc : readCells l o n = some cs) : ∀ x ∈ cs, V.isCell x = true := by
  unfold readCells at hc
  split at hc
  · cases hc
    exact fun x hx => h x (List.mem_of_mem_drop (List.mem_of_mem_take hx))
  · cases hc

theorem splice_isc {l cs : List V} (h : ∀ x ∈ l, V.isCell x = true) (hc : ∀ x ∈ cs, V.isCell x = true) (o : Nat) : ∀ x ∈ splice l o cs, V.isCell x = true := by
  intro x hx
  unfold splice at hx
  simp only [List.mem_append] at hx
  rcases hx with hx | hx | hx
  · exact h x (List.mem_of_mem_take hx)
  · exact hc x hx
  · exact h x (List.mem_of_mem_drop hx)

/-! ## Heap and world -/
def unfr (fr : Nat × Nat) (j : Nat) : Prop := ¬ (fr.1 ≤ j ∧ j < fr.2)

structure ORel (P : Program) (B : Nat) (f : Inj) (w : World) (ci : CI) (ob : Obj) (arr : List Value) (fr : Nat × Nat) (e : TypeId) : Prop where
  heap : w.heap[ci.g]? = some (.cells ⟨arr⟩ e fr)
  lim : arr.length = ci.lim
  fits : ci.d + ob.l.length ≤ arr.length
  rel : LRel f ob.l ((arr.drop ci.d).take ob.l.length)
  ty : ob.k ≠ .arg → e = ob.e ∧ B ≤ ci.g ∧ (tiOf P ob.e).map TI.size = some ci.sz
  own : ob.k = .own → ∀ j, j < arr.length → unfr fr j
  arg : ob.k = .arg → ci.g < B
  isc : ∀ x ∈ ob.l, V.isCell x = true
  frle : ob.k ≠ .arg → fr.1 ≤ fr.2
  whole : ob.w = true → ci.d = 0 ∧ arr.length = ob.l.length

structure StRel (P : Program) (B : Nat) (w0 : World) (f : Inj) (H : Heap) (w : World) : Prop where
  below : Below B w0 w
  base : B ≤ w0.heap.size
  cells : ∀ b ob, H.cs b = some ob → ∃ ci arr fr e, f.c b = some ci ∧ ORel P B f w ci ob arr fr e
  sep : ∀ b b' ob ob' ci ci', H.cs b = some ob → H.cs b' = some ob' → f.c b = some ci → f.c b' = some ci' → ob.k ≠ .arg → b ≠ b' → ci.g ≠ ci'.g
  freshC : ∀ b, H.nc ≤ b → H.cs b = none ∧ f.c b = none
  its : ∀ i s pos, H.its i = some (s, pos) → ∃ g, f.i i = some g ∧ B ≤ g ∧ w.heap[g]? = some (.stringIter ⟨⟨s⟩⟩ pos)
  itsep : ∀ i j g, f.i i = some g → f.i j = some g → i = j
  freshI : ∀ b, H.ni ≤ b → H.its b = none ∧ f.i b = none
  lps : ∀ l r, H.lps l = some r → ∃ g tm gd, f.l l = some g ∧ B ≤ g ∧ f.d r.dfr = some gd ∧ tm.size = r.n ∧ (∀ j, VRel f (r.t j) (tm.getD j Go.undef)) ∧
    ∃ fn, w.heap[g]? = some (.loop { state := r.st, pending := r.pend, fn := fn, tmps := tm, params := r.params, assign := r.assign, body := r.body, defers := gd })
  lpsep : ∀ i j g, f.l i = some g → f.l j = some g → i = j
  freshL : ∀ b, H.nl ≤ b → H.lps b = none ∧ f.l b = none
  ds : ∀ j, H.ds j = true → ∃ g, f.d j = some g ∧ B ≤ g ∧ w.heap[g]? = some (.deferred (some []))
  dsep : ∀ i j g, f.d i = some g → f.d j = some g → i = j
  freshD : ∀ b, H.nd ≤ b → H.ds b = false ∧ f.d b = none
  inC : ∀ b x, f.c b = some x → x.g < w.heap.size
  inI : ∀ b x, f.i b = some x → x < w.heap.size
  inL : ∀ b x, f.l b = some x → x < w.heap.size
  inD : ∀ b x, f.d b = some x → x < w.heap.size
  globs : ∀ g, g < P.globals.size → ∃ ci, f.c g = some ci ∧ ci.g = g ∧ ci.d = 0

end Go.Cm
