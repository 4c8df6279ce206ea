/- The moves of heap and world side by side. -/
import Derived.Test.YtgalmibnlkbdiaaGreatDoorCmRel
set_option linter.unusedVariables false
set_option linter.unusedSimpArgs false
namespace Go.Cm
open Go Go.RowKit

theorem fset_same {α : Type} (f : Nat → α) (i : Nat) (v : α) : fset f i v i = v := by simp [fset]
theorem fset_ne {α : Type} (f : Nat → α) {i j : Nat} (v : α) (h : j ≠ i) : fset f i v j = f j := by simp [fset, h]

structure SameOut (w w' : World) : Prop where
  os : w'.os = w.os
  tape : w'.tape = w.tape
  output : w'.output = w.output

theorem SameOut.refl (w : World) : SameOut w w := ⟨rfl, rfl, rfl⟩

theorem ORel.keep {P : Program} {B : Nat} {f f' : Inj} {w w' : World} {ci : CI} {ob : Obj} {arr : List Value} {fr : Nat × Nat} {e : TypeId}
    (h : ORel P B f w ci ob arr fr e) (hf : f.le f') (hw : w'.heap[ci.g]? = w.heap[ci.g]?) : ORel P B f' w' ci ob arr fr e :=
  ⟨hw.trans h.heap, h.lim, h.fits, h.rel.mono hf, h.ty, h.own, h.arg, h.isc, h.frle, h.whole⟩

theorem below_modify {B : Nat} {w0 w w' : World} (h : Below B w0 w) (hs : SameOut w w') (hsz : w.heap.size ≤ w'.heap.size) (hk : ∀ k, k < B → w'.heap[k]? = w.heap[k]?) : Below B w0 w' :=
  ⟨hs.os.trans h.os, hs.tape.trans h.tape, hs.output.trans h.output, Nat.le_trans h.size hsz, fun k hb => (hk k hb).trans (h.block k hb)⟩

/-- The world may turn where nothing that is known lies. -/
theorem StRel.world {P : Program} {B : Nat} {w0 : World} {f : Inj} {H : Heap} {w w' : World} (h : StRel P B w0 f H w) (hs : SameOut w w')
    (hsz : w.heap.size ≤ w'.heap.size) (hB : ∀ k, k < B → w'.heap[k]? = w.heap[k]?)
    (hC : ∀ b ob ci, H.cs b = some ob → f.c b = some ci → w'.heap[ci.g]? = w.heap[ci.g]?)
    (hI : ∀ i s pos g, H.its i = some (s, pos) → f.i i = some g → w'.heap[g]? = w.heap[g]?)
    (hL : ∀ l r g, H.lps l = some r → f.l l = some g → w'.heap[g]? = w.heap[g]?)
    (hD : ∀ j g, H.ds j = true → f.d j = some g → w'.heap[g]? = w.heap[g]?) : StRel P B w0 f H w' where
  below := below_modify h.below hs hsz hB
  base := h.base
  cells := fun b ob hb => by
    obtain ⟨ci, arr, fr, e, hc, ho⟩ := h.cells b ob hb
    exact ⟨ci, arr, fr, e, hc, ho.keep (.refl f) (hC b ob ci hb hc)⟩
  sep := h.sep
  freshC := h.freshC
  its := fun i s pos hi => by
    obtain ⟨g, hg, hb, hh⟩ := h.its i s pos hi
    exact ⟨g, hg, hb, (hI i s pos g hi hg).trans hh⟩
  itsep := h.itsep
  freshI := h.freshI
  lps := fun l r hl => by
    obtain ⟨g, tm, gd, h1, h2, h3, h4, h5, fn, h6⟩ := h.lps l r hl
    exact ⟨g, tm, gd, h1, h2, h3, h4, h5, fn, (hL l r g hl h1).trans h6⟩
  lpsep := h.lpsep
  freshL := h.freshL
  ds := fun j hj => by
    obtain ⟨g, hg, hb, hh⟩ := h.ds j hj
    exact ⟨g, hg, hb, (hD j g hj hg).trans hh⟩
  dsep := h.dsep
  freshD := h.freshD
  inC := fun b x hx => Nat.lt_of_lt_of_le (h.inC b x hx) hsz
  inI := fun b x hx => Nat.lt_of_lt_of_le (h.inI b x hx) hsz
  inL := fun b x hx => Nat.lt_of_lt_of_le (h.inL b x hx) hsz
  inD := fun b x hx => Nat.lt_of_lt_of_le (h.inD b x hx) hsz
  globs := h.globs

/-- A draw. -/
theorem StRel.sameHeap {P : Program} {B : Nat} {w0 : World} {f : Inj} {H : Heap} {w w' : World} (h : StRel P B w0 f H w) (hs : SameOut w w') (hh : w'.heap = w.heap) : StRel P B w0 f H w' :=
  h.world hs (by rw [hh]; exact Nat.le_refl _) (fun k _ => by rw [hh]) (fun _ _ _ _ _ => by rw [hh]) (fun _ _ _ _ _ _ => by rw [hh]) (fun _ _ _ _ _ => by rw [hh]) (fun _ _ _ _ => by rw [hh])

theorem StRel.baseLe {P : Program} {B : Nat} {w0 : World} {f : Inj} {H : Heap} {w : World} (h : StRel P B w0 f H w) : B ≤ w.heap.size := Nat.le_trans h.base h.below.size

/-- A new block, unknown yet. -/
theorem StRel.grow {P : Program} {B : Nat} {w0 : World} {f : Inj} {H : Heap} {w w' : World} (h : StRel P B w0 f H w) (hs : SameOut w w') (o : Go.Obj) (hh : w'.heap = w.heap.push o) : StRel P B w0 f H w' := by
  have key : ∀ k, k < w.heap.size → w'.heap[k]? = w.heap[k]? := fun k hk => by rw [hh, Array.getElem?_push, if_neg (by omega)]
  refine h.world hs (by rw [hh]; simp) (fun k hk => key k (Nat.lt_of_lt_of_le hk h.baseLe)) (fun b ob ci _ hc => key _ (h.inC b ci hc)) (fun i s pos g _ hg => key _ (h.inI i g hg)) (fun l r g _ hg => key _ (h.inL l g hg)) (fun j g _ hg => key _ (h.inD j g hg))

/-- No live block of the program's own lies there. -/
def Free (f : Inj) (H : Heap) (g : Nat) : Prop := ∀ b ob ci, H.cs b = some ob → f.c b = some ci → ob.k ≠ .arg → ci.g ≠ g

theorem StRel.free_new {P : Program} {B : Nat} {w0 : World} {f : Inj} {H : Heap} {w : World} (h : StRel P B w0 f H w) : Free f H w.heap.size :=
  fun b _ ci _ hc _ e => absurd (h.inC b ci hc) (by omega)

theorem StRel.kill {P : Program} {B : Nat} {w0 : World} {f : Inj} {H : Heap} {w : World} (h : StRel P B w0 f H w) (b : Nat) : StRel P B w0 f (H.put b none) w where
  below := h.below
  base := h.base
  cells := fun b' ob hb => by
    have : b' ≠ b := fun e => by subst e; simp [Heap.put, fset] at hb
    exact h.cells b' ob (by simpa [Heap.put, fset, this] using hb)
  sep := fun b1 b2 o1 o2 c1 c2 h1 h2 => by
    have e1 : b1 ≠ b := fun e => by subst e; simp [Heap.put, fset] at h1
    have e2 : b2 ≠ b := fun e => by subst e; simp [Heap.put, fset] at h2
    exact h.sep b1 b2 o1 o2 c1 c2 (by simpa [Heap.put, fset, e1] using h1) (by simpa [Heap.put, fset, e2] using h2)
  freshC := fun b' hb => ⟨by
    by_cases e : b' = b
    · subst e; simp [Heap.put, fset]
    · simpa [Heap.put, fset, e] using (h.freshC b' hb).1, (h.freshC b' hb).2⟩
  its := h.its
  itsep := h.itsep
  freshI := h.freshI
  lps := h.lps
  lpsep := h.lpsep
  freshL := h.freshL
  ds := h.ds
  dsep := h.dsep
  freshD := h.freshD
  inC := h.inC
  inI := h.inI
  inL := h.inL
  inD := h.inD
  globs := h.globs

theorem StRel.free_kill {P : Program} {B : Nat} {w0 : World} {f : Inj} {H : Heap} {w : World} (h : StRel P B w0 f H w) {b : Nat} {ob : Obj} {ci : CI} (hb : H.cs b = some ob) (hc : f.c b = some ci) : Free f (H.put b none) ci.g := by
  intro b' ob' ci' hb' hc' hk e
  have hne : b' ≠ b := fun e => by subst e; simp [Heap.put, fset] at hb'
  exact h.sep b' b ob' ob ci' ci (by simpa [Heap.put, fset, hne] using hb') hb hc' hc hk hne e

/-- A block of cells from the base on that is free may turn. -/
theorem StRel.setFree {P : Program} {B : Nat} {w0 : World} {f : Inj} {H : Heap} {w w' : World} (h : StRel P B w0 f H w) (hs : SameOut w w') {g : Nat} (hB : B ≤ g) (hfree : Free f H g)
    {c : Array Value} {e : TypeId} {fr : Nat × Nat} (hg : w.heap[g]? = some (.cells c e fr)) (hsz : w'.heap.size = w.heap.size) (hh : ∀ k, k ≠ g → w'.heap[k]? = w.heap[k]?) : StRel P B w0 f H w' := by
  refine h.world hs (by omega) (fun k hk => hh k (by omega)) (fun b ob ci hb hc => ?_) (fun i s pos g' hi hg' => hh _ fun e => ?_) (fun l r g' hl hg' => hh _ fun e => ?_) (fun j g' hj hg' => hh _ fun e => ?_)
  · refine hh _ fun e => ?_
    obtain ⟨ci', arr, fr', e', hc', ho⟩ := h.cells b ob hb
    rw [hc] at hc'; cases hc'
    by_cases hk : ob.k = .arg
    · have := ho.arg hk; omega
    · exact hfree b ob ci hb hc hk e
  · obtain ⟨g2, h1, _, h2⟩ := h.its i s pos hi
    rw [hg'] at h1; cases h1
    rw [e, hg] at h2; cases h2
  · obtain ⟨g2, tm, gd, h1, _, _, _, _, _, h2⟩ := h.lps l r hl
    rw [hg'] at h1; cases h1
    rw [e, hg] at h2; cases h2
  · obtain ⟨g2, h1, _, h2⟩ := h.ds j hj
    rw [hg'] at h1; cases h1
    rw [e, hg] at h2; cases h2

/-- A dead block lives again. -/
theorem StRel.revive {P : Program} {B : Nat} {w0 : World} {f : Inj} {H : Heap} {w : World} (h : StRel P B w0 f H w) {b : Nat} {ob : Obj} {ci : CI} {arr : List Value} {fr : Nat × Nat} {e : TypeId}
    (hb : b < H.nc) (hc : f.c b = some ci) (ho : ORel P B f w ci ob arr fr e) (hk : ob.k ≠ .arg) (hfree : Free f (H.put b none) ci.g) : StRel P B w0 f (H.put b (some ob)) w where
  below := h.below
  base := h.base
  cells := fun b' ob' hb' => by
    by_cases hne : b' = b
    · subst hne
      simp [Heap.put, fset] at hb'
      subst hb'
      exact ⟨ci, arr, fr, e, hc, ho⟩
    · exact h.cells b' ob' (by simpa [Heap.put, fset, hne] using hb')
  sep := fun b1 b2 o1 o2 c1 c2 h1 h2 k1 k2 ha hne => by
    by_cases e1 : b1 = b
    · subst e1
      rw [hc] at k1; cases k1
      have e2 : b2 ≠ b1 := Ne.symm hne
      have h2' : H.cs b2 = some o2 := by simpa [Heap.put, fset, e2] using h2
      by_cases ha2 : o2.k = .arg
      · obtain ⟨c2', _, _, _, hc2, ho2⟩ := h.cells b2 o2 h2'
        rw [k2] at hc2; cases hc2
        have := ho2.arg ha2
        have := (ho.ty hk).2.1
        omega
      · exact fun e => hfree b2 o2 c2 (by simpa [Heap.put, fset, e2] using h2') k2 ha2 e.symm
    · have h1' : H.cs b1 = some o1 := by simpa [Heap.put, fset, e1] using h1
      by_cases e2 : b2 = b
      · subst e2
        rw [hc] at k2; cases k2
        exact hfree b1 o1 c1 (by simpa [Heap.put, fset, e1] using h1') k1 ha
      · exact h.sep b1 b2 o1 o2 c1 c2 h1' (by simpa [Heap.put, fset, e2] using h2) k1 k2 ha hne
  freshC := fun b' hb' => ⟨by
    have : b' ≠ b := fun e => by subst e; exact absurd hb (Nat.not_lt.2 hb')
    simpa [Heap.put, fset, this] using (h.freshC b' hb').1, (h.freshC b' hb').2⟩
  its := h.its
  itsep := h.itsep
  freshI := h.freshI
  lps := h.lps
  lpsep := h.lpsep
  freshL := h.freshL
  ds := h.ds
  dsep := h.dsep
  freshD := h.freshD
  inC := h.inC
  inI := h.inI
  inL := h.inL
  inD := h.inD
  globs := h.globs

def Inj.addC (f : Inj) (b : Nat) (ci : CI) : Inj := { f with c := fset f.c b (some ci) }

theorem Inj.addC_le {f : Inj} {b : Nat} {ci : CI} (h : f.c b = none) : f.le (f.addC b ci) :=
  ⟨fun b' x hx => by
    have : b' ≠ b := fun e => by subst e; rw [h] at hx; cases hx
    simpa [Inj.addC, fset, this] using hx, fun _ _ h => h, fun _ _ h => h, fun _ _ h => h⟩

/-- A new number for a block. -/
theorem StRel.name {P : Program} {B : Nat} {w0 : World} {f : Inj} {H : Heap} {w : World} (h : StRel P B w0 f H w) {ob : Obj} {ci : CI} {arr : List Value} {fr : Nat × Nat} {e : TypeId}
    (hg : ci.g < w.heap.size) (ho : ORel P B f w ci ob arr fr e) (hk : ob.k ≠ .arg) (hfree : Free f H ci.g) : StRel P B w0 (f.addC H.nc ci) (H.push ob) w ∧ f.le (f.addC H.nc ci) := by
  have hnone := (h.freshC H.nc (Nat.le_refl _)).2
  have hdead := (h.freshC H.nc (Nat.le_refl _)).1
  have hle : f.le (f.addC H.nc ci) := Inj.addC_le hnone
  have old : ∀ b ci', b ≠ H.nc → (f.addC H.nc ci).c b = some ci' → f.c b = some ci' := fun b ci' hne hc => by simpa [Inj.addC, fset, hne] using hc
  refine ⟨?_, hle⟩
  refine { below := h.below, base := h.base, cells := ?_, sep := ?_, freshC := ?_, its := h.its, itsep := h.itsep, freshI := h.freshI, lps := ?_, lpsep := h.lpsep, freshL := h.freshL,
           ds := h.ds, dsep := h.dsep, freshD := h.freshD, inC := ?_, inI := h.inI, inL := h.inL, inD := h.inD, globs := ?_ }
  · intro b ob' hb
    by_cases hne : b = H.nc
    · subst hne
      simp [Heap.push, fset] at hb
      subst hb
      exact ⟨ci, arr, fr, e, by simp [Inj.addC, fset], ho.keep hle rfl⟩
    · obtain ⟨ci', arr', fr', e', hc', ho'⟩ := h.cells b ob' (by simpa [Heap.push, fset, hne] using hb)
      exact ⟨ci', arr', fr', e', hle.c _ _ hc', ho'.keep hle rfl⟩
  · intro b1 b2 o1 o2 c1 c2 h1 h2 k1 k2 ha hne
    by_cases e1 : b1 = H.nc
    · subst e1
      have e2 : b2 ≠ H.nc := Ne.symm hne
      have k2' := old b2 c2 e2 k2
      have h2' : H.cs b2 = some o2 := by simpa [Heap.push, fset, e2] using h2
      simp [Inj.addC, fset] at k1
      subst k1
      by_cases ha2 : o2.k = .arg
      · obtain ⟨c2', _, _, _, hc2, ho2⟩ := h.cells b2 o2 h2'
        rw [k2'] at hc2; cases hc2
        have := ho2.arg ha2
        have := (ho.ty hk).2.1
        omega
      · exact fun e => hfree b2 o2 c2 h2' k2' ha2 e.symm
    · have h1' : H.cs b1 = some o1 := by simpa [Heap.push, fset, e1] using h1
      have k1' := old b1 c1 e1 k1
      by_cases e2 : b2 = H.nc
      · subst e2
        simp [Inj.addC, fset] at k2
        subst k2
        exact hfree b1 o1 c1 h1' k1' ha
      · exact h.sep b1 b2 o1 o2 c1 c2 h1' (by simpa [Heap.push, fset, e2] using h2) k1' (old b2 c2 e2 k2) ha hne
  · intro b hb
    have hb' : H.nc + 1 ≤ b := hb
    have hne : b ≠ H.nc := by omega
    have := h.freshC b (by omega)
    exact ⟨by simpa [Heap.push, fset, hne] using this.1, by simpa [Inj.addC, fset, hne] using this.2⟩
  · intro l r hl
    obtain ⟨g, tm, gd, h1, h2, h3, h4, h5, h6⟩ := h.lps l r hl
    exact ⟨g, tm, gd, h1, h2, h3, h4, fun j => (h5 j).mono hle, h6⟩
  · intro b x hx
    by_cases hne : b = H.nc
    · subst hne
      simp [Inj.addC, fset] at hx
      subst hx
      exact hg
    · exact h.inC b x (old b x hne hx)
  · intro g hg'
    obtain ⟨ci', h1, h2, h3⟩ := h.globs g hg'
    exact ⟨ci', hle.c _ _ h1, h2, h3⟩

/-- A new block of cells. -/
theorem StRel.push {P : Program} {B : Nat} {w0 : World} {f : Inj} {H : Heap} {w w' : World} (h : StRel P B w0 f H w) (hs : SameOut w w') (ob : Obj) (m r : List Value) (fr : Nat × Nat) (sz : Nat)
    (hh : w'.heap = w.heap.push (.cells ⟨m ++ r⟩ ob.e fr)) (hr : LRel f ob.l m) (hi : ∀ x ∈ ob.l, V.isCell x = true) (hk : ob.k ≠ .arg) (hty : (tiOf P ob.e).map TI.size = some sz) (hfr : ∀ j, j < (m ++ r).length → unfr fr j) (hfl : fr.1 ≤ fr.2) (hwr : ob.w = true → r = []) :
    ∃ f' ci, StRel P B w0 f' (H.push ob) w' ∧ f.le f' ∧ f'.c H.nc = some ci ∧ ci.g = w.heap.size ∧ ci.d = 0 ∧ ci.sz = sz ∧ ci.lim = (m ++ r).length := by
  have h1 := h.grow hs _ hh
  have hg : w'.heap[w.heap.size]? = some (.cells ⟨m ++ r⟩ ob.e fr) := by rw [hh]; simp
  have hfree : Free f H w.heap.size := h.free_new
  obtain ⟨h2, hle⟩ := h1.name (ob := ob) (ci := ⟨w.heap.size, 0, sz, (m ++ r).length⟩) (arr := m ++ r) (fr := fr) (e := ob.e) (by show w.heap.size < _; rw [hh]; simp)
    ⟨hg, rfl, by simp [hr.len], by simp [hr.len]; exact hr, fun _ => ⟨rfl, h.baseLe, hty⟩, fun _ => hfr, (fun e => absurd e hk), hi, fun _ => hfl, fun hw => ⟨rfl, by rw [hwr hw]; simp [hr.len]⟩⟩ hk hfree
  exact ⟨_, ⟨w.heap.size, 0, sz, (m ++ r).length⟩, h2, hle, fset_same _ _ _, rfl, rfl, rfl, rfl⟩

end Go.Cm
