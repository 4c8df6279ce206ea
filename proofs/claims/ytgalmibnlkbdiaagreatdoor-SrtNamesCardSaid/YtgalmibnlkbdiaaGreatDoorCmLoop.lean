/- The records of loops over functions, side by side. -/
import Derived.Test.YtgalmibnlkbdiaaGreatDoorCmOps2
set_option linter.unusedVariables false
set_option linter.unusedSimpArgs false
namespace Go.Cm
open Go Go.RowKit

section
variable {P : Program} {B : Nat} {w0 : World} {f : Inj} {H : Heap} {w : World}

theorem pushDs_sound (h : StRel P B w0 f H w) : ∃ f', StRel P B w0 f' H.pushDs { w with heap := w.heap.push (.deferred (some [])) } ∧ f.le f' ∧ f'.d H.nd = some w.heap.size ∧ f'.l = f.l := by
  have hnone := (h.freshD H.nd (Nat.le_refl _)).2
  have hle : f.le { f with d := fset f.d H.nd (some w.heap.size) } := ⟨fun _ _ h => h, fun _ _ h => h, fun _ _ h => h, fun b x hx => by
    have : b ≠ H.nd := fun e => by subst e; rw [hnone] at hx; cases hx
    simpa [fset, this] using hx⟩
  have s1 := h.grow (w' := { w with heap := w.heap.push (.deferred (some [])) }) ⟨rfl, rfl, rfl⟩ _ rfl
  refine ⟨{ f with d := fset f.d H.nd (some w.heap.size) }, ?_, hle, by simp [fset], rfl⟩
  refine { below := s1.below, base := s1.base, cells := ?_, sep := s1.sep, freshC := s1.freshC, its := s1.its, itsep := s1.itsep, freshI := s1.freshI, lps := ?_, lpsep := s1.lpsep, freshL := s1.freshL, ds := ?_, dsep := ?_, freshD := ?_, inC := s1.inC, inI := s1.inI, inL := s1.inL, inD := ?_, globs := s1.globs }
  · intro b ob hb
    obtain ⟨ci, arr, fr, e, hc, ho⟩ := s1.cells b ob hb
    exact ⟨ci, arr, fr, e, hc, ho.keep hle rfl⟩
  · intro l r hl
    obtain ⟨g, tm, gd, h1, h2, h3, h4, h5, h6⟩ := s1.lps l r hl
    exact ⟨g, tm, gd, h1, h2, hle.d _ _ h3, h4, fun j => (h5 j).mono hle, h6⟩
  · intro j hj
    by_cases hne : j = H.nd
    · subst hne
      exact ⟨w.heap.size, by simp [fset], h.baseLe, by simp⟩
    · obtain ⟨g, hg, hb, hh⟩ := s1.ds j (by simpa [Heap.pushDs, fset, hne] using hj)
      exact ⟨g, by simpa [fset, hne] using hg, hb, hh⟩
  · intro i j g hi hj
    by_cases h1 : i = H.nd
    · by_cases h2 : j = H.nd
      · rw [h1, h2]
      · simp [fset, h1] at hi
        have hj' : f.d j = some g := by simpa [fset, h2] using hj
        have := h.inD j g hj'
        omega
    · have hi' : f.d i = some g := by simpa [fset, h1] using hi
      by_cases h2 : j = H.nd
      · simp [fset, h2] at hj
        have := h.inD i g hi'
        omega
      · exact h.dsep i j g hi' (by simpa [fset, h2] using hj)
  · intro b hb
    have hb' : H.nd + 1 ≤ b := hb
    have hne : b ≠ H.nd := by omega
    have := h.freshD b (by omega)
    exact ⟨by simpa [Heap.pushDs, fset, hne] using this.1, by simpa [fset, hne] using this.2⟩
  · intro b x hx
    by_cases hne : b = H.nd
    · simp [fset, hne] at hx
      subst hx
      simp
    · exact s1.inD b x (by simpa [fset, hne] using hx)

theorem pushLp_sound (h : StRel P B w0 f H w) (r : LoopRec) (tm : Array Value) (gd : Nat) (fn : FuncId) (hd : f.d r.dfr = some gd) (hn : tm.size = r.n) (ht : ∀ j, VRel f (r.t j) (tm.getD j Go.undef)) :
    ∃ f', StRel P B w0 f' (H.pushLp r) { w with heap := w.heap.push (.loop { state := r.st, pending := r.pend, fn := fn, tmps := tm, params := r.params, assign := r.assign, body := r.body, defers := gd }) } ∧ f.le f' ∧ f'.l H.nl = some w.heap.size := by
  have hnone := (h.freshL H.nl (Nat.le_refl _)).2
  have hle : f.le { f with l := fset f.l H.nl (some w.heap.size) } := ⟨fun _ _ h => h, fun _ _ h => h, fun b x hx => by
    have : b ≠ H.nl := fun e => by subst e; rw [hnone] at hx; cases hx
    simpa [fset, this] using hx, fun _ _ h => h⟩
  have s1 := h.grow (w' := { w with heap := w.heap.push (.loop { state := r.st, pending := r.pend, fn := fn, tmps := tm, params := r.params, assign := r.assign, body := r.body, defers := gd }) }) ⟨rfl, rfl, rfl⟩ _ rfl
  refine ⟨{ f with l := fset f.l H.nl (some w.heap.size) }, ?_, hle, by simp [fset]⟩
  refine { below := s1.below, base := s1.base, cells := ?_, sep := s1.sep, freshC := s1.freshC, its := s1.its, itsep := s1.itsep, freshI := s1.freshI, lps := ?_, lpsep := ?_, freshL := ?_, ds := s1.ds, dsep := s1.dsep, freshD := s1.freshD, inC := s1.inC, inI := s1.inI, inL := ?_, inD := s1.inD, globs := s1.globs }
  · intro b ob hb
    obtain ⟨ci, arr, fr, e, hc, ho⟩ := s1.cells b ob hb
    exact ⟨ci, arr, fr, e, hc, ho.keep hle rfl⟩
  · intro l q hl
    by_cases hne : l = H.nl
    · subst hne
      simp [Heap.pushLp, fset] at hl
      subst hl
      exact ⟨w.heap.size, tm, gd, by simp [fset], h.baseLe, hd, hn, fun j => (ht j).mono hle, fn, by simp⟩
    · obtain ⟨g, tm, gd, h1, h2, h3, h4, h5, h6⟩ := s1.lps l q (by simpa [Heap.pushLp, fset, hne] using hl)
      exact ⟨g, tm, gd, by simpa [fset, hne] using h1, h2, h3, h4, fun j => (h5 j).mono hle, h6⟩
  · intro i j g hi hj
    by_cases h1 : i = H.nl
    · by_cases h2 : j = H.nl
      · rw [h1, h2]
      · simp [fset, h1] at hi
        have hj' : f.l j = some g := by simpa [fset, h2] using hj
        have := h.inL j g hj'
        omega
    · have hi' : f.l i = some g := by simpa [fset, h1] using hi
      by_cases h2 : j = H.nl
      · simp [fset, h2] at hj
        have := h.inL i g hi'
        omega
      · exact h.lpsep i j g hi' (by simpa [fset, h2] using hj)
  · intro b hb
    have hb' : H.nl + 1 ≤ b := hb
    have hne : b ≠ H.nl := by omega
    have := h.freshL b (by omega)
    exact ⟨by simpa [Heap.pushLp, fset, hne] using this.1, by simpa [fset, hne] using this.2⟩
  · intro b x hx
    by_cases hne : b = H.nl
    · simp [fset, hne] at hx
      subst hx
      simp
    · exact s1.inL b x (by simpa [fset, hne] using hx)

theorem putLp_sound (h : StRel P B w0 f H w) {l : Nat} {r : LoopRec} (hl : H.lps l = some r) {g : Nat} (hg : f.l l = some g) (st : LoopState) (pend : Option Code) :
    ∃ tm gd fn, w.heap[g]? = some (.loop { state := r.st, pending := r.pend, fn := fn, tmps := tm, params := r.params, assign := r.assign, body := r.body, defers := gd }) ∧ f.d r.dfr = some gd ∧ tm.size = r.n ∧ (∀ j, VRel f (r.t j) (tm.getD j Go.undef)) ∧
      StRel P B w0 f (H.putLp l { r with st := st, pend := pend }) { w with heap := w.heap.setIfInBounds g (.loop { state := st, pending := pend, fn := fn, tmps := tm, params := r.params, assign := r.assign, body := r.body, defers := gd }) } := by
  obtain ⟨g', tm, gd, hg', hB, hd, hn, ht, fn, hh⟩ := h.lps l r hl
  rw [hg] at hg'; cases hg'
  refine ⟨tm, gd, fn, hh, hd, hn, ht, ?_⟩
  have s0 : StRel P B w0 f { H with lps := fset H.lps l none } w := { h with
    lps := fun j q hj => by
      have hne : j ≠ l := fun e => by subst e; simp [fset] at hj
      exact h.lps j q (by simpa [fset, hne] using hj)
    freshL := fun b hb => ⟨by
      by_cases e : b = l
      · subst e; simp [fset]
      · simpa [fset, e] using (h.freshL b hb).1, (h.freshL b hb).2⟩ }
  have s1 := s0.setObj (o' := .loop { state := st, pending := pend, fn := fn, tmps := tm, params := r.params, assign := r.assign, body := r.body, defers := gd }) hB hh (by simp)
    (fun i s p hi e => by
      obtain ⟨g2, h1, _, h2⟩ := h.its i s p hi
      rw [e] at h1; cases h1
      rw [hh] at h2; cases h2)
    (fun j q hj e => by
      have hne : j ≠ l := fun e => by subst e; simp [fset] at hj
      exact hne (h.lpsep j l g e hg))
    (fun j hj e => by
      obtain ⟨g2, h1, _, h2⟩ := h.ds j hj
      rw [e] at h1; cases h1
      rw [hh] at h2; cases h2)
  refine { s1 with lps := ?_, freshL := ?_ }
  · intro j q hj
    by_cases hne : j = l
    · subst hne
      simp [Heap.putLp, fset] at hj
      subst hj
      refine ⟨g, tm, gd, hg, hB, hd, hn, ht, fn, ?_⟩
      have := (Array.getElem?_eq_some_iff.1 hh).1
      show (w.heap.setIfInBounds g _)[g]? = _
      rw [Array.getElem?_setIfInBounds, if_pos rfl, if_pos this]
    · exact s1.lps j q (by simpa [Heap.putLp, fset, hne] using hj)
  · intro b hb
    refine ⟨?_, (h.freshL b hb).2⟩
    have : b ≠ l := fun e => by subst e; rw [(h.freshL b hb).1] at hl; cases hl
    simpa [Heap.putLp, fset, this] using (h.freshL b hb).1

theorem dropDs_sound (h : StRel P B w0 f H w) {j : Nat} (hj : H.ds j = true) {g : Nat} (hg : f.d j = some g) :
    (Instr.takeDeferred g).run P w = .ok [] { w with heap := w.heap.setIfInBounds g (.deferred none) } ∧ StRel P B w0 f (H.dropDs j) { w with heap := w.heap.setIfInBounds g (.deferred none) } := by
  obtain ⟨g', hg', hB, hh⟩ := h.ds j hj
  rw [hg] at hg'; cases hg'
  refine ⟨?_, ?_⟩
  · simp [Instr.takeDeferred, getObj, setObj, Sem.run, hh]
  · have s0 : StRel P B w0 f (H.dropDs j) w := { h with
      ds := fun i hi => by
        have hne : i ≠ j := fun e => by subst e; simp [Heap.dropDs, fset] at hi
        exact h.ds i (by simpa [Heap.dropDs, fset, hne] using hi)
      freshD := fun b hb => ⟨by
        by_cases e : b = j
        · subst e; simp [Heap.dropDs, fset]
        · simpa [Heap.dropDs, fset, e] using (h.freshD b hb).1, (h.freshD b hb).2⟩ }
    exact s0.setObj (o' := .deferred none) hB hh (by simp)
      (fun i s p hi e => by
        obtain ⟨g2, h1, _, h2⟩ := h.its i s p hi
        rw [e] at h1; cases h1
        rw [hh] at h2; cases h2)
      (fun l r hl e => by
        obtain ⟨g2, tm, gd, h1, _, _, _, _, _, h2⟩ := h.lps l r hl
        rw [e] at h1; cases h1
        rw [hh] at h2; cases h2)
      (fun i hi e => by
        have hne : i ≠ j := fun e => by subst e; simp [Heap.dropDs, fset] at hi
        exact hne (h.dsep i j g e hg))

end
end Go.Cm
