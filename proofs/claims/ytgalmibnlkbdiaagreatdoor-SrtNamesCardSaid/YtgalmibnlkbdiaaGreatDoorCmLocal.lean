/- What a call leaves alone. -/
import Derived.Test.YtgalmibnlkbdiaaGreatDoorCmGc
set_option linter.unusedVariables false
set_option linter.unusedSimpArgs false
namespace Go.Cm
open Go Go.RowKit

section
variable {P : Program}

theorem StRel.ofBelow {B : Nat} {w0 : World} {f : Inj} {H : Heap} {w w' : World} (h : StRel P B w0 f H w) (hb : Below w.heap.size w w') : StRel P B w0 f H w' := by
  have hB : B ≤ w.heap.size := h.baseLe
  refine h.world ⟨hb.os, hb.tape, hb.output⟩ hb.size (fun k hk => hb.block k (by omega)) (fun b ob ci _ hc => hb.block _ (h.inC b ci hc)) (fun i s pos g _ hg => hb.block _ (h.inI i g hg)) (fun l r g _ hg => hb.block _ (h.inL l g hg)) (fun j g _ hg => hb.block _ (h.inD j g hg))

/-- A heap of blocks that are read alone. -/
structure Base (P : Program) (H0 : Heap) : Prop where
  glob : P.globals.size ≤ H0.nc
  fresh : ∀ b, H0.nc ≤ b → H0.cs b = none
  arg : ∀ b ob, H0.cs b = some ob → ob.k = .arg ∧ V.flatL ob.l = true
  part : ∀ b ob, H0.cs b = some ob → ob.w = false
  its : ∀ i, H0.its i = none
  lps : ∀ i, H0.lps i = none
  ds : ∀ i, H0.ds i = false

def Sub (H0 H : Heap) : Prop := H0.nc ≤ H.nc ∧ ∀ b ob, H0.cs b = some ob → ∃ ob', H.cs b = some ob' ∧ ob'.l = ob.l

/-- What is shown of a call over a few blocks that are read holds over any heap that has them. -/
theorem callS_base {g : FuncId} {args : List V} {H0 H : Heap} (hb : Base P H0) (hs : Sub H0 H) (hargs : V.flatL args = true) {K : V → Heap → Prop} (h : CallS P g args H0 K) (hK : ∀ v H1, K v H1 → v.flat = true) :
    CallS P g args H (fun v H' => H' = H ∧ ∃ H1, K v H1) := by
  intro B w0 f w av kind cs hst has hno
  let f0 : Inj := ⟨fun b => if b < H0.nc then f.c b else none, fun _ => none, fun _ => none, fun _ => none⟩
  have hst0 : StRel P w.heap.size w f0 H0 w := by
    refine { below := .refl _ _, base := Nat.le_refl _, cells := ?_, sep := ?_, freshC := ?_, its := ?_, itsep := ?_, freshI := ?_, lps := ?_, lpsep := ?_, freshL := ?_, ds := ?_, dsep := ?_, freshD := ?_, inC := ?_, inI := ?_, inL := ?_, inD := ?_, globs := ?_ }
    · intro b ob hob
      obtain ⟨ob', hob', hl⟩ := hs.2 b ob hob
      obtain ⟨ci, arr, fr, e, hc, ho⟩ := hst.cells b ob' hob'
      have hlt : b < H0.nc := by
        rcases Nat.lt_or_ge b H0.nc with h | h
        · exact h
        · rw [hb.fresh b h] at hob; cases hob
      obtain ⟨hk, hfl⟩ := hb.arg b ob hob
      refine ⟨ci, arr, fr, e, by simp only [f0, hlt, if_true]; exact hc, ho.heap, ho.lim, by rw [← hl]; exact ho.fits, ?_, fun h => absurd hk h, fun h => absurd (hk.symm.trans h) (by simp), fun _ => hst.inC b ci hc, by rw [← hl]; exact ho.isc, fun h => absurd hk h, fun h => absurd ((hb.part b ob hob).symm.trans h) (by simp)⟩
      have := ho.rel
      rw [hl] at this
      exact this.flat hfl
    · intro b b' ob ob' ci ci' h1 _ _ _ hk
      exact absurd (hb.arg b ob h1).1 hk
    · intro b hbn
      exact ⟨hb.fresh b hbn, by simp only [f0]; rw [if_neg (by omega)]⟩
    · intro i s pos hi; rw [hb.its i] at hi; cases hi
    · intro i j g hi; cases hi
    · intro i _; exact ⟨hb.its i, rfl⟩
    · intro i s hi; rw [hb.lps i] at hi; cases hi
    · intro i j g hi; cases hi
    · intro i _; exact ⟨hb.lps i, rfl⟩
    · intro i hi; rw [hb.ds i] at hi; cases hi
    · intro i j g hi; cases hi
    · intro i _; exact ⟨hb.ds i, rfl⟩
    · intro b x hx
      simp only [f0] at hx
      split at hx
      · exact hst.inC b x hx
      · cases hx
    · intro b x hx; cases hx
    · intro b x hx; cases hx
    · intro b x hx; cases hx
    · intro g hg
      obtain ⟨ci, h1, h2, h3⟩ := hst.globs g hg
      have : g < H0.nc := Nat.lt_of_lt_of_le hg hb.glob
      exact ⟨ci, by simp only [f0, this, if_true]; exact h1, h2, h3⟩
  obtain ⟨v, H1, f1, v1, w1, fr1, k1, hle, s1, hv1, st, rest⟩ := h w.heap.size w f0 w av kind cs hst0 (has.flat hargs) hno
  exact ⟨v, H, f, v1, w1, fr1, ⟨rfl, H1, k1⟩, .refl f, hst.ofBelow s1.below, hv1.flat (hK v H1 k1), st, rest⟩

end
end Go.Cm
