/- What a call made for itself may be forgotten. -/
import Derived.Test.YtgalmibnlkbdiaaGreatDoorCmScope
set_option linter.unusedVariables false
set_option linter.unusedSimpArgs false
namespace Go.Cm
open Go Go.RowKit

mutual
def V.flat : V → Bool
  | .ptr _ _ => false
  | .slice .. => false
  | .it _ => false
  | .fn (.func _) fi ca => V.flatL fi && V.flatL ca
  | .fn _ _ _ => false
  | .iface _ v => v.flat
  | .agg l => V.flatL l
  | .tuple l => V.flatL l
  | _ => true
def V.flatL : List V → Bool
  | [] => true
  | v :: l => v.flat && V.flatL l
end

theorem flatL_iff : ∀ {l : List V}, V.flatL l = true ↔ ∀ v ∈ l, v.flat = true
  | [] => by simp [V.flatL]
  | v :: l => by simp [V.flatL, flatL_iff (l := l)]

theorem flatL_at {l : List V} (h : V.flatL l = true) {i : Nat} {x : V} (hx : l[i]? = some x) : x.flat = true := flatL_iff.1 h x (List.mem_of_getElem? hx)

theorem VRel.flat {f f' : Inj} {v : V} {w : Value} (h : VRel f v w) : v.flat = true → VRel f' v w := by
  induction h with
  | undef v => exact fun _ => .undef v
  | junk v h => exact fun _ => .junk v h
  | bool b => exact fun _ => .bool b
  | int k n => exact fun _ => .int k n
  | str s => exact fun _ => .str s
  | nilptr => exact fun _ => .nilptr
  | nilslice => exact fun _ => .nilslice
  | nilfn => exact fun _ => .nilfn
  | nilif => exact fun _ => .nilif
  | ptr b o ci h => intro hf; simp [V.flat] at hf
  | slice => intro hf; simp [V.flat] at hf
  | yield => intro hf; simp [V.flat] at hf
  | it => intro hf; simp [V.flat] at hf
  | fn g fi ca fi' ca' h1 h2 h3 h4 ih1 ih2 =>
    intro hf
    simp only [V.flat, Bool.and_eq_true] at hf
    exact .fn g fi ca fi' ca' h1 (fun i x y hx hy => ih1 i x y hx hy (flatL_at hf.1 hx)) h3 (fun i x y hx hy => ih2 i x y hx hy (flatL_at hf.2 hx))
  | iface t v w h ih => intro hf; exact .iface t v w (ih hf)
  | agg cs cs' h1 h2 ih => intro hf; exact .agg cs cs' h1 (fun i x y hx hy => ih i x y hx hy (flatL_at hf hx))
  | tuple cs cs' h1 h2 ih => intro hf; exact .tuple cs cs' h1 (fun i x y hx hy => ih i x y hx hy (flatL_at hf hx))

theorem LRel.flat {f f' : Inj} {l : List V} {m : List Value} (h : LRel f l m) (hf : V.flatL l = true) : LRel f' l m :=
  ⟨h.len, fun i x y hx hy => (h.at_ i x y hx hy).flat (flatL_at hf hx)⟩

/-- What is known before knows what it knows later, if it is the same. -/
theorem VRel.back {f f1 : Inj} (hle : f.le f1) {v : V} {w : Value} (h : VRel f1 v w) : ∀ {w0 : Value}, VRel f v w0 → VRel f v w := by
  induction h with
  | undef v => exact fun _ => .undef v
  | junk v h => exact fun _ => .junk v h
  | bool b => exact fun _ => .bool b
  | int k n => exact fun _ => .int k n
  | str s => exact fun _ => .str s
  | nilptr => exact fun _ => .nilptr
  | nilslice => exact fun _ => .nilslice
  | nilfn => exact fun _ => .nilfn
  | nilif => exact fun _ => .nilif
  | ptr b o ci h =>
    intro w0 h0
    obtain ⟨ci0, hc, _⟩ := h0.ptr_inv
    have := hle.c _ _ hc
    rw [h] at this
    cases this
    exact .ptr b o ci hc
  | slice b o n c ex ci a c' h ha hc he hn hl =>
    intro w0 h0
    obtain ⟨ci0, a0, c0, hc0, _⟩ := h0.slice_inv
    have := hle.c _ _ hc0
    rw [h] at this
    cases this
    exact .slice b o n c ex ci a c' hc0 ha hc he hn hl
  | yield l l' h =>
    intro w0 h0
    obtain ⟨l0, hl0, _⟩ := h0.yield_inv
    have := hle.l _ _ hl0
    rw [h] at this
    cases this
    exact .yield l l' hl0
  | it i g h =>
    intro w0 h0
    cases h0 with
    | it _ g0 hg0 =>
      have := hle.i _ _ hg0
      rw [h] at this
      cases this
      exact .it i g hg0
  | fn g fi ca fi' ca' h1 h2 h3 h4 ih1 ih2 =>
    intro w0 h0
    obtain ⟨fi0, ca0, _, r1, r2⟩ := h0.fn_inv
    refine .fn g fi ca fi' ca' h1 (fun i x y hx hy => ?_) h3 (fun i x y hx hy => ?_)
    · have hlt : i < fi.length := (List.getElem?_eq_some_iff.1 hx).1
      exact ih1 i x y hx hy (r1.at_ i x _ hx (List.getElem?_eq_getElem (by rw [← r1.len]; exact hlt)))
    · have hlt : i < ca.length := (List.getElem?_eq_some_iff.1 hx).1
      exact ih2 i x y hx hy (r2.at_ i x _ hx (List.getElem?_eq_getElem (by rw [← r2.len]; exact hlt)))
  | iface t v w h ih =>
    intro w0 h0
    obtain ⟨u, _, hu⟩ := h0.iface_inv
    exact .iface t v w (ih hu)
  | agg cs cs' h1 h2 ih =>
    intro w0 h0
    cases h0 with
    | agg _ cs0 k1 k2 =>
      refine .agg cs cs' h1 (fun i x y hx hy => ?_)
      have hlt : i < cs.length := (List.getElem?_eq_some_iff.1 hx).1
      exact ih i x y hx hy (k2 i x _ hx (List.getElem?_eq_getElem (by rw [← k1]; exact hlt)))
  | tuple cs cs' h1 h2 ih =>
    intro w0 h0
    cases h0 with
    | tuple _ cs0 k1 k2 =>
      refine .tuple cs cs' h1 (fun i x y hx hy => ?_)
      have hlt : i < cs.length := (List.getElem?_eq_some_iff.1 hx).1
      exact ih i x y hx hy (k2 i x _ hx (List.getElem?_eq_getElem (by rw [← k1]; exact hlt)))

theorem LRel.back {f f1 : Inj} (hle : f.le f1) {l : List V} {m m0 : List Value} (h : LRel f1 l m) (h0 : LRel f l m0) : LRel f l m := by
  refine ⟨h.len, fun i x y hx hy => ?_⟩
  have hlt : i < l.length := (List.getElem?_eq_some_iff.1 hx).1
  exact (h.at_ i x y hx hy).back hle (h0.at_ i x _ hx (List.getElem?_eq_getElem (by rw [← h0.len]; exact hlt)))

/-- All that was is as it was. -/
structure Agree (H H1 : Heap) : Prop where
  cs : ∀ b ob, H.cs b = some ob → H1.cs b = some ob
  its : ∀ i x, H.its i = some x → H1.its i = some x
  lps : ∀ l r, H.lps l = some r → H1.lps l = some r
  ds : ∀ j, H.ds j = true → H1.ds j = true

theorem Agree.refl (H : Heap) : Agree H H := ⟨fun _ _ h => h, fun _ _ h => h, fun _ _ h => h, fun _ h => h⟩
theorem Agree.trans {a b c : Heap} (h : Agree a b) (k : Agree b c) : Agree a c :=
  ⟨fun b ob x => k.cs b ob (h.cs b ob x), fun i x y => k.its i x (h.its i x y), fun l r x => k.lps l r (h.lps l r x), fun j x => k.ds j (h.ds j x)⟩

section
variable {P : Program}

theorem StRel.back {B : Nat} {w0 : World} {f f1 : Inj} {H H1 : Heap} {w w1 : World} (h : StRel P B w0 f H w) (h1 : StRel P B w0 f1 H1 w1) (hle : f.le f1) (ha : Agree H H1) : StRel P B w0 f H w1 where
  below := h1.below
  base := h.base
  cells := fun b ob hb => by
    obtain ⟨ci0, arr0, fr0, e0, hc0, ho0⟩ := h.cells b ob hb
    obtain ⟨ci, arr, fr, e, hc, ho⟩ := h1.cells b ob (ha.cs b ob hb)
    have := hle.c _ _ hc0
    rw [hc] at this
    cases this
    exact ⟨ci0, arr, fr, e, hc0, ho.heap, ho.lim, ho.fits, ho.rel.back hle ho0.rel, ho.ty, ho.own, ho.arg, ho.isc, ho.frle, ho.whole⟩
  sep := h.sep
  freshC := h.freshC
  its := fun i s pos hi => by
    obtain ⟨g0, hg0, _⟩ := h.its i s pos hi
    obtain ⟨g, hg, hB, hh⟩ := h1.its i s pos (ha.its i _ hi)
    have := hle.i _ _ hg0
    rw [hg] at this
    cases this
    exact ⟨g0, hg0, hB, hh⟩
  itsep := h.itsep
  freshI := h.freshI
  lps := fun l r hl => by
    obtain ⟨g0, tm0, gd0, hg0, _, hd0, hs0, ht0, _⟩ := h.lps l r hl
    obtain ⟨g, tm, gd, hg, hB, hd, hs, ht, fn, hh⟩ := h1.lps l r (ha.lps l r hl)
    have := hle.l _ _ hg0
    rw [hg] at this
    cases this
    have := hle.d _ _ hd0
    rw [hd] at this
    cases this
    exact ⟨g0, tm, gd0, hg0, hB, hd0, hs, fun j => (ht j).back hle (ht0 j), fn, hh⟩
  lpsep := h.lpsep
  freshL := h.freshL
  ds := fun j hj => by
    obtain ⟨g0, hg0, _⟩ := h.ds j hj
    obtain ⟨g, hg, hB, hh⟩ := h1.ds j (ha.ds j hj)
    have := hle.d _ _ hg0
    rw [hg] at this
    cases this
    exact ⟨g0, hg0, hB, hh⟩
  dsep := h.dsep
  freshD := h.freshD
  inC := fun b x hx => h1.inC b x (hle.c _ _ hx)
  inI := fun b x hx => h1.inI b x (hle.i _ _ hx)
  inL := fun b x hx => h1.inL b x (hle.l _ _ hx)
  inD := fun b x hx => h1.inD b x (hle.d _ _ hx)
  globs := h.globs

/-- FORGETTING: a call whose answer is flat and that leaves all that was as it was. -/
theorem callS_gc {g : FuncId} {args : List V} {H : Heap} {K K' : V → Heap → Prop} (h : CallS P g args H K) (hk : ∀ v H1, K v H1 → (v.flat = true ∧ Agree H H1 ∧ K' v H) ∨ K' v H1) : CallS P g args H K' := by
  intro B w0 f w av kind cs hst has hno
  obtain ⟨v, H1, f1, v1, w1, fr1, k1, hle, s1, hv1, rest⟩ := h B w0 f w av kind cs hst has hno
  rcases hk v H1 k1 with ⟨hf, ha, hk'⟩ | hk'
  · exact ⟨v, H, f, v1, w1, fr1, hk', .refl f, hst.back s1 hle ha, hv1.flat hf, rest⟩
  · exact ⟨v, H1, f1, v1, w1, fr1, hk', hle, s1, hv1, rest⟩

/-- What lies beyond the end is nothing. -/
theorem callS_fresh {g : FuncId} {args : List V} {H : Heap} {K : V → Heap → Prop} (h : (∀ b, H.nc ≤ b → H.cs b = none) → (∀ b, H.ni ≤ b → H.its b = none) → (∀ b, H.nl ≤ b → H.lps b = none) → (∀ b, H.nd ≤ b → H.ds b = false) → CallS P g args H K) : CallS P g args H K :=
  fun B w0 f w av kind cs hst has hno => h (fun b hb => (hst.freshC b hb).1) (fun b hb => (hst.freshI b hb).1) (fun b hb => (hst.freshL b hb).1) (fun b hb => (hst.freshD b hb).1) B w0 f w av kind cs hst has hno

end
end Go.Cm
