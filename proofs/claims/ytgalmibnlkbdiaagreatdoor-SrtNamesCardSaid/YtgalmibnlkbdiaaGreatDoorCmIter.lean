/- Iterators, and loops over them. -/
import Derived.Test.YtgalmibnlkbdiaaGreatDoorCmPure
set_option linter.unusedVariables false
set_option linter.unusedSimpArgs false
namespace Go.Cm
open Go Go.RowKit

/-- The second heap has all of the first one, as it was. -/
structure Ext (Hc Hp : Heap) : Prop where
  nc : Hc.nc ≤ Hp.nc
  ni : Hc.ni ≤ Hp.ni
  nl : Hc.nl ≤ Hp.nl
  nd : Hc.nd ≤ Hp.nd
  cs : ∀ b, b < Hc.nc → Hp.cs b = Hc.cs b
  its : ∀ b, b < Hc.ni → Hp.its b = Hc.its b
  lps : ∀ b, b < Hc.nl → Hp.lps b = Hc.lps b
  ds : ∀ b, b < Hc.nd → Hp.ds b = Hc.ds b

theorem Ext.refl (H : Heap) : Ext H H := ⟨Nat.le_refl _, Nat.le_refl _, Nat.le_refl _, Nat.le_refl _, fun _ _ => rfl, fun _ _ => rfl, fun _ _ => rfl, fun _ _ => rfl⟩
theorem Ext.trans {a b c : Heap} (h : Ext a b) (k : Ext b c) : Ext a c :=
  ⟨Nat.le_trans h.nc k.nc, Nat.le_trans h.ni k.ni, Nat.le_trans h.nl k.nl, Nat.le_trans h.nd k.nd,
   fun x hx => (k.cs x (Nat.lt_of_lt_of_le hx h.nc)).trans (h.cs x hx), fun x hx => (k.its x (Nat.lt_of_lt_of_le hx h.ni)).trans (h.its x hx),
   fun x hx => (k.lps x (Nat.lt_of_lt_of_le hx h.nl)).trans (h.lps x hx), fun x hx => (k.ds x (Nat.lt_of_lt_of_le hx h.nd)).trans (h.ds x hx)⟩
theorem Ext.hh (H : Heap) {nw : List (Option Obj)} {it : List (Option (List UInt8 × Nat))} {kd : List Bool} : Ext H (HH H ⟨[], nw, it, kd⟩) :=
  ⟨Nat.le_add_right _ _, Nat.le_add_right _ _, Nat.le_refl _, Nat.le_add_right _ _, fun b hb => by simp only [HH, hb, if_true, lkp], fun b hb => by simp only [HH, hb, if_true], fun _ _ => rfl, fun b hb => by simp only [HH, hb, if_true]⟩

/-- What a user of a list of items holds: R of the round's number, of the numbers in use, of what it has changed of the old and what it has made; S the same, where it leaves. -/
structure Rounds (Hc : Heap) (cap : List Nat) (R : Nat → Nat → List (Nat × Option Obj) → List (Option Obj) → Prop) (S : X → Nat → Nat → List (Nat × Option Obj) → List (Option Obj) → Prop) (tw : X → Heap → Heap) : Prop where
  r0 : ∀ nc, R 0 nc [] []
  rk : ∀ i nc ov g, R i nc ov g → ∀ b, Hc.nc ≤ b → lkp ov b = none
  rg : ∀ i nc ov g o, R i nc ov g → R i nc ov (g ++ [o])
  rc : ∀ i nc ov g, R i nc ov g → ∀ b ∈ cap, lkp ov b = none
  sk : ∀ x i nc ov g, S x i nc ov g → ∀ b, Hc.nc ≤ b → lkp ov b = none
  sg : ∀ x i nc ov g o, S x i nc ov g → S x i nc ov (g ++ [o])
  tq : ∀ x Hp, (tw x Hp).cs = Hp.cs ∧ (tw x Hp).nc = Hp.nc ∧ (tw x Hp).its = Hp.its ∧ (tw x Hp).ni = Hp.ni ∧ (tw x Hp).ds = Hp.ds ∧ (tw x Hp).nd = Hp.nd ∧ (tw x Hp).nl = Hp.nl ∧ ∀ l, Hc.nl ≤ l → (tw x Hp).lps l = Hp.lps l
  tl : ∀ x Hp l, l < Hc.nl → Ext Hc Hp → (tw x Hp).lps l = (tw x Hc).lps l

/-- A function value that hands each of a list's items to what it is called with, until that says no. -/
def IterOK (P : Program) (fv : V) (items : List (List V)) (cap : List Nat) (Hc : Heap) : Prop :=
  ∀ (y : V) (R : Nat → Nat → List (Nat × Option Obj) → List (Option Obj) → Prop) (S : X → Nat → Nat → List (Nat × Option Obj) → List (Option Obj) → Prop) (tw : X → Heap → Heap), Rounds Hc cap R S tw →
    (∀ (i : Nat) x, items[i]? = some x → ∀ Hp ov g, Ext Hc Hp → R i Hp.nc ov g → InvS P y x (HH Hp ⟨ov, g, [], []⟩) (fun v H' =>
      (v = .bool true ∧ ∃ ov' g', R (i + 1) Hp.nc ov' g' ∧ H' = HH Hp ⟨ov', g', [], []⟩) ∨
      (v = .bool false ∧ ∃ z ov' g', S z i Hp.nc ov' g' ∧ H' = HH (tw z Hp) ⟨ov', g', [], []⟩))) →
    InvS P fv [y] Hc (fun _ H' =>
      (∃ Hp ov g, Ext Hc Hp ∧ R items.length Hp.nc ov g ∧ H' = HH Hp ⟨ov, g, [], []⟩) ∨
      (∃ z i Hp ov g, i < items.length ∧ Ext (tw z Hc) Hp ∧ S z i Hp.nc ov g ∧ H' = HH Hp ⟨ov, g, [], []⟩))

section
variable {P : Program}

theorem HH_nil_of {H : Heap} (h1 : ∀ b, ¬ b < H.nc → H.cs b = none) (h2 : ∀ b, ¬ b < H.ni → H.its b = none) (h3 : ∀ b, ¬ b < H.nd → H.ds b = false) : HH H ⟨[], [], [], []⟩ = H := by
  obtain ⟨cs, nc, its, ni, lps, nl, ds, nd⟩ := H
  simp only at h1 h2 h3
  simp only [HH, List.length_nil, Nat.add_zero, Heap.mk.injEq, true_and, and_true]
  refine ⟨?_, ?_, ?_⟩
  · funext b
    split
    · rfl
    · rename_i h
      rw [h1 b h]; simp
  · funext b
    split
    · rfl
    · rename_i h
      rw [h2 b h]; simp
  · funext b
    split
    · rfl
    · rename_i h
      rw [h3 b h]; simp
theorem HH_HH_nil {H : Heap} {x : XH} : HH (HH H x) ⟨[], [], [], []⟩ = HH H x := by
  refine HH_nil_of (fun b h => ?_) (fun b h => ?_) (fun b h => ?_)
  · have h' : ¬ b < H.nc + x.nw.length := h
    show (if b < H.nc then _ else _) = _
    rw [if_neg (by omega), List.getElem?_eq_none (by omega)]; rfl
  · have h' : ¬ b < H.ni + x.it.length := h
    show (if b < H.ni then _ else _) = _
    rw [if_neg (by omega), List.getElem?_eq_none (by omega)]; rfl
  · have h' : ¬ b < H.nd + x.kd.length := h
    show (if b < H.nd then _ else _) = _
    rw [if_neg (by omega), List.getElem?_eq_none (by omega)]; rfl
theorem HH_putIt_old {H : Heap} {x : XH} {i : Nat} {s : List UInt8} {p : Nat} (h : i < H.ni) : (HH H x).putIt i s p = HH (H.putIt i s p) x := by
  simp only [Heap.putIt, HH, Heap.mk.injEq, true_and, and_true]
  refine ⟨rfl, ?_, rfl⟩
  funext c
  simp only [fset]
  by_cases hc : c = i
  · subst hc; simp [h]
  · simp [hc]
theorem HH_its_old {H : Heap} {x : XH} {i : Nat} (h : i < H.ni) : (HH H x).its i = H.its i := by simp only [HH, h, if_true]
theorem HH_putLp {H : Heap} {x : XH} {l : Nat} {r : LoopRec} : (HH H x).putLp l r = HH (H.putLp l r) x := by rfl
theorem HH_pushLp {H : Heap} {x : XH} {r : LoopRec} : (HH H x).pushLp r = HH (H.pushLp r) x := by rfl
theorem HH_ovBase {H : Heap} {b : Nat} {o : Option Obj} {ov : List (Nat × Option Obj)} {nw : List (Option Obj)} {it : List (Option (List UInt8 × Nat))} {kd : List Bool} (h : b < H.nc) (hk : lkp ov b = none) : HH (H.put b o) ⟨ov, nw, it, kd⟩ = HH H ⟨(b, o) :: ov, nw, it, kd⟩ := by
  simp only [Heap.put, HH, Heap.mk.injEq, true_and, and_true]
  refine ⟨?_, rfl, rfl⟩
  funext c
  simp only [lkp, fset]
  by_cases hc : c = b
  · subst hc; simp [h, hk]
  · simp [hc]

/-- What is known of a heap as a whole, said anew over the heap at the frame's begin. -/
theorem canonG {H : Heap} (hk : H.OK P) {H1 : Heap} {y : XH} (ks : List Nat) (hnd : ks.Nodup) (hge : ∀ k ∈ ks, H.nc ≤ k) (hlen : ks.length = y.nw.length)
    (hold : ∀ b, b < H.nc → lkp y.ov b = none → H1.cs b = H.cs b)
    (hov : ∀ b o', b < H.nc → lkp y.ov b = some (some o') → ∃ o, H1.cs b = some o ∧ ObUp (HH H y).marks (fun b => if b < H.nc then b else (ks[b - H.nc]?).getD b) o' o)
    (hnw : ∀ (i : Nat) o', y.nw[i]? = some (some o') → ∃ (k : Nat) (o : Obj), ks[i]? = some k ∧ H1.cs k = some o ∧ ObUp (HH H y).marks (fun b => if b < H.nc then b else (ks[b - H.nc]?).getD b) o' o)
    (hits : ∀ i, i < H.ni → H1.its i = H.its i) (hit : ∀ (i : Nat) v, y.it[i]? = some (some v) → H1.its (H.ni + i) = some v)
    (hlps : ∀ l, l < H.nl → H1.lps l = H.lps l) (hds : ∀ j, j < H.nd → H1.ds j = H.ds j) (hkd : ∀ (i : Nat), y.kd[i]? = some true → H1.ds (H.nd + i) = true) :
    Canon P H.marks (fun b => if b < H.nc then b else (ks[b - H.nc]?).getD b) H1 (HH H y) where
  glob := hk.glob
  sid := fun b hb => if_pos hb
  inj := fun b b' h1 h2 h => by
    have h1' : b < H.nc + y.nw.length := h1
    have h2' : b' < H.nc + y.nw.length := h2
    by_cases hb : b < H.nc <;> by_cases hb' : b' < H.nc
    · rw [if_pos hb, if_pos hb'] at h; exact h
    · rw [if_pos hb, if_neg hb'] at h
      have e2 : b' - H.nc < ks.length := by omega
      rw [List.getElem?_eq_getElem e2] at h
      have := hge _ (List.getElem_mem e2)
      simp only [Option.getD_some] at h
      omega
    · rw [if_neg hb, if_pos hb'] at h
      have e2 : b - H.nc < ks.length := by omega
      rw [List.getElem?_eq_getElem e2] at h
      have := hge _ (List.getElem_mem e2)
      simp only [Option.getD_some] at h
      omega
    · rw [if_neg hb, if_neg hb'] at h
      have e1 : b - H.nc < ks.length := by omega
      have e2 : b' - H.nc < ks.length := by omega
      rw [List.getElem?_eq_getElem e1, List.getElem?_eq_getElem e2] at h
      simp only [Option.getD_some] at h
      have hp := List.pairwise_iff_getElem.1 hnd
      rcases Nat.lt_trichotomy (b - H.nc) (b' - H.nc) with hlt2 | heq | hlt2
      · exact absurd h (hp _ _ e1 e2 hlt2)
      · omega
      · exact absurd h.symm (hp _ _ e2 e1 hlt2)
  le := ⟨Nat.le_add_right _ _, Nat.le_add_right _ _, Nat.le_refl _, Nat.le_add_right _ _⟩
  cs := fun b ob' hb => by
    have hle : H.marks.le (HH H y).marks := ⟨Nat.le_add_right _ _, Nat.le_add_right _ _, Nat.le_refl _, Nat.le_add_right _ _⟩
    by_cases hlt' : b < H.nc
    · refine ⟨Nat.lt_of_lt_of_le hlt' (Nat.le_add_right _ _), ?_⟩
      simp only [hlt', if_true]
      have hy : (HH H y).cs b = (lkp y.ov b).getD (H.cs b) := HH_cs_old hlt'
      rw [hy] at hb
      cases hl : lkp y.ov b with
      | none =>
        rw [hl] at hb
        rw [hold b hlt' hl]
        obtain ⟨h1, h2, h3⟩ := hk.cs b ob' hb
        exact ⟨ob', hb, rfl, rfl, rfl, h2.up hle (fun c hc => if_pos hc), h3⟩
      | some q =>
        rw [hl] at hb
        simp only [Option.getD_some] at hb
        subst hb
        exact hov b ob' hlt' hl
    · have hcs : (HH H y).cs b = (y.nw[b - H.nc]?).join := by simp only [HH, hlt', if_false]
      rw [hcs] at hb
      have hb2 : y.nw[b - H.nc]? = some (some ob') := by
        cases hq : y.nw[b - H.nc]? with
        | none => rw [hq] at hb; cases hb
        | some q => rw [hq] at hb; simp at hb; rw [hb]
      have hlen := (List.getElem?_eq_some_iff.1 hb2).1
      refine ⟨show b < H.nc + y.nw.length by omega, ?_⟩
      obtain ⟨k, o, hk1, hk2, hu⟩ := hnw _ _ hb2
      refine ⟨o, ?_, hu⟩
      simp only [hlt', if_false, hk1, Option.getD_some]
      exact hk2
  its := fun i v hi => by
    by_cases hl : i < H.ni
    · have hy : (HH H y).its i = H.its i := by simp only [HH, hl, if_true]
      rw [hy] at hi; rw [hits i hl]
      exact ⟨Nat.lt_of_lt_of_le hl (Nat.le_add_right _ _), hi⟩
    · have hy : (HH H y).its i = (y.it[i - H.ni]?).join := by simp only [HH, hl, if_false]
      rw [hy] at hi
      have hi2 : y.it[i - H.ni]? = some (some v) := by
        cases hq : y.it[i - H.ni]? with
        | none => rw [hq] at hi; cases hi
        | some q => rw [hq] at hi; simp at hi; rw [hi]
      have hlen := (List.getElem?_eq_some_iff.1 hi2).1
      have := hit _ _ hi2
      rw [show H.ni + (i - H.ni) = i by omega] at this
      exact ⟨show i < H.ni + y.it.length by omega, this⟩
  lps := fun l r' hl => by
    have hr : H.lps l = some r' := hl
    obtain ⟨h1, h2, h3⟩ := hk.lps l r' hr
    exact ⟨h1, Nat.lt_of_lt_of_le h3 (Nat.le_add_right _ _), r', by rw [hlps l h1]; exact hr, rfl, rfl, rfl, rfl, rfl, rfl, rfl, fun j => (h2 j).up ⟨Nat.le_add_right _ _, Nat.le_add_right _ _, Nat.le_refl _, Nat.le_add_right _ _⟩ (fun c hc => if_pos hc)⟩
  ds := fun j hj => by
    by_cases hl : j < H.nd
    · have hy : (HH H y).ds j = H.ds j := by simp only [HH, hl, if_true]
      rw [hy] at hj; rw [hds j hl]
      exact ⟨Nat.lt_of_lt_of_le hl (Nat.le_add_right _ _), hj⟩
    · have hy : (HH H y).ds j = (y.kd[j - H.nd]?).getD false := by simp only [HH, hl, if_false]
      rw [hy] at hj
      have hj2 : y.kd[j - H.nd]? = some true := by
        cases hq : y.kd[j - H.nd]? with
        | none => rw [hq] at hj; cases hj
        | some q => rw [hq] at hj; simp at hj; rw [hj]
      have hlen := (List.getElem?_eq_some_iff.1 hj2).1
      have := hkd _ hj2
      rw [show H.nd + (j - H.nd) = j by omega] at this
      exact ⟨show j < H.nd + y.kd.length by omega, this⟩

theorem erel_weak {f : Inj} {n : Nat} {e : Env} {a : Act} (he : ERel f n e a) (l : List (Nat × V)) (hl : ∀ p ∈ l, e.t p.1 = p.2) : ERel f n ⟨ET l, e.ds⟩ a := by
  refine ⟨he.size, fun j => ?_, he.ds⟩
  have key : ∀ l : List (Nat × V), (∀ p ∈ l, e.t p.1 = p.2) → VRel f (ET l j) (a.tmps.getD j Go.undef) := by
    intro l
    induction l with
    | nil => intro _; exact .undef _
    | cons p r ih =>
      intro hl
      obtain ⟨k, u⟩ := p
      simp only [ET]
      split
      · rename_i hj
        subst hj
        have := hl (j, u) (by simp)
        simp only at this
        rw [← this]
        exact he.t j
      · exact ih fun p hp => hl p (by simp [hp])
  exact key l hl

theorem smm_weak {n : Nat} {r : Rd} {m : MC} {Q : Post} {e : Env} {H : Heap} (l : List (Nat × V)) (hl : ∀ p ∈ l, e.t p.1 = p.2) (h : SmM P n r m Q ⟨ET l, e.ds⟩ H) : SmM P n r m Q e H := by
  intro o c hc hok B w0 f a w b k cs h1 h2 h3
  exact h o c hc hok B w0 f a w b k cs h1 (erel_weak h2 l hl) h3

def midQ (l : List (Nat × V)) (ds : List Dfr) (H' : Heap) (Q : Post) : Post
  | .normal, e, H => (∀ p ∈ l, e.t p.1 = p.2) ∧ e.ds = ds ∧ H = H'
  | x, e, H => Q x e H
theorem midQ_normal {l : List (Nat × V)} {ds : List Dfr} {H' : Heap} {Q : Post} {e : Env} {H : Heap} : midQ l ds H' Q .normal e H = ((∀ p ∈ l, e.t p.1 = p.2) ∧ e.ds = ds ∧ H = H') := rfl
theorem midQ_ret {l : List (Nat × V)} {ds : List Dfr} {H' : Heap} {Q : Post} {e : Env} {H : Heap} : midQ l ds H' Q .ret e H = Q .ret e H := rfl
theorem midQ_exit {l : List (Nat × V)} {ds : List Dfr} {H' : Heap} {Q : Post} {i : Nat} {e : Env} {H : Heap} : midQ l ds H' Q (.exit i) e H = Q (.exit i) e H := rfl

/-- In the midst: the first part comes to that state, the second goes on from it. -/
theorem smm_mid {n : Nat} {r : Rd} {a b : MC} {Q : Post} {e : Env} {H : Heap} (l : List (Nat × V)) (ds : List Dfr) (H' : Heap) (hb : SmM P n r b Q ⟨ET l, ds⟩ H') (ha : SmM P n r a (midQ l ds H' Q) e H) : SmM P n r (.seq a b) Q e H := by
  refine smm_seq (smm_mono ha fun x e1 H1 h => ?_)
  cases x with
  | normal =>
    obtain ⟨h1, rfl, rfl⟩ := h
    exact smm_weak l h1 hb
  | _ => exact h

/-- A loop: what holds at each round's begin; slots may be forgotten. -/
theorem smm_loop_w {n : Nat} {r : Rd} {a : MC} {Q : Post} {e : Env} {H : Heap} (I : Nat → Env → Heap → Prop) (k : Nat) (l0 : List (Nat × V)) (h0 : ∀ p ∈ l0, e.t p.1 = p.2 ) (hI : I k ⟨ET l0, e.ds⟩ H) (hb : ∀ k e H, I k e H → SmM P n r a (fun x e' H' => match x with
      | .normal => ∃ k', k' < k ∧ ∃ l2, (∀ p ∈ l2, e'.t p.1 = p.2) ∧ I k' ⟨ET l2, e'.ds⟩ H'
      | x => Q x e' H') e H) : SmM P n r (.loop a) Q e H := by
  have wk : ∀ (e : Env) (H : Heap) (l : List (Nat × V)), (∀ p ∈ l, e.t p.1 = p.2) → ∀ {f : Inj} {a : Act}, ERel f n e a → ERel f n ⟨ET l, e.ds⟩ a := by
    intro e H l hl f a he
    refine ⟨he.size, fun j => ?_, he.ds⟩
    have key : ∀ l : List (Nat × V), (∀ p ∈ l, e.t p.1 = p.2) → VRel f (ET l j) (a.tmps.getD j Go.undef) := by
      intro l
      induction l with
      | nil => intro _; exact .undef _
      | cons p r ih =>
        intro hl
        obtain ⟨k, u⟩ := p
        simp only [ET]
        split
        · rename_i hj
          subst hj
          have := hl (j, u) (by simp)
          simp only at this
          rw [← this]
          exact he.t j
        · exact ih fun p hp => hl p (by simp [hp])
    exact key l hl
  intro o c hc hok
  cases c <;> simp only [mcode, Option.map_eq_some_iff] at hc
  case loop x =>
    obtain ⟨x', hx, hc⟩ := hc
    cases hc
    have main : ∀ (k : Nat) {e : Env} {H : Heap}, I k e H →
      ∀ (B : Nat) (w0 : World) (f : Inj) (a : Act) (w : World) (b : Frame) (ks : List Item) (cs : List Frame), StRel P B w0 f H w → ERel f n e a → RR f r b cs →
      ∃ x2 e' H' f' a' w', Q x2 e' H' ∧ f.leM r.m f' ∧ StRel P B w0 f' H' w' ∧ ERel f' n e' a' ∧ Arr P (lone (b.atR a (.code x :: .inLoop x :: ks)) cs w) b ks cs x2 a' w' := by
      intro k
      induction k using Nat.strongRecOn with
      | _ k ih =>
        intro e H hI B w0 f a w b ks cs h1 h2 h3
        obtain ⟨x2, e1, H1, f1, a1, w1, q, hle, s1, s2, harr⟩ := hb k e H hI o x hx hok B w0 f a w b (.inLoop x :: ks) cs h1 h2 h3
        cases x2 with
        | normal =>
          obtain ⟨k', hk, l2, hl2, hI2⟩ := q
          obtain ⟨x3, e3, H3, f3, a3, w3, q2, hle2, t1, t2, harr2⟩ := ih k' hk hI2 B w0 f1 a1 w1 b ks cs s1 (wk e1 H1 l2 hl2 s2) (h3.monoM hle)
          exact ⟨x3, e3, H3, f3, a3, w3, q2, hle.trans hle2, t1, t2, .of_steps (Steps.trans harr (.one (stepR_inLoop))) harr2⟩
        | exit id => exact ⟨_, e1, H1, f1, a1, w1, q, hle, s1, s2, harr.pass rfl (by simp)⟩
        | goto l => exact ⟨_, e1, H1, f1, a1, w1, q, hle, s1, s2, harr.pass rfl (by simp)⟩
        | ret => exact ⟨_, e1, H1, f1, a1, w1, q, hle, s1, s2, harr.pass rfl (by simp)⟩
    intro B w0 f a' w b ks cs h1 h2 h3
    obtain ⟨x2, e1, H1, f1, a1, w1, q, hle, s1, s2, harr⟩ := main k hI B w0 f a' w b ks cs h1 (wk e H l0 h0 h2) h3
    exact ⟨x2, e1, H1, f1, a1, w1, q, hle, s1, s2, .of_steps (.one stepR_loop) harr⟩
  all_goals first | (cases hc; done) | (obtain ⟨_, _, hc⟩ := hc; cases hc; done) | (split at hc <;> cases hc; done)


theorem Rounds.ext {Hc : Heap} {cap : List Nat} {R : Nat → Nat → List (Nat × Option Obj) → List (Option Obj) → Prop} {S : X → Nat → Nat → List (Nat × Option Obj) → List (Option Obj) → Prop} {tw : X → Heap → Heap} (h : Rounds Hc cap R S tw) {Hp : Heap} (hE : Ext Hc Hp) (z : X) : Ext (tw z Hc) (tw z Hp) := by
  obtain ⟨a1, a2, a3, a4, a5, a6, a7, a8⟩ := h.tq z Hc
  obtain ⟨b1, b2, b3, b4, b5, b6, b7, b8⟩ := h.tq z Hp
  refine ⟨by rw [a2, b2]; exact hE.nc, by rw [a4, b4]; exact hE.ni, by rw [a7, b7]; exact hE.nl, by rw [a6, b6]; exact hE.nd, fun b hb => ?_, fun b hb => ?_, fun b hb => ?_, fun b hb => ?_⟩
  · rw [a1, b1]; exact hE.cs b (by rw [← a2]; exact hb)
  · rw [a3, b3]; exact hE.its b (by rw [← a4]; exact hb)
  · exact h.tl z Hp b (by rw [← a7]; exact hb) hE
  · rw [a5, b5]; exact hE.ds b (by rw [← a6]; exact hb)

theorem Ext.loop (H : Heap) (r : LoopRec) : Ext H (H.pushDs.pushLp r) where
  nc := Nat.le_refl _
  ni := Nat.le_refl _
  nl := Nat.le_succ _
  nd := Nat.le_succ _
  cs := fun _ _ => rfl
  its := fun _ _ => rfl
  lps := fun l hl => by
    show fset H.lps H.nl (some r) l = _
    simp only [fset]; rw [if_neg (by omega)]
  ds := fun j hj => by
    show fset H.ds H.nd true j = _
    simp only [fset]; rw [if_neg (by omega)]

theorem Ext.loop1 (H : Heap) (r : LoopRec) : Ext H (H.pushLp r) where
  nc := Nat.le_refl _
  ni := Nat.le_refl _
  nl := Nat.le_succ _
  nd := Nat.le_refl _
  cs := fun _ _ => rfl
  its := fun _ _ => rfl
  lps := fun l hl => by
    show fset H.lps H.nl (some r) l = _
    simp only [fset]; rw [if_neg (by omega)]
  ds := fun _ _ => rfl

theorem Ext.putLp {H Hp : Heap} (h : Ext H Hp) {l : Nat} (hl : H.nl ≤ l) (r : LoopRec) : Ext H (Hp.putLp l r) where
  nc := h.nc
  ni := h.ni
  nl := h.nl
  nd := h.nd
  cs := h.cs
  its := h.its
  lps := fun k hk => by
    show fset Hp.lps l (some r) k = _
    simp only [fset]; rw [if_neg (by omega)]; exact h.lps k hk
  ds := h.ds

theorem putLp_self {H : Heap} {l : Nat} {r r' : LoopRec} (h : H.lps l = some r) : (H.putLp l r').putLp l r = H := by
  obtain ⟨cs, nc, its, ni, lps, nl, ds, nd⟩ := H
  simp only [Heap.putLp, Heap.mk.injEq, true_and, and_true]
  funext k
  simp only [fset]
  by_cases hk : k = l
  · subst hk; simp; exact h.symm
  · simp [hk]
theorem putLp_putLp {H : Heap} {l : Nat} {r r' : LoopRec} : (H.putLp l r').putLp l r = H.putLp l r := by
  simp only [Heap.putLp, Heap.mk.injEq, true_and, and_true]
  funext k
  simp only [fset]
  by_cases hk : k = l <;> simp [hk]

/-- What the user shows of a round: its slots are laid, its body is gone through. -/
def RoundU (P : Program) (n : Nat) (ps : List Tmp) (asg body : MC) (e : Env) (R : Nat → Nat → List (Nat × Option Obj) → List (Option Obj) → Prop) (S : X → Nat → Nat → List (Nat × Option Obj) → List (Option Obj) → Prop) (items : List (List V)) (H : Heap) : Prop :=
  ∀ (i : Nat) x, items[i]? = some x → ∀ Hp ov g, Ext H Hp → R i Hp.nc ov g → ∀ L m,
    SmM P n ⟨some L, m⟩ asg (fun z e1 H1 => z = .normal ∧ ∃ ov1 g1, H1 = HH Hp ⟨ov1, g1, [], []⟩ ∧ ∀ Hp2, Ext H Hp2 → Hp2.nc = Hp.nc → Hp2.cs = Hp.cs →
      SmM P n ⟨some L, m⟩ body (fun z e2 H2 => ∃ ov2 g2, H2 = HH Hp2 ⟨ov2, g2, [], []⟩ ∧ match z with
        | .normal => R (i + 1) Hp.nc ov2 g2
        | z => S z i Hp.nc ov2 g2) e1 (HH Hp2 ⟨ov1, g1, [], []⟩)) ⟨setAll e.t ps x, []⟩ (HH Hp ⟨ov, g, [], []⟩)

structure RoundsU (H : Heap) (cap : List Nat) (R : Nat → Nat → List (Nat × Option Obj) → List (Option Obj) → Prop) (S : X → Nat → Nat → List (Nat × Option Obj) → List (Option Obj) → Prop) : Prop where
  r0 : ∀ nc, R 0 nc [] []
  rk : ∀ i nc ov g, R i nc ov g → ∀ b, H.nc ≤ b → lkp ov b = none
  rg : ∀ i nc ov g o, R i nc ov g → R i nc ov (g ++ [o])
  rc : ∀ i nc ov g, R i nc ov g → ∀ b ∈ cap, lkp ov b = none
  sk : ∀ x i nc ov g, S x i nc ov g → ∀ b, H.nc ≤ b → lkp ov b = none
  sg : ∀ x i nc ov g o, S x i nc ov g → S x i nc ov (g ++ [o])

theorem round_inv {n : Nat} {ps : List Tmp} {asg body : MC} {a b : Code} {o : Orc} (ha : mcode P o a = some asg) (hb : mcode P o b = some body) (hoka : Code.okN n P.globals.size a = true) (hokb : Code.okN n P.globals.size b = true) (hps : ∀ p ∈ ps, p < n)
    {e : Env} {R : Nat → Nat → List (Nat × Option Obj) → List (Option Obj) → Prop} {S : X → Nat → Nat → List (Nat × Option Obj) → List (Option Obj) → Prop} {items : List (List V)} {H : Heap} (hlen : ∀ x ∈ items, x.length = ps.length) (hr : RoundU P n ps asg body e R S items H) {dfr : Nat} {HL : Heap} (hext : Ext H HL) (hnl : HL.nl = H.nl + 1) (hrec : HL.lps H.nl = some ⟨.ready, none, e.t, n, ⟨ps⟩, a, b, dfr⟩) :
    ∀ (i : Nat) x, items[i]? = some x → ∀ Hp ov g, Ext HL Hp → R i Hp.nc ov g → InvS P (.fn (.yield H.nl) [] []) x (HH Hp ⟨ov, g, [], []⟩) (fun v H' =>
      (v = .bool true ∧ ∃ ov' g', R (i + 1) Hp.nc ov' g' ∧ H' = HH Hp ⟨ov', g', [], []⟩) ∨
      (v = .bool false ∧ ∃ z ov' g', (z ≠ .normal ∧ S z i Hp.nc ov' g') ∧ H' = HH (Hp.putLp H.nl ⟨.done, z.code, e.t, n, ⟨ps⟩, a, b, dfr⟩) ⟨ov', g', [], []⟩)) := by
  intro i x hx Hp ov g hE hR
  have hl : (HH Hp ⟨ov, g, [], []⟩).lps H.nl = some ⟨.ready, none, e.t, n, ⟨ps⟩, a, b, dfr⟩ := by
    show Hp.lps H.nl = _
    rw [hE.lps _ (by omega)]; exact hrec
  have hxl := hlen x (List.mem_of_getElem? hx)
  refine invS_yield_sm hl rfl (by simpa using hxl.symm) (by simpa using hps) ?_
  have h1 := hr i x hx Hp ov g (hext.trans hE) hR H.nl (HH Hp ⟨ov, g, [], []⟩).marks o a ha hoka
  refine h1.mono ?_
  rintro z e1 H1 ⟨rfl, ov1, g1, rfl, hbody⟩
  refine ⟨rfl, _, hl, rfl, ?_⟩
  rw [HH_putLp]
  have h2 := hbody (Hp.putLp H.nl ⟨.busy, none, e.t, n, ⟨ps⟩, a, b, dfr⟩) ((hext.trans hE).putLp (Nat.le_refl _) _) rfl rfl o b hb hokb
  refine h2.mono ?_
  rintro z e2 H2 ⟨ov2, g2, rfl, hz⟩
  refine ⟨⟨.busy, none, e.t, n, ⟨ps⟩, a, b, dfr⟩, by show fset _ _ _ _ = _; simp [fset], ?_⟩
  cases z with
  | normal =>
    refine .inl ⟨rfl, ov2, g2, hz, ?_⟩
    rw [HH_putLp]
    congr 1
    exact putLp_self hl
  | exit id => exact .inr ⟨rfl, .exit id, ov2, g2, ⟨by simp, hz⟩, by rw [HH_putLp, putLp_putLp]⟩
  | goto id => exact .inr ⟨rfl, .goto id, ov2, g2, ⟨by simp, hz⟩, by rw [HH_putLp, putLp_putLp]⟩
  | ret => exact .inr ⟨rfl, .ret, ov2, g2, ⟨by simp, hz⟩, by rw [HH_putLp, putLp_putLp]⟩

theorem rounds_tw {H HL : Heap} {cap : List Nat} {R : Nat → Nat → List (Nat × Option Obj) → List (Option Obj) → Prop} {S : X → Nat → Nat → List (Nat × Option Obj) → List (Option Obj) → Prop} (hu : RoundsU H cap R S) (hext : Ext H HL) (hnl : HL.nl = H.nl + 1) (rec : X → LoopRec) :
    Rounds HL cap R (fun z i nc ov g => z ≠ .normal ∧ S z i nc ov g) (fun z Hp => Hp.putLp H.nl (rec z)) where
  r0 := hu.r0
  rk := fun i nc ov g h b hb => hu.rk i nc ov g h b (Nat.le_trans hext.nc hb)
  rg := hu.rg
  rc := hu.rc
  sk := fun z i nc ov g h b hb => hu.sk z i nc ov g h.2 b (Nat.le_trans hext.nc hb)
  sg := fun z i nc ov g o h => ⟨h.1, hu.sg z i nc ov g o h.2⟩
  tq := fun z Hp => ⟨rfl, rfl, rfl, rfl, rfl, rfl, rfl, fun l hl => by
    show fset Hp.lps H.nl (some (rec z)) l = _
    simp only [fset]; rw [if_neg (by omega)]⟩
  tl := fun z Hp l hl hE => by
    show fset Hp.lps H.nl (some (rec z)) l = fset HL.lps H.nl (some (rec z)) l
    simp only [fset]
    split
    · rfl
    · exact hE.lps l hl

/-- A LOOP OVER AN ITERATOR, in a function. -/
theorem smm_range0 {n : Nat} {m : Marks} {f : Operand} {ps : List Tmp} {asg body : MC} {Q : Post} {e : Env} {H : Heap} (items : List (List V)) (cap : List Nat)
    (R : Nat → Nat → List (Nat × Option Obj) → List (Option Obj) → Prop) (S : X → Nat → Nat → List (Nat × Option Obj) → List (Option Obj) → Prop)
    (hit : ∀ Hc, Ext H Hc → IterOK P (e.ev f) items cap Hc) (hu : RoundsU H cap R S) (hlen : ∀ x ∈ items, x.length = ps.length) (hr : RoundU P n ps asg body e R S items H)
    (hend : ∀ Hp ov g, Ext H Hp → Hp.ds H.nd = true → H.nd < Hp.nd → R items.length Hp.nc ov g → Q .normal ⟨e.t, .col H.nd :: e.ds⟩ (HH Hp ⟨ov, g, [], []⟩))
    (hstop : ∀ z i Hp ov g, z ≠ .normal → i < items.length → Ext H Hp → Hp.ds H.nd = true → H.nd < Hp.nd → S z i Hp.nc ov g → Q z ⟨e.t, .col H.nd :: e.ds⟩ (HH Hp ⟨ov, g, [], []⟩)) :
    SmM P n ⟨none, m⟩ (.range f ps asg body) Q e H := by
  intro o c hc hok
  cases c <;> simp only [mcode, Option.map_eq_some_iff] at hc
  case rangeFunc g ps' a b =>
    split at hc
    · rename_i x' y' hx hy
      cases hc
      obtain ⟨ps0⟩ := ps'
      simp only [Code.okN, Bool.and_eq_true] at hok
      refine sm_range hok.1.1.1 ?_
      simp only [rangeS]
      have hext := Ext.loop H ⟨.ready, none, e.t, n, ⟨ps0⟩, a, b, H.nd⟩
      have hrec : (H.pushDs.pushLp ⟨.ready, none, e.t, n, ⟨ps0⟩, a, b, H.nd⟩).lps H.nl = some ⟨.ready, none, e.t, n, ⟨ps0⟩, a, b, H.nd⟩ := by
        show fset H.lps H.nl _ H.nl = _; simp [fset]
      have hds : (H.pushDs.pushLp ⟨.ready, none, e.t, n, ⟨ps0⟩, a, b, H.nd⟩).ds H.nd = true := by
        show fset H.ds H.nd true H.nd = _; simp [fset]
      have hps : ∀ p ∈ ps0, p < n := fun p hp => by
        have := List.all_eq_true.1 hok.1.1.2 p hp
        simpa using this
      have hinv := hit _ hext (.fn (.yield H.nl) [] []) R (fun z i nc ov g => z ≠ .normal ∧ S z i nc ov g) (fun z Hp => Hp.putLp H.nl ⟨.done, z.code, e.t, n, ⟨ps0⟩, a, b, H.nd⟩) (rounds_tw hu hext rfl _)
        (round_inv hx hy hok.1.2 hok.2 hps hlen hr hext rfl hrec)
      refine hinv.mono fun v H3 h3 => ?_
      rcases h3 with ⟨Hp, ov, g, hE, hR, rfl⟩ | ⟨z, i, Hp, ov, g, hi, hE, ⟨hz, hS⟩, rfl⟩
      · have hl : (HH Hp ⟨ov, g, [], []⟩).lps H.nl = some ⟨.ready, none, e.t, n, ⟨ps0⟩, a, b, H.nd⟩ := by
          show Hp.lps H.nl = _
          rw [hE.lps H.nl (Nat.lt_succ_self _)]; exact hrec
        refine ⟨_, hl, by simp, .inl ⟨rfl, ?_⟩⟩
        rw [HH_putLp]
        exact hend _ ov g ((hext.trans hE).putLp (Nat.le_refl _) _) (by show Hp.ds H.nd = true; rw [hE.ds H.nd (Nat.lt_succ_self _)]; exact hds) (Nat.lt_of_lt_of_le (Nat.lt_succ_self _) hE.nd) hR
      · have hl : (HH Hp ⟨ov, g, [], []⟩).lps H.nl = some ⟨.done, z.code, e.t, n, ⟨ps0⟩, a, b, H.nd⟩ := by
          show Hp.lps H.nl = _
          rw [hE.lps H.nl (Nat.lt_succ_self _)]
          show fset _ H.nl _ H.nl = _; simp [fset]
        have hE2 : Ext H Hp := ⟨Nat.le_trans hext.nc hE.nc, Nat.le_trans hext.ni hE.ni, Nat.le_trans hext.nl hE.nl, Nat.le_trans hext.nd hE.nd, fun k hk => (hE.cs k hk).trans rfl, fun k hk => (hE.its k hk).trans rfl,
          fun k hk => by
            rw [hE.lps k (Nat.lt_succ_of_lt hk)]
            show fset _ H.nl _ k = _
            simp only [fset]; rw [if_neg (by omega)]
            exact hext.lps k hk,
          fun k hk => (hE.ds k (Nat.lt_succ_of_lt hk)).trans (hext.ds k hk)⟩
        refine ⟨_, hl, by simp, .inr ⟨z, rfl, hz, ?_⟩⟩
        rw [HH_putLp]
        exact hstop z i _ ov g hz hi (hE2.putLp (Nat.le_refl _) _) (by show Hp.ds H.nd = true; rw [hE.ds H.nd (Nat.lt_succ_self _)]; exact hds) (Nat.lt_of_lt_of_le (Nat.lt_succ_self _) hE.nd) hS
    · cases hc
  all_goals first | (cases hc; done) | (obtain ⟨_, _, hc⟩ := hc; cases hc; done) | (split at hc <;> cases hc; done)

theorem smm_mid0 {n : Nat} {r : Rd} {a b : MC} {Q : Post} {e : Env} {H : Heap} (l : List (Nat × V)) (ds : List Dfr) (hb : SmM P n r b Q ⟨ET l, ds⟩ H) (ha : SmM P n r a (midQ l ds H Q) e H) : SmM P n r (.seq a b) Q e H := smm_mid l ds H hb ha

attribute [go_sem] midQ_normal midQ_ret midQ_exit List.forall_mem_cons List.not_mem_nil false_imp_iff
end
end Go.Cm
