/- The calculus is sound: all code; calls. -/
import Derived.Test.YtgalmibnlkbdiaaGreatDoorCmWp2
import Derived.Test.YtgalmibnlkbdiaaGreatDoorCmLoop
set_option linter.unusedVariables false
set_option linter.unusedSimpArgs false
namespace Go.Cm
open Go Go.RowKit

section
variable {P : Program} {n : Nat} {r : Rd}

theorem range_map {α : Type} (a : Array α) : (List.range a.size).map (fun i => a[i]?) = a.toList.map some := by
  apply List.ext_getElem?
  intro i
  simp only [List.getElem?_map]
  by_cases h : i < a.size
  · rw [List.getElem?_range h]
    simp [h]
  · rw [List.getElem?_eq_none (by simp; omega), List.getElem?_eq_none (by simp; omega)]
    rfl

theorem sm_region {id : Nat} {ops : Array Oper} {Q : Post} {e : Env} {H : Heap} (hok : Code.okN n P.globals.size (.region id ops false) = true) (h : wpOps P r ops ops.toList Q e H) : Sm P n r (.region id ops false) Q e H := by
  intro B w0 f a w b k cs h1 h2 h3
  obtain ⟨e', H', f', a', w', q, hle, s1, s2, st⟩ := wpOps_sound hok (range_map ops) h h1 h2 h3 (k := k) (cs := cs)
  exact ⟨.normal, e', H', f', a', w', q, hle.toM _, s1, s2, Steps.head stepR_region st⟩

theorem sm_draw (hm : P.follows .mixedOrders = true) {id : Nat} {ops : Array Oper} {Q : Post} {e : Env} {H : Heap} (hok : Code.okN n P.globals.size (.region id ops true) = true) (h : wpAny P r ops Q ops.size (Array.replicate ops.size false) e H) : Sm P n r (.region id ops true) Q e H := by
  intro B w0 f a w b k cs h1 h2 h3
  have h1' : StRel P B w0 f H { w with drawn := w.drawn + 1 } := h1.sameHeap ⟨rfl, rfl, rfl⟩ rfl
  obtain ⟨e', H', f', a', w', q, hle, s1, s2, st⟩ := wpAny_sound hok ops.size (w.tape w.drawn (.order b.fn id)) (Array.replicate ops.size false) h h1' h2 h3 (k := k) (cs := cs)
  refine ⟨.normal, e', H', f', a', w', q, hle.toM _, s1, s2, Steps.head stepR_region_draw ?_⟩
  simp only [Region.schedule, hm, Bool.true_or, if_true]
  exact st

theorem sm_cond {c : Operand} {x y : Code} {Q : Post} {e : Env} {H : Heap} (hg : okG P.globals.size c = true) (h : match e.ev c with | .bool true => Sm P n r x Q e H | .bool false => Sm P n r y Q e H | _ => False) : Sm P n r (.cond c x y) Q e H := by
  intro B w0 f a w b k cs h1 h2 h3
  have hev := ev_rel h1.globs h2.t c hg
  split at h
  · rename_i hc
    rw [hc] at hev
    obtain ⟨x', e', H', f', a', w', q, hle, s1, s2, harr⟩ := h B w0 f a w b k cs h1 h2 h3
    exact ⟨x', e', H', f', a', w', q, hle, s1, s2, .of_steps (.one (stepR_cond hev.bool_inv)) harr⟩
  · rename_i hc
    rw [hc] at hev
    obtain ⟨x', e', H', f', a', w', q, hle, s1, s2, harr⟩ := h B w0 f a w b k cs h1 h2 h3
    exact ⟨x', e', H', f', a', w', q, hle, s1, s2, .of_steps (.one (stepR_cond hev.bool_inv)) harr⟩
  · exact h.elim

/-- What 'apply' does where a range over a function calls. -/
theorem steps_range {b : Frame} {a : Act} {g : Operand} {ps : Array Tmp} {asg body : Code} {k : List Item} {cs : List Frame} {l : Nat} {mark : List Deferred} {w w1 : World} {v' : Value} {w' : World}
    (he : (Instr.enterLoop b.fn a.tmps ps asg body b.roundOf).run P w = .ok (l, mark) w1)
    (h : Applies P (do let d ← resolve a.eval (rangeCall g l) 0; invoke d.target d.args) (b.atR { a with defers := mark ++ a.defers } (.inRangeFunc l :: k)) cs w1 v' w') :
    Steps P (lone (b.atR a (.code (.rangeFunc g ps asg body) :: k)) cs w) (lone (b.atR { a with defers := mark ++ a.defers } (.endRangeFunc l :: k)) cs w') := by
  have hev := Frame.eval_atR b { a with defers := mark ++ a.defers } (.inRangeFunc l :: k)
  have hev2 : ({ a with defers := mark ++ a.defers } : Act).eval = a.eval := by funext x; cases x <;> rfl
  rw [hev2] at hev
  simp only [Frame.atR] at hev
  rw [← finish_atR_inRangeFunc l v']
  rcases h with h | ⟨g', args, w2, h1, h2⟩ | ⟨l', g', tm, as, bo, w2, h1, h2⟩
  · refine .one (step_lone_go ?_)
    have h1' : Sem.run P (do let d ← resolve a.eval { callee := .value g, args := #[.const (.func (.yield l) #[] #[])], argTypes := #[] } 0; invoke d.target d.args) w1 = .ok (.value v') w' := h
    simp only [stepG, stepG.exec, Frame.atR, Sem.runT_eq, he, GStep.bare_after, stepG.apply, hev, h1', if_true]
    rfl
  · refine .head (step_lone_go ?_) h2
    have h1' : Sem.run P (do let d ← resolve a.eval { callee := .value g, args := #[.const (.func (.yield l) #[] #[])], argTypes := #[] } 0; invoke d.target d.args) w1 = .ok (.enter g' args) w2 := h1
    simp only [stepG, stepG.exec, Frame.atR, Sem.runT_eq, he, GStep.bare_after, stepG.apply, hev, h1', if_true]
    rfl
  · refine .head (step_lone_go ?_) h2
    have h1' : Sem.run P (do let d ← resolve a.eval { callee := .value g, args := #[.const (.func (.yield l) #[] #[])], argTypes := #[] } 0; invoke d.target d.args) w1 = .ok (.round l' g' tm as bo) w2 := h1
    simp only [stepG, stepG.exec, Frame.atR, Sem.runT_eq, he, GStep.bare_after, stepG.apply, hev, h1', if_true]
    rfl

theorem X.code_step {b : Frame} {a : Act} {k : List Item} {cs : List Frame} {w : World} (x : X) (hx : x ≠ .normal) : Arr P (lone (b.atR a ((x.code.map Item.code).toList ++ k)) cs w) b k cs x a w := by
  cases x with
  | normal => exact absurd rfl hx
  | exit id => exact ⟨k, rfl, .refl _ _⟩
  | goto l => exact ⟨k, rfl, .refl _ _⟩
  | ret => exact ⟨k, .refl _ _⟩

theorem endLoop_sound {B : Nat} {w0 : World} {f : Inj} {H : Heap} {w : World} (h : StRel P B w0 f H w) {l : Nat} {rec : LoopRec} (hl : H.lps l = some rec) {g : Nat} (hg : f.l l = some g) (hb : rec.st ≠ .busy) :
    ∃ w', (Instr.endLoop g).run P w = .ok rec.pend w' ∧ StRel P B w0 f (H.putLp l { rec with st := .exhausted }) w' := by
  obtain ⟨tm, gd, fn, hh, _, _, _, hs⟩ := putLp_sound h hl hg .exhausted rec.pend
  refine ⟨_, ?_, hs⟩
  have hne : (rec.st == LoopState.busy) = false := by simpa using hb
  simp [Instr.endLoop, Instr.getLoop, getObj, setObj, Sem.run, hh]
  exact fun e => absurd e hb

theorem sm_range {g : Operand} {ps : Array Tmp} {asg body : Code} {Q : Post} {e : Env} {H : Heap} (hg : okG P.globals.size g = true) (h : rangeS P n r g ps asg body Q e H) : Sm P n r (.rangeFunc g ps asg body) Q e H := by
  intro B w0 f a w b k cs h1 h2 h3
  have main : ∀ (f1 : Inj) (H1 : Heap) (w1 : World) (mark : List Deferred) (ds1 : List Dfr) (gl : Nat), f.le f1 → StRel P B w0 f1 H1 w1 → f1.l H.nl = some gl → (Instr.enterLoop b.fn a.tmps ps asg body b.roundOf).run P w = .ok (gl, mark) w1 → DsRel f1 ds1 (mark ++ a.defers) →
      (InvS P (e.ev g) [.fn (.yield H.nl) [] []] H1 fun _ H3 => ∃ rec, H3.lps H.nl = some rec ∧ rec.st ≠ .busy ∧
        ((rec.pend = none ∧ Q .normal { e with ds := ds1 } (H3.putLp H.nl { rec with st := .exhausted })) ∨
         (∃ x : X, rec.pend = x.code ∧ x ≠ .normal ∧ Q x { e with ds := ds1 } (H3.putLp H.nl { rec with st := .exhausted })))) →
      ∃ x e' H' f' a' w', Q x e' H' ∧ f.leM r.m f' ∧ StRel P B w0 f' H' w' ∧ ERel f' n e' a' ∧ Arr P (lone (b.atR a (.code (.rangeFunc g ps asg body) :: k)) cs w) b k cs x a' w' := by
    intro f1 H1 w1 mark ds1 gl hle s1 hgl hent hds hinv
    have hev := (ev_rel h1.globs h2.t g hg).mono hle
    have hev2 : ({ a with defers := mark ++ a.defers } : Act).eval = a.eval := by funext x; cases x <;> rfl
    obtain ⟨v, H3, f3, v', w3, ⟨rec, hrec, hbusy, hrest⟩, hle3, s3, hv, happ⟩ := hinv B w0 f1 w1 (a.eval g) [.func (.yield gl) #[] #[]] (b.atR { a with defers := mark ++ a.defers } (.inRangeFunc gl :: k)) cs s1 hev (LRel.cons (.yield _ _ hgl) (LRel.nil f1))
    have hst := steps_range hent (applies_congr (s' := (do let d ← Deferred.ofValue (a.eval g) ⟨[.func (.yield gl) #[] #[]]⟩; invoke d.target d.args)) (by
      simp only [resolve, rangeCall]
      have : (#[Operand.const (.func (.yield gl) #[] #[])] : Array Operand).map a.eval = ⟨[.func (.yield gl) #[] #[]]⟩ := by simp [Act.eval]
      rw [this]) happ)
    obtain ⟨w4, hend, s4⟩ := endLoop_sound s3 hrec (hle3.l _ _ hgl) hbusy
    have hst2 := hst.trans (.one (stepR_endRangeFunc hend))
    have he3 : ERel f3 n { e with ds := ds1 } { a with defers := mark ++ a.defers } := ⟨h2.size, fun j => (h2.t j).mono (hle.trans hle3), hds.mono hle3⟩
    rcases hrest with ⟨hp, hq⟩ | ⟨x, hp, hx, hq⟩
    · rw [hp] at hst2
      exact ⟨.normal, _, _, f3, _, w4, hq, (hle.trans hle3).toM _, s4, he3, hst2⟩
    · rw [hp] at hst2
      exact ⟨x, _, _, f3, _, w4, hq, (hle.trans hle3).toM _, s4, he3, .of_steps hst2 (X.code_step x hx)⟩
  unfold rangeS at h
  cases hrl : r.l with
  | none =>
    have hb : b.roundOf = none := by cases hb : b.roundOf with
      | none => rfl
      | some l => have h3 := h3.1; rw [hrl, hb] at h3; exact h3.elim
    rw [hrl] at h
    simp only at h
    obtain ⟨f1, s1, hle1, hd1, hl1⟩ := pushDs_sound h1
    obtain ⟨f2, s2, hle2, hl2⟩ := pushLp_sound s1 ⟨.ready, none, e.t, n, ps, asg, body, H.nd⟩ a.tmps w.heap.size b.fn hd1 h2.size (fun j => (h2.t j).mono hle1)
    refine main f2 _ _ [{ target := .collected w.heap.size, args := #[] }] (.col H.nd :: e.ds) _ (hle1.trans hle2) s2 hl2 ?_ (.col _ _ _ _ (hle2.d _ _ hd1) (h2.ds.mono (hle1.trans hle2))) h
    rw [hb]
    simp [Instr.enterLoop]
    rfl
  | some l0 =>
    obtain ⟨l0', hb, hl0⟩ : ∃ l', b.roundOf = some l' ∧ f.l l0 = some l' := by
      cases hb : b.roundOf with
      | none => have h3 := h3.1; rw [hrl, hb] at h3; exact h3.elim
      | some l => have h3 := h3.1; rw [hrl, hb] at h3; exact ⟨l, rfl, h3⟩
    rw [hrl] at h
    simp only at h
    obtain ⟨r0, hr0, hinv⟩ := h
    obtain ⟨g0, tm0, gd0, q1, q2, q3, q4, q5, fn0, q6⟩ := h1.lps l0 r0 hr0
    rw [hl0] at q1; cases q1
    obtain ⟨f2, s2, hle2, hl2⟩ := pushLp_sound h1 ⟨.ready, none, e.t, n, ps, asg, body, r0.dfr⟩ a.tmps gd0 b.fn q3 h2.size h2.t
    refine main f2 _ _ [] e.ds _ hle2 s2 hl2 ?_ (h2.ds.mono hle2) hinv
    rw [hb]
    simp [Instr.enterLoop, Instr.getLoop, getObj, Sem.run, q6]

/-- ALL CODE. -/
theorem wp_sound (hm : P.follows .mixedOrders = true) : ∀ (c : Code) (Q : Post) (e : Env) (H : Heap), Code.okN n P.globals.size c = true → wp P n r c Q e H → Sm P n r c Q e H := by
  intro c
  induction c with
  | skip => intro Q e H _ h; exact sm_skip h
  | label l => intro Q e H _ h; exact sm_label h
  | region id ops d =>
    intro Q e H hok h
    cases d with
    | true => exact sm_draw hm hok h
    | false => exact sm_region hok h
  | seq a b iha ihb =>
    intro Q e H hok h
    simp only [Code.okN, Bool.and_eq_true] at hok
    have hmono : ∀ x e H, seqK (fun e H => wp P n r b Q e H) Q x e H → seqK (fun e H => Sm P n r b Q e H) Q x e H := by
      intro x e H hx
      cases x with
      | normal => exact ihb Q e H hok.2 hx
      | _ => exact hx
    exact sm_seq ((iha _ e H hok.1 h).mono hmono)
  | cond c a b iha ihb =>
    intro Q e H hok h
    simp only [Code.okN, Bool.and_eq_true] at hok
    refine sm_cond hok.1.1 ?_
    simp only [wp] at h
    split at h
    · rename_i hc; rw [hc]; exact iha Q e H hok.1.2 h
    · rename_i hc; rw [hc]; exact ihb Q e H hok.2 h
    · exact h.elim
  | block id c ih =>
    intro Q e H hok h
    exact sm_block (ih _ e H hok h)
  | loop c ih =>
    intro Q e H hok h
    obtain ⟨k, h⟩ := h
    have conv : ∀ (k : Nat) (e : Env) (H : Heap), loopN (fun Q e H => wp P n r c Q e H) Q k e H → loopN (fun Q e H => Sm P n r c Q e H) Q k e H := by
      intro k
      induction k with
      | zero => exact fun _ _ h => h
      | succ k ihk =>
        intro e H h
        refine (ih _ e H hok h).mono fun x e H hx => ?_
        cases x with
        | normal => exact ihk e H hx
        | _ => exact hx
    intro B w0 f a w b k' cs h1 h2 h3
    obtain ⟨x, e', H', f', a', w', q, hle, s1, s2, harr⟩ := sm_loop k (conv k e H h) B w0 f a w b k' cs h1 h2 h3
    exact ⟨x, e', H', f', a', w', q, hle, s1, s2, .of_steps (.one stepR_loop) harr⟩
  | scope c _ => intro Q e H hok h; exact h
  | rangeFunc g ps a b _ _ =>
    intro Q e H hok h
    simp only [Code.okN, Bool.and_eq_true] at hok
    exact sm_range hok.1.1.1 h
  | exit id => intro Q e H _ h; exact sm_exit h
  | goto l => intro Q e H _ h; exact sm_goto h
  | ret => intro Q e H _ h; exact sm_ret h
  | refuse why => intro Q e H _ h; exact h.elim

end
end Go.Cm
