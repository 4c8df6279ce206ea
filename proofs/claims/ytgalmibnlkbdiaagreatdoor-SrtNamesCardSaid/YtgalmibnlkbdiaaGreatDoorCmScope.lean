/- Scopes: jumps within. -/
import Derived.Test.YtgalmibnlkbdiaaGreatDoorCmOrd
set_option linter.unusedVariables false
set_option linter.unusedSimpArgs false
namespace Go.Cm
open Go Go.RowKit

def scopeN (body : Code) (run : Code → Post → Env → Heap → Prop) (Q : Post) : Nat → Code → Env → Heap → Prop
  | 0, _, _, _ => False
  | k + 1, c, e, H => run c (fun x e' H' => match x with
    | .goto l => (match findLabel body l with
      | some rest => scopeN body run Q k rest e' H'
      | none => Q (.goto l) e' H')
    | x => Q x e' H') e H

section
variable {P : Program} {n : Nat} {r : Rd}

theorem sm_scope_go {c : Code} {Q : Post} : ∀ (j : Nat) (cur : Code) {e : Env} {H : Heap}, scopeN c (fun c Q e H => Sm P n r c Q e H) Q j cur e H →
    ∀ (B : Nat) (w0 : World) (f : Inj) (a : Act) (w : World) (b : Frame) (k : List Item) (cs : List Frame), StRel P B w0 f H w → ERel f n e a → RR f r b cs →
    ∃ x e' H' f' a' w', Q x e' H' ∧ f.leM r.m f' ∧ StRel P B w0 f' H' w' ∧ ERel f' n e' a' ∧ Arr P (lone (b.atR a (.code cur :: .inScope c :: k)) cs w) b k cs x a' w'
  | 0, cur, e, H, h => h.elim
  | j + 1, cur, e, H, h => by
    intro B w0 f a w b k cs h1 h2 h3
    obtain ⟨x, e1, H1, f1, a1, w1, q, hle, s1, s2, harr⟩ := h B w0 f a w b (.inScope c :: k) cs h1 h2 h3
    cases x with
    | normal =>
      refine ⟨.normal, e1, H1, f1, a1, w1, q, hle, s1, s2, Steps.trans harr (.one ?_)⟩
      exact step_lone_go (by simp [stepG, stepG.exec, Frame.atR])
    | exit id =>
      obtain ⟨k2, e, s⟩ := harr
      exact ⟨.exit id, e1, H1, f1, a1, w1, q, hle, s1, s2, k2, by rw [e]; rfl, s⟩
    | ret => exact ⟨.ret, e1, H1, f1, a1, w1, q, hle, s1, s2, harr⟩
    | goto l =>
      obtain ⟨k2, ek, s⟩ := harr
      simp only at q
      cases hf : findLabel c l with
      | none =>
        rw [hf] at q
        exact ⟨.goto l, e1, H1, f1, a1, w1, q, hle, s1, s2, k2, by rw [ek]; simp [gotoIn, hf], s⟩
      | some rest =>
        rw [hf] at q
        obtain ⟨x2, e2, H2, f2, a2, w2, q2, hle2, t1, t2, harr2⟩ := sm_scope_go j rest q B w0 f1 a1 w1 b k cs s1 s2 (h3.monoM hle)
        have hg : gotoIn l k2 = some (.code rest :: .inScope c :: k) := by rw [ek]; simp [gotoIn, hf]
        exact ⟨x2, e2, H2, f2, a2, w2, q2, hle.trans hle2, t1, t2, .of_steps (s.trans (.one (stepR_goto hg))) harr2⟩

theorem sm_scope {c : Code} {Q : Post} {e : Env} {H : Heap} (j : Nat) (h : scopeN c (fun c Q e H => Sm P n r c Q e H) Q j c e H) : Sm P n r (.scope c) Q e H := by
  intro B w0 f a w b k cs h1 h2 h3
  obtain ⟨x, e1, H1, f1, a1, w1, q, hle, s1, s2, harr⟩ := sm_scope_go j c h B w0 f a w b k cs h1 h2 h3
  exact ⟨x, e1, H1, f1, a1, w1, q, hle, s1, s2, .of_steps (.one (step_lone_go (by simp [stepG, stepG.exec, Frame.atR]))) harr⟩

theorem okN_findLabel {G : Nat} {l : Nat} : ∀ {c rest : Code}, Code.okN n G c = true → findLabel c l = some rest → Code.okN n G rest = true
  | .seq a b, rest, hok, h => by
    simp only [Code.okN, Bool.and_eq_true] at hok
    simp only [findLabel] at h
    cases ha : findLabel a l with
    | some ra =>
      rw [ha] at h
      cases h
      simp only [Code.okN, Bool.and_eq_true]
      exact ⟨okN_findLabel hok.1 ha, hok.2⟩
    | none =>
      rw [ha] at h
      exact okN_findLabel hok.2 h
  | .label l', rest, hok, h => by
    simp only [findLabel] at h
    split at h
    · cases h; rfl
    · cases h
  | .skip, _, _, h => by simp [findLabel] at h
  | .region .., _, _, h => by simp [findLabel] at h
  | .cond .., _, _, h => by simp [findLabel] at h
  | .block .., _, _, h => by simp [findLabel] at h
  | .loop .., _, _, h => by simp [findLabel] at h
  | .scope .., _, _, h => by simp [findLabel] at h
  | .rangeFunc .., _, _, h => by simp [findLabel] at h
  | .exit .., _, _, h => by simp [findLabel] at h
  | .goto .., _, _, h => by simp [findLabel] at h
  | .ret, _, _, h => by simp [findLabel] at h
  | .refuse .., _, _, h => by simp [findLabel] at h

/-- A scope, its parts walked. -/
theorem scopeN_mono {c : Code} {run run' : Code → Post → Env → Heap → Prop} (ok : Code → Prop) (hr : ∀ c Q e H, ok c → run c Q e H → run' c Q e H) (hf : ∀ l rest, findLabel c l = some rest → ok rest) (hm : ∀ c (Q Q' : Post) e H, (∀ x e H, Q x e H → Q' x e H) → run' c Q e H → run' c Q' e H) {Q : Post} : ∀ (j : Nat) {cur : Code} {e : Env} {H : Heap}, ok cur → scopeN c run Q j cur e H → scopeN c run' Q j cur e H
  | 0, _, _, _, _, h => h
  | j + 1, cur, e, H, hc, h => by
    simp only [scopeN] at h ⊢
    refine hm _ _ _ _ _ ?_ (hr _ _ _ _ hc h)
    intro x e' H' hx
    cases x with
    | goto l =>
      simp only at hx ⊢
      cases hl : findLabel c l with
      | none => rw [hl] at hx; exact hx
      | some rest => rw [hl] at hx; exact scopeN_mono ok hr hf hm j (hf l rest hl) hx
    | _ => exact hx

theorem wp_scope (hmix : P.follows .mixedOrders = true) {c : Code} {Q : Post} {e : Env} {H : Heap} (hok : Code.okN n P.globals.size c = true) (j : Nat) (h : scopeN c (fun c Q e H => wp P n r c Q e H) Q j c e H) : wp P n r (.scope c) Q e H :=
  sm_scope j (scopeN_mono (fun c => Code.okN n P.globals.size c = true) (fun c Q e H ok h => wp_sound hmix c Q e H ok h) (fun l rest hl => okN_findLabel hok hl) (fun c Q Q' e H hq h => Sm.mono h hq) j hok h)

end
end Go.Cm
