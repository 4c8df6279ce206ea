/- Signs of a text; canonical forms by equations. -/
import Derived.Test.YtgalmibnlkbdiaaGreatDoorCmS
import Derived.Lib.MapLaws
import Derived.IntWalk
set_option linter.unusedVariables false
set_option linter.unusedSimpArgs false
namespace Go.Cm
open Go Go.RowKit

/-- The sign that a list of bytes begins with: rune, width. -/
abbrev dec (l : List UInt8) : Nat × Nat := Go.Lib.decodeL l

theorem dec_pos (l : List UInt8) : 1 ≤ (dec l).2 := Go.Lib.decodeL_width l
theorem dec_le (l : List UInt8) (h : l ≠ []) : (dec l).2 ≤ l.length := Go.Lib.decodeL_le l h
theorem decodeL_dec (s : List UInt8) (i : Nat) : decodeL s i = dec (s.drop i) := (Go.Lib.decodeL_drop ⟨s.toArray⟩ i).symm

/-- A text's signs: where each begins, its width, its rune. -/
structure Sg where
  at_ : Nat
  len : Nat
  r : Nat
  deriving DecidableEq, Inhabited

def sgs (p : Nat) (l : List UInt8) : List Sg :=
  match l with
  | [] => []
  | c :: t => ⟨p, (dec (c :: t)).2, (dec (c :: t)).1⟩ :: sgs (p + (dec (c :: t)).2) ((c :: t).drop (dec (c :: t)).2)
termination_by l.length
decreasing_by
  have := dec_pos (c :: t)
  simp only [List.length_drop, List.length_cons]
  omega

theorem sgs_nil (p : Nat) : sgs p [] = [] := by rw [sgs]
theorem sgs_cons (p : Nat) (l : List UInt8) (h : l ≠ []) : sgs p l = ⟨p, (dec l).2, (dec l).1⟩ :: sgs (p + (dec l).2) (l.drop (dec l).2) := by
  cases l with
  | nil => exact absurd rfl h
  | cons c t => rw [sgs]
theorem sgs_drop (s : List UInt8) (p : Nat) (h : p < s.length) : sgs p (s.drop p) = ⟨p, (dec (s.drop p)).2, (dec (s.drop p)).1⟩ :: sgs (p + (dec (s.drop p)).2) (s.drop (p + (dec (s.drop p)).2)) := by
  rw [sgs_cons p (s.drop p) (by intro h0; have := congrArg List.length h0; simp at this; omega), List.drop_drop]
theorem sgs_end (s : List UInt8) (p : Nat) (h : s.length ≤ p) : sgs p (s.drop p) = [] := by rw [List.drop_eq_nil_of_le h, sgs_nil]
theorem dec_drop_le (s : List UInt8) (p : Nat) (h : p < s.length) : p + (dec (s.drop p)).2 ≤ s.length := by
  have := dec_le (s.drop p) (by intro h0; have := congrArg List.length h0; simp at this; omega)
  simp only [List.length_drop] at this
  omega

theorem wrap64 (a : Int) (h1 : -9223372036854775808 ≤ a) (h2 : a ≤ 9223372036854775807) : IntKind.i64.wrap a = a := IntWalk.i64_in a ⟨h1, h2⟩

attribute [go_sem] decodeL_dec
attribute [go_sem] up_undef up_bool up_int up_str up_nilptr up_nilslice up_nilfn up_nilif up_ptr up_slice up_it up_agg up_tuple up_fn upL_nil upL_cons
section
variable {N : Marks} {s : Nat → Nat}
@[go_sem] theorem dUp_nil : DUp N s [] [] ↔ True := ⟨fun _ => trivial, fun _ => .nil⟩
@[go_sem] theorem dUp_col {j j' : Nat} {r r' : List Dfr} : DUp N s (.col j :: r) (.col j' :: r') ↔ j < N.d ∧ j' = j ∧ DUp N s r r' := ⟨fun h => by cases h; exact ⟨by assumption, rfl, by assumption⟩, fun h => by rw [h.2.1]; exact .col j h.1 r r' h.2.2⟩
@[go_sem] theorem etUp_nil {t : Nat → V} : EtUp N s t [] ↔ True := Iff.rfl
@[go_sem] theorem etUp_cons {t : Nat → V} {k : Nat} {v : V} {r : List (Nat × V)} : EtUp N s t ((k, v) :: r) ↔ Up N s v (t k) ∧ EtUp N s t r := Iff.rfl
@[go_sem] theorem nwUp_nil {x : List (Option Obj)} : NwUp N s x [] [] ↔ True := Iff.rfl
@[go_sem] theorem nwUp_none {x : List (Option Obj)} {k : Nat} {ks : List Nat} {r : List (Option Obj)} : NwUp N s x (k :: ks) (none :: r) ↔ NwUp N s x ks r := Iff.rfl
@[go_sem] theorem nwUp_some {x : List (Option Obj)} {k : Nat} {ks : List Nat} {o' : Obj} {r : List (Option Obj)} : NwUp N s x (k :: ks) (some o' :: r) ↔ (∃ o, x[k]? = some (some o) ∧ ObUp N s o' o) ∧ NwUp N s x ks r := Iff.rfl
@[go_sem] theorem ovUp_nil {H : Heap} {x : List (Nat × Option Obj)} : OvUp N s H x [] ↔ True := Iff.rfl
@[go_sem] theorem ovUp_none {H : Heap} {x : List (Nat × Option Obj)} {b : Nat} {r : List (Nat × Option Obj)} : OvUp N s H x ((b, none) :: r) ↔ OvUp N s H x r := Iff.rfl
@[go_sem] theorem ovUp_some {H : Heap} {x : List (Nat × Option Obj)} {b : Nat} {o' : Obj} {r : List (Nat × Option Obj)} : OvUp N s H x ((b, some o') :: r) ↔ (∃ o, (lkp x b).getD (H.cs b) = some o ∧ ObUp N s o' o) ∧ OvUp N s H x r := Iff.rfl
@[go_sem] theorem obUp_iff {l l' : List V} {t t' : TypeId} {k k' : Own} {w w' : Bool} : ObUp N s ⟨l', t', k', w'⟩ ⟨l, t, k, w⟩ ↔ t = t' ∧ k = k' ∧ w = w' ∧ UpL N s l' l ∧ l'.all V.isCell = true := by
  simp only [ObUp, List.all_eq_true]
@[go_sem] theorem itUp_nil {x : List (Option (List UInt8 × Nat))} : ItUp x [] ↔ True := by cases x <;> exact Iff.rfl
@[go_sem] theorem itUp_cons {a b : Option (List UInt8 × Nat)} {x y : List (Option (List UInt8 × Nat))} : ItUp (a :: x) (b :: y) ↔ (b = none ∨ b = a) ∧ ItUp x y := Iff.rfl
@[go_sem] theorem kdUp_nil {x : List Bool} : KdUp x [] ↔ True := by cases x <;> exact Iff.rfl
@[go_sem] theorem kdUp_cons {a b : Bool} {x y : List Bool} : KdUp (a :: x) (b :: y) ↔ (b = false ∨ a = true) ∧ KdUp x y := Iff.rfl
@[go_sem] theorem keysIn_nil {y : List (Nat × Option Obj)} : keysIn [] y ↔ True := ⟨fun _ => trivial, fun _ b _ => rfl⟩
@[go_sem] theorem keysIn_self {y : List (Nat × Option Obj)} : keysIn y y ↔ True := ⟨fun _ => trivial, fun _ b h => h⟩
theorem keysIn_same {x y : List (Nat × Option Obj)} (h : x.map (·.1) = y.map (·.1)) : keysIn x y := by
  intro b hb
  induction x generalizing y with
  | nil => rfl
  | cons a x ih =>
    cases y with
    | nil => simp at h
    | cons c y =>
      obtain ⟨a1, a2⟩ := a
      obtain ⟨c1, c2⟩ := c
      simp only [List.map_cons, List.cons.injEq] at h
      obtain ⟨h1, h2⟩ := h
      subst h1
      simp only [lkp] at hb ⊢
      split at hb
      · cases hb
      · rename_i hne; rw [if_neg hne]; exact ih h2 hb
@[go_sem] theorem marks_c {H : Heap} {ov : List (Nat × Option Obj)} {nw : List (Option Obj)} {it : List (Option (List UInt8 × Nat))} {kd : List Bool} : (HH H ⟨ov, nw, it, kd⟩).marks.c = H.nc + nw.length := by rfl
@[go_sem] theorem marks_i {H : Heap} {ov : List (Nat × Option Obj)} {nw : List (Option Obj)} {it : List (Option (List UInt8 × Nat))} {kd : List Bool} : (HH H ⟨ov, nw, it, kd⟩).marks.i = H.ni + it.length := by rfl
@[go_sem] theorem marks_d {H : Heap} {ov : List (Nat × Option Obj)} {nw : List (Option Obj)} {it : List (Option (List UInt8 × Nat))} {kd : List Bool} : (HH H ⟨ov, nw, it, kd⟩).marks.d = H.nd + kd.length := by rfl
attribute [go_sem] rn_new rn_new0

theorem lt_nc0 {a n : Nat} (h : 0 < n) : a < a + n := by omega
@[go_sem] theorem lt_add_lit {a n m : Nat} : a + n < a + m ↔ n < m := by omega
@[go_sem] theorem lt_add_lit0 {a m : Nat} : a < a + m ↔ 0 < m := by omega
end

section
variable {P : Program} {H : Heap}
/-- The end of a call that leaves nothing behind. -/
theorem done_same (hk : H.OK P) {x : XH} (hov : x.ov = []) {v v' : V} (hv : v'.flat = true) (he : v = v') : ∃ v'' H', CanonV P H.marks v (HH H x) v'' H' ∧ v'' = v' ∧ H' = H :=
  ⟨v', H, canonV_same hk hov (by rw [he]; exact Up.flat hv), rfl, rfl⟩
end
end Go.Cm
