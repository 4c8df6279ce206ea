/- Functions without a Go body. Runs by parts: answers that are known are looked up. Tables of functions. From a row's world to the abstract heap: the beginning. -/
import Derived.Test.YtgalmibnlkbdiaaGreatDoorCmIter
import Derived.Test.YtgalmibnlkbdiaaGreatDoorCmRun
import Derived.Laws.Externs
import Derived.Lib.Bytealg
import Derived.Lib.MakeNoZero
import Derived.Lib.IndexEntry
import Derived.Test.YtgalmibnlkbdiaaGreatDoorCmLocal
import Derived.HandedShaped
import Derived.Lib.LaidU8
import Derived.Lib.LaidTab
set_option linter.unusedVariables false
set_option linter.unusedSimpArgs false
namespace Go.Cm
open Go Go.RowKit

/-- The function with that number has no body; the model's entry for it. -/
structure EFn (P : Program) (g : FuncId) (e : Array Value → Sem Value) : Prop where
  ex : ∃ fn, P.funcs[g]? = some fn ∧ (fn.name == "runtime.NumGoroutine") = false ∧ fn.body.isNone = true ∧ Extern.findNext fn = none ∧ Extern.find fn = some e

theorem EFn.mk' {P : Program} {g : FuncId} {e : Array Value → Sem Value} {fn : Func} (hf : P.funcs[g]? = some fn) (h1 : (fn.name == "runtime.NumGoroutine") = false) (h2 : fn.body.isNone = true) (h3 : Extern.findNext fn = none) (h4 : Extern.find fn = some e) : EFn P g e := ⟨fn, hf, h1, h2, h3, h4⟩

section
variable {P : Program} {g : FuncId}

theorem EFn.run {e : Array Value → Sem Value} (h : EFn P g e) {args : Array Value} {w w' : World} {v : Value} (hr : (e args).run P w = .ok v w') : (callFunc g args).run P w = .ok (.value v) w' := by
  obtain ⟨fn, h1, h2, h3, h4, h5⟩ := h.ex
  rw [run_callFunc_extern h1 h2 h3 h4 h5, hr]
  rfl

theorem inv_noEsc (h : EFn P g Extern.AbiNoEscape.same) {x : V} {H : Heap} {K : V → Heap → Prop} {fi ca args : List V} (hargs : fi ++ args ++ ca = [x]) (hk : K x H) : InvS P (.fn (.func g) fi ca) args H K := by
  refine invS_ext fun B w0 f w av hst has => ?_
  obtain ⟨y, m, rfl, hy, ht⟩ := LRel.uncons (by rw [hargs] at has; exact has)
  have := ht.nil_inv
  subst this
  exact ⟨x, H, f, y, w, hk, .refl f, hst, hy, h.run rfl⟩

theorem inv_idxByte (h : EFn P g Extern.BytealgIndexByte.indexByte) {s : List UInt8} {c : Int} {H : Heap} {K : V → Heap → Prop} {fi ca args : List V} (hargs : fi ++ args ++ ca = [.str s, .int .u8 c]) (hk : K (.int .i64 (Lib.indexByte s c.toNat.toUInt8)) H) : InvS P (.fn (.func g) fi ca) args H K := by
  refine invS_ext fun B w0 f w av hst has => ?_
  obtain ⟨y, m, rfl, hy, ht⟩ := LRel.uncons (by rw [hargs] at has; exact has)
  obtain ⟨y2, m2, rfl, hy2, ht2⟩ := ht.uncons
  have := ht2.nil_inv
  subst this
  have e1 := hy.str_inv
  have e2 := hy2.int_inv
  subst e1 e2
  exact ⟨_, H, f, .int .i64 (Lib.indexByte s c.toNat.toUInt8), w, hk, .refl f, hst, .int _ _, h.run (Lib.run_indexByteString _ _ _)⟩

theorem inv_count (h : EFn P g Extern.BytealgCount.count) {s : List UInt8} {c : Int} {H : Heap} {K : V → Heap → Prop} {fi ca args : List V} (hargs : fi ++ args ++ ca = [.str s, .int .u8 c]) (hk : K (.int .i64 (Lib.countByte s c.toNat.toUInt8)) H) : InvS P (.fn (.func g) fi ca) args H K := by
  refine invS_ext fun B w0 f w av hst has => ?_
  obtain ⟨y, m, rfl, hy, ht⟩ := LRel.uncons (by rw [hargs] at has; exact has)
  obtain ⟨y2, m2, rfl, hy2, ht2⟩ := ht.uncons
  have := ht2.nil_inv
  subst this
  have e1 := hy.str_inv
  have e2 := hy2.int_inv
  subst e1 e2
  exact ⟨_, H, f, .int .i64 (Lib.countByte s c.toNat.toUInt8), w, hk, .refl f, hst, .int _ _, h.run (Lib.run_countString _ _ _)⟩

theorem inv_add64 (h : EFn P g add64Entry) {x y c : Int} (hx : 0 ≤ x) (hy : 0 ≤ y) (hc0 : 0 ≤ c) (hc : c ≤ 1) {H : Heap} {K : V → Heap → Prop} {fi ca args : List V} (hargs : fi ++ args ++ ca = [.int .u64 x, .int .u64 y, .int .u64 c]) (hk : K (.tuple [.int .u64 ((x + y + c) % 18446744073709551616), .int .u64 ((x + y + c) / 18446744073709551616)]) H) : InvS P (.fn (.func g) fi ca) args H K := by
  refine invS_ext fun B w0 f w av hst has => ?_
  obtain ⟨a1, m, rfl, h1, ht⟩ := LRel.uncons (by rw [hargs] at has; exact has)
  obtain ⟨a2, m2, rfl, h2, ht2⟩ := ht.uncons
  obtain ⟨a3, m3, rfl, h3, ht3⟩ := ht2.uncons
  have := ht3.nil_inv
  subst this
  have e1 := h1.int_inv
  have e2 := h2.int_inv
  have e3 := h3.int_inv
  subst e1 e2 e3
  exact ⟨_, H, f, _, w, hk, .refl f, hst, VRel.tuple' (LRel.cons (.int _ _) (LRel.cons (.int _ _) (LRel.nil f))), h.run (run_add64 x y c hx hy hc0 hc w)⟩

theorem digits_one : ∀ (n t : Nat) (acc : Array Value), (∀ v ∈ acc.toList, v.oneCell' = true) → ∀ v ∈ (Extern.BytealgMakeNoZero.digits n t acc).toList, v.oneCell' = true
  | 0, _, acc, h => h
  | n + 1, t, acc, h => by
    rw [Extern.BytealgMakeNoZero.digits]
    refine digits_one n _ _ fun v hv => ?_
    simp only [Array.toList_push, List.mem_append, List.mem_singleton] at hv
    rcases hv with hv | rfl
    · exact h v hv
    · rfl

theorem run_mnz {w : World} (ps : Array TypeId) {t e : TypeId} (ht : P.underlying t = some (.slice e)) (n : Nat) (hn : n ≤ 281474976710656) :
    ∃ cs : List Value, (Extern.BytealgMakeNoZero.makeNoZero ps #[t] #[.int .i64 n]).run P w = .ok (.slice (some ⟨w.heap.size, 0, none⟩) n cs.length) (w.drew.drew.alloc (.cells ⟨cs⟩ e)) ∧ n ≤ cs.length ∧ ∀ v ∈ cs, v.oneCell' = true := by
  have hdef : Extern.BytealgMakeNoZero.makeNoZero ps #[t] #[.int .i64 n] =
      (do
        let .slice elem ← underlying t | stuck "bytealg.MakeNoZero: slice type expected"
        if (n : Int) < 0 || (n : Int) > 2 ^ 48 then runtimePanic (.error "makeslice: len out of range")
        let cap ← choose (.appendCap (n : Int).toNat 0 elem)
        askRoom cap
        let bytes ← choose (.extern "internal/bytealg.MakeNoZero.bytes" 0)
        let a ← newRow elem (Extern.BytealgMakeNoZero.digits cap bytes #[])
        pure (.slice (some a) (n : Int).toNat cap)) := rfl
  refine ⟨(Extern.BytealgMakeNoZero.digits (grownCap w n 0 e) ((Question.extern "internal/bytealg.MakeNoZero.bytes" 0).cut (w.tape (w.drawn + 1) (.extern "internal/bytealg.MakeNoZero.bytes" 0))) #[]).toList, ?_, ?_, digits_one _ _ _ (by simp)⟩
  · rw [hdef]
    have h1 : ¬ (n : Int) < 0 := by omega
    have h2 : ¬ (281474976710656 : Int) < (n : Int) := by omega
    simp [run_underlying ht, h1, h2, Question.forced, newRow, Lib.size_digits, grownCap]
  · rw [Array.length_toList, Lib.size_digits]
    simpa using grownCap_ge w n 0 e

/-- Bytes that nobody has written: a new block. -/
theorem inv_mnz {ps : Array TypeId} {t e : TypeId} (h : EFn P g (Extern.BytealgMakeNoZero.makeNoZero ps #[t])) (ht : P.underlying t = some (.slice e)) (hte : (tiOf P e).map TI.size = some 1) {n : Nat} (hn : n ≤ 281474976710656) {H : Heap} {K : V → Heap → Prop}
    {fi ca args : List V} (hargs : fi ++ args ++ ca = [.int .i64 n]) (hk : K (.slice H.nc 0 n n false) (H.push ⟨List.replicate n .junk, e, .own, false⟩)) : InvS P (.fn (.func g) fi ca) args H K := by
  refine invS_ext fun B w0 f w av hst has => ?_
  obtain ⟨a1, m, rfl, h1, ht1⟩ := LRel.uncons (by rw [hargs] at has; exact has)
  have := ht1.nil_inv
  subst this
  have e1 := h1.int_inv
  subst e1
  obtain ⟨cs, hrun, hle, hone⟩ := run_mnz (w := w) ps ht n hn
  have hsplit : cs = cs.take n ++ cs.drop n := (List.take_append_drop n cs).symm
  have hlen : (cs.take n).length = n := by rw [List.length_take]; omega
  obtain ⟨f', ci, h1, h2, h3, h4, h5, h6, h7⟩ := hst.push (w' := w.drew.drew.alloc (.cells ⟨cs⟩ e)) ⟨rfl, rfl, rfl⟩ ⟨List.replicate n .junk, e, .own, false⟩ (cs.take n) (cs.drop n) (0, 0) 1 (by
      rw [← hsplit]; rfl) ⟨by simp [hlen], fun i x y hx hy => by
        have hx' : x = .junk := by
          have := List.mem_of_getElem? hx
          exact List.eq_of_mem_replicate this
        subst hx'
        exact .junk _ (hone y (List.mem_of_mem_take (List.mem_of_getElem? hy)))⟩ (fun x hx => by rw [List.eq_of_mem_replicate hx]; rfl) (by simp) hte (fun j _ => by simp [unfr]) (Nat.le_refl _) (by simp)
  refine ⟨_, _, f', .slice (some ⟨w.heap.size, 0, none⟩) n cs.length, _, hk, h2, h1, ?_, h.run hrun⟩
  refine .slice _ _ _ _ _ ci _ _ h3 (.inr (by rw [h4, h5])) hle (by simp) (Nat.le_refl _) (fun _ => by rw [h5, h6, h7, ← hsplit]; omega)

/-- internal/bytealg.IndexString, where its length is one that it takes. -/
theorem inv_idxStr (h : EFn P g Extern.BytealgIndex.index) {gm : Nat} (hg : P.globals.findIdx? (·.name == "internal/bytealg.MaxLen") = some gm) {a b : List UInt8} {m : Int} {H : Heap} {K : V → Heap → Prop} {ob : Obj} (hcs : H.cs gm = some ob) (hob : ob.l = [.int .i64 m])
    (h2 : 2 ≤ b.length) (hb : (b.length : Int) ≤ m) (ha : a.length < 4294967281) {fi ca args : List V} (hargs : fi ++ args ++ ca = [.str a, .str b]) (hk : K (.int .i64 (Lib.index a b)) H) : InvS P (.fn (.func g) fi ca) args H K := by
  refine invS_ext fun B w0 f w av hst has => ?_
  obtain ⟨y, m1, rfl, hy, ht⟩ := LRel.uncons (by rw [hargs] at has; exact has)
  obtain ⟨y2, m2, rfl, hy2, ht2⟩ := ht.uncons
  have := ht2.nil_inv
  subst this
  have e1 := hy.str_inv
  have e2 := hy2.str_inv
  subst e1 e2
  have hgl : gm < P.globals.size := by
    have := Array.findIdx?_eq_some_iff_findIdx_eq.1 hg
    omega
  obtain ⟨ci, hci, hcg, hcd⟩ := hst.globs gm hgl
  obtain ⟨ci2, arr, fr, e, hc2, ho⟩ := hst.cells gm ob hcs
  rw [hci] at hc2; cases hc2
  have hcell : w.cell? ⟨gm, 0, none⟩ = some (.int .i64 m) := by
    have hr := ho.rel
    rw [hob] at hr
    obtain ⟨z, mm, hz, h1, h3⟩ := hr.uncons
    have hz1 := h1.int_inv
    subst hz1
    have hh := ho.heap
    rw [hcg] at hh
    rw [hcd] at hz
    have : arr[0]? = some (.int .i64 m) := by
      cases arr with
      | nil => simp at hz
      | cons x xs => simp at hz; simp [hz.1]
    simp [World.cell?, hh, this]
  exact ⟨_, H, f, .int .i64 (Lib.index a b), w, hk, .refl f, hst, .int _ _, h.run (Lib.run_indexString _ _ w gm m hg hcell (by simpa [ByteArray.size] using h2) (by simpa [ByteArray.size] using hb) (by simpa [ByteArray.size] using ha))⟩


/-! ## In a run -/
inductive EKd where
  | noEsc
  | idxByte
  | count
  | add64
  | mnz (e : TypeId)
  | rd (gm : Nat) (a : List V) (r : V)

def extT (P : Program) (tab : FuncId → Option EKd) (g : FuncId) (args : List V) (h : CH) : Option (V × CH) :=
  match tab g, args with
  | some .noEsc, [x] => some (x, h)
  | some .idxByte, [.str s, .int .u8 c] => some (.int .i64 (Lib.indexByte s c.toNat.toUInt8), h)
  | some .count, [.str s, .int .u8 c] => some (.int .i64 (Lib.countByte s c.toNat.toUInt8), h)
  | some .add64, [.int .u64 x, .int .u64 y, .int .u64 c] => if 0 ≤ x ∧ 0 ≤ y ∧ 0 ≤ c ∧ c ≤ 1 then some (.tuple [.int .u64 ((x + y + c) % 18446744073709551616), .int .u64 ((x + y + c) / 18446744073709551616)], h) else none
  | some (.mnz e), [.int .i64 n] => if 0 ≤ n ∧ n ≤ 1000000 then some (.slice h.nc 0 n.toNat n.toNat false, h.sync ((h.toH P).push ⟨List.replicate n.toNat .junk, e, .own, false⟩) [] []) else none
  | some (.rd gm a r), args => (match h.cells.get gm with
    | some ⟨[.int .i64 _], _, _, _⟩ => if sameL args a then some (r, h) else none
    | _ => none)
  | _, _ => none

def EOK (P : Program) (g : FuncId) : EKd → Prop
  | .noEsc => EFn P g Extern.AbiNoEscape.same
  | .idxByte => EFn P g Extern.BytealgIndexByte.indexByte
  | .count => EFn P g Extern.BytealgCount.count
  | .add64 => EFn P g add64Entry
  | .mnz e => ∃ ps t, EFn P g (Extern.BytealgMakeNoZero.makeNoZero ps #[t]) ∧ P.underlying t = some (.slice e) ∧ (tiOf P e).map TI.size = some 1
  | .rd gm a r => (∃ n rs m, FnOK P g n rs m) ∧ ∀ (m : Int) (H : Heap) ob, H.cs gm = some ob → ob.l = [.int .i64 m] → CallS P g a H fun v H' => v = r ∧ H' = H

theorem extT_sound {tab : FuncId → Option EKd} (ht : ∀ g k, tab g = some k → EOK P g k) : ExtSound P (extT P tab) where
  inv := by
    intro g fi args ca h v h' he K hK
    unfold extT at he
    split at he
    · rename_i x hg hargs
      cases he
      exact inv_noEsc (ht _ _ hg) hargs hK
    · rename_i s c hg hargs
      cases he
      exact inv_idxByte (ht _ _ hg) hargs hK
    · rename_i s c hg hargs
      cases he
      exact inv_count (ht _ _ hg) hargs hK
    · rename_i x y c hg hargs
      split at he
      · rename_i hc
        cases he
        exact inv_add64 (ht _ _ hg) hc.1 hc.2.1 hc.2.2.1 hc.2.2.2 hargs hK
      · cases he
    · rename_i e n hg hargs
      split at he
      · rename_i hc
        cases he
        obtain ⟨ps, t, h1, h2, h3⟩ := ht _ _ hg
        obtain ⟨k, rfl⟩ := Int.eq_ofNat_of_zero_le hc.1
        rw [CH.toH_sync h (Chg.push _ _ _ _)] at hK
        exact inv_mnz h1 h2 h3 (n := k) (by have := hc.2; omega) hargs hK
      · cases he
    · rename_i gm a r hg
      split at he
      · rename_i m e k w hob
        split at he
        · rename_i hs
          cases he
          obtain ⟨⟨n, rs, mc, hf⟩, hcall⟩ := ht _ _ hg
          have hl := sameL_eq hs
          refine inv_fn hf ?_
          rw [hl]
          exact (hcall m (h.toH P) _ hob rfl).mono fun v1 H1 hh => by rw [hh.1, hh.2]; exact hK
        · cases he
      · cases he
    · cases he
  keeps := by
    intro g args h v h' he
    unfold extT at he
    split at he
    · cases he; exact .refl _
    · cases he; exact .refl _
    · cases he; exact .refl _
    · split at he
      · cases he; exact .refl _
      · cases he
    · split at he
      · cases he; exact keeps_sync _ _ _ _
      · cases he
    · split at he
      · split at he
        · cases he; exact .refl _
        · cases he
      · cases he
    · cases he

end
end Go.Cm
set_option linter.unusedVariables false
set_option linter.unusedSimpArgs false
namespace Go.Cm
open Go Go.RowKit

abbrev Memo := List (FuncId × List V × V)
abbrev Gl := List (Nat × List V)

def glIn (gl : Gl) (n0 : Nat) (h : CH) : Bool := decide (n0 ≤ h.nc) && gl.all fun q => match h.cells.get q.1 with | some ob => sameL ob.l q.2 | none => false

def extM (P : Program) (tab : FuncId → Option EKd) (gl : Gl) (n0 : Nat) (mem : Memo) (g : FuncId) (args : List V) (h : CH) : Option (V × CH) :=
  match mem.find? (fun p => p.1 == g && sameL p.2.1 args) with
  | some p => (match glIn gl n0 h with
    | true => some (p.2.2, h)
    | false => none)
  | none => extT P tab g args h

def GlIn (gl : Gl) (n0 : Nat) (H : Heap) : Prop := n0 ≤ H.nc ∧ ∀ q ∈ gl, ∃ ob, H.cs q.1 = some ob ∧ ob.l = q.2

def MemoOK (P : Program) (gl : Gl) (n0 : Nat) (mem : Memo) : Prop :=
  ∀ p ∈ mem, (∃ n rs m, FnOK P p.1 n rs m) ∧ ∀ H, GlIn gl n0 H → CallS P p.1 p.2.1 H fun v H' => v = p.2.2 ∧ H' = H

theorem glIn_sound {P : Program} {gl : Gl} {n0 : Nat} {h : CH} (hh : glIn gl n0 h = true) : GlIn gl n0 (h.toH P) := by
  simp only [glIn, Bool.and_eq_true, decide_eq_true_eq, List.all_eq_true] at hh
  refine ⟨hh.1, fun q hq => ?_⟩
  have := hh.2 q hq
  split at this
  · rename_i ob hob
    exact ⟨ob, hob, sameL_eq this⟩
  · cases this

section
variable {P : Program}

theorem extM_sound {tab : FuncId → Option EKd} (ht : ∀ g k, tab g = some k → EOK P g k) {gl : Gl} {n0 : Nat} {mem : Memo} (hm : MemoOK P gl n0 mem) : ExtSound P (extM P tab gl n0 mem) where
  inv := by
    intro g fi args ca h v h' he K hK
    unfold extM at he
    split at he
    · rename_i p hp
      split at he
      · rename_i hgl
        cases he
        have hmem := List.mem_of_find?_eq_some hp
        have hpr := List.find?_some hp
        simp only [Bool.and_eq_true, beq_iff_eq] at hpr
        obtain ⟨hb, hc⟩ := hm p hmem
        obtain ⟨nn, rs, mc, hf⟩ := hb
        rw [hpr.1] at hf
        refine inv_fn hf ?_
        rw [← sameL_eq hpr.2, ← hpr.1]
        exact (hc (h.toH P) (glIn_sound hgl)).mono fun v1 H1 hh => by rw [hh.1, hh.2]; exact hK
      · cases he
    · exact (extT_sound ht).inv g fi args ca h v h' he K hK
  keeps := by
    intro g args h v h' he
    unfold extM at he
    split at he
    · split at he
      · cases he; exact .refl _
      · cases he
    · exact (extT_sound ht).keeps g args h v h' he

def glCells : Gl → Tr Obj
  | [] => .nil
  | q :: r => .ovr q.1 (some ⟨q.2, 0, .arg, false⟩) (glCells r)

def glH (gl : Gl) (n0 : Nat) : CH := { cells := glCells gl, nc := n0, its := .nil, ni := 0, lps := .nil, nl := 0, ds := .nil, nd := 0 }

theorem glCells_get {gl : Gl} {b : Nat} {ob : Obj} (h : (glCells gl).get b = some ob) : ∃ q ∈ gl, q.1 = b ∧ ob = ⟨q.2, 0, .arg, false⟩ := by
  induction gl with
  | nil => simp [glCells, Tr.get_nil] at h
  | cons q r ih =>
    simp only [glCells, Tr.get_ovr] at h
    split at h
    · rename_i hb
      cases h
      exact ⟨q, by simp, hb.symm, rfl⟩
    · obtain ⟨p, hp, h1, h2⟩ := ih h
      exact ⟨p, by simp [hp], h1, h2⟩

theorem gl_base {gl : Gl} {n0 : Nat} (hg : P.globals.size ≤ n0) (hk : (gl.all fun q => decide (q.1 < n0) && V.flatL q.2) = true) : Base P ((glH gl n0).toH P) where
  glob := hg
  fresh := fun b hb => by
    cases h : ((glH gl n0).toH P).cs b with
    | none => rfl
    | some ob =>
      obtain ⟨q, hq, h1, _⟩ := glCells_get h
      have := List.all_eq_true.1 hk q hq
      simp only [Bool.and_eq_true, decide_eq_true_eq] at this
      have hb' : n0 ≤ b := hb
      omega
  arg := fun b ob h => by
    obtain ⟨q, hq, h1, h2⟩ := glCells_get h
    have := List.all_eq_true.1 hk q hq
    simp only [Bool.and_eq_true, decide_eq_true_eq] at this
    subst h2
    exact ⟨rfl, this.2⟩
  part := fun b ob h => by
    obtain ⟨q, hq, h1, h2⟩ := glCells_get h
    subst h2; rfl
  its := fun i => rfl
  lps := fun i => rfl
  ds := fun i => rfl

theorem gl_sub {gl : Gl} {n0 : Nat} {H : Heap} (h : GlIn gl n0 H) : Sub ((glH gl n0).toH P) H := by
  refine ⟨h.1, fun b ob hb => ?_⟩
  obtain ⟨q, hq, h1, h2⟩ := glCells_get hb
  obtain ⟨ob', h3, h4⟩ := h.2 q hq
  subst h1 h2
  exact ⟨ob', h3, h4⟩

def layOK (P : Program) (fns : FuncId → Option FnE) (ext : FuncId → List V → CH → Option (V × CH)) (n : Nat) (gl : Gl) (n0 : Nat) (L : Memo) : Bool :=
  L.all fun p => (fns p.1).isSome && V.flatL p.2.1 && p.2.2.flat && answers P fns ext n p.1 p.2.1 (glH gl n0) p.2.2

theorem memo_nil (gl : Gl) (n0 : Nat) : MemoOK P gl n0 [] := fun p hp => by cases hp

theorem memo_lay (hm : P.follows .mixedOrders = true) {fns : FuncId → Option FnE} (hF : FnsOK P fns) {tab : FuncId → Option EKd} (ht : ∀ g k, tab g = some k → EOK P g k) {gl : Gl} {n0 : Nat} (hg : P.globals.size ≤ n0) (hk : (gl.all fun q => decide (q.1 < n0) && V.flatL q.2) = true) {mem L : Memo} (hmem : MemoOK P gl n0 mem) {n : Nat}
    (h : layOK P fns (extM P tab gl n0 mem) n gl n0 L = true) : MemoOK P gl n0 (L ++ mem) := by
  intro p hp
  rcases List.mem_append.1 hp with hp | hp
  · have := List.all_eq_true.1 h p hp
    simp only [Bool.and_eq_true] at this
    obtain ⟨ff, hff⟩ := Option.isSome_iff_exists.1 this.1.1.1
    refine ⟨⟨_, _, _, hF _ _ hff⟩, fun H hH => ?_⟩
    exact callS_answers hm hF (extM_sound ht hmem) this.2 this.1.2 this.1.1.2 (gl_base hg hk) (gl_sub hH)
  · exact hmem p hp

end
end Go.Cm
namespace Go.Cm
open Go Go.RowKit

inductive FnT where
  | leaf (k n : Nat) (rs : List ResultVar) (m : MC)
  | node (c : Nat) (a b : FnT)

def FnT.get : FnT → FuncId → Option FnE
  | .leaf k n rs m, g => (match Nat.beq g k with
    | true => some ⟨n, rs, m⟩
    | false => none)
  | .node c a b, g => (match Nat.ble g c with
    | true => a.get g
    | false => b.get g)

section
variable {P : Program}

theorem fnT_leaf {k n : Nat} {rs : List ResultVar} {m : MC} (h : FnOK P k n rs m) : FnsOK P (FnT.leaf k n rs m).get := by
  intro g f hf
  simp only [FnT.get] at hf
  split at hf
  · rename_i hg
    have := Nat.eq_of_beq_eq_true hg
    subst this
    cases hf
    exact h
  · cases hf

theorem fnT_node {c : Nat} {a b : FnT} (ha : FnsOK P a.get) (hb : FnsOK P b.get) : FnsOK P (FnT.node c a b).get := by
  intro g f hf
  simp only [FnT.get] at hf
  split at hf
  · exact ha g f hf
  · exact hb g f hf

end
end Go.Cm
set_option linter.unusedVariables false
set_option linter.unusedSimpArgs false
namespace Go.Cm
open Go Go.RowKit

/-- The kit's wrap over a condition on memory, the world's shape kept. -/
theorem handed_and_shaped {H : Type} {enc : TypeId × Value → H} {a : Assume} {C : Checked} {os : Os} {f : FuncId} {fn : Func} {s : ChangeSpec} {conds : List PathCond} {apart fresh handsOn again : Bool} {X : World → Array Value → Prop}
    (hX : ∀ (w w' : World) (args : Array Value), w.heap = w'.heap → X w args → X w' args)
    (own : ownKnob C.prog.godebug = none) (started : os.Started) (noInit : C.prog.inits.idxOf? f = none) (hfn : C.prog.funcs[f]? = some fn)
    (witness : ∃ (w : World) (tape : Tape) (i : Input), w.os = os ∧ (w.forCall tape i).Shaped C.prog ∧ i.vars = [] ∧ Input.okWide C.prog (w.forCall tape i) .any w.heap.size f i ∧
      ((s.pre enc C.prog fn conds apart (w.forCall tape i).memory i.args ∧ X (w.forCall tape i).memory i.args) ∧ sizedMet enc C.prog fn (OpenSpec.ofChange s) apart (w.forCall tape i).memory i.args) ∧ a.holds C.prog (lone (Frame.enter C.prog f i.args .normal) [] (w.forCall tape i)))
    (contract : ∀ (W : World) (base : Nat) (args : Array Value) (ds gs : List (DataW H)) (before : List MemPlace),
      (∀ (j : Nat) t v, fn.params[j]? = some t → args[j]? = some v → Value.okWide C.prog W .any base t v) →
      DataW.Whole enc C.prog fn.params.toList s.vars apart W args.toList ds gs before →
      conds.all (PathCond.test C.prog ⟨fn.params.toList, ds, s.plain.varTypes C.prog, gs⟩) = true →
      (DataW.weightsEach C.prog (fn.params.toList ++ s.plain.varTypes C.prog) (ds ++ gs)).all (· ≤ reachBytes) = true → X W args →
      W.ShapedOpen C.prog →
      a.holds C.prog (lone (Frame.enter C.prog f args .normal) [] W) →
      Calls C.prog f args W fun e W' => ∃ v, e = .returned v ∧ s.post enc C.prog fn apart fresh handsOn again W args v W') :
    ReturnsInHanded a C os f .any (fun w args => (s.pre enc C.prog fn conds apart w args ∧ X w args) ∧ sizedMet enc C.prog fn (OpenSpec.ofChange s) apart w args) (s.post enc C.prog fn apart fresh handsOn again) := by
  refine returnsInHanded_of_calls own started noInit witness ?_
  intro w tape i _ hsh _ hok hpre hholds
  obtain ⟨_, _, _, fn', hfn', _, _, _, _, hval⟩ := hok
  have e : fn' = fn := Option.some.inj (hfn'.symm.trans hfn)
  subst e
  obtain ⟨⟨⟨ds, gs, before, hw, hc⟩, hx⟩, hz⟩ := hpre
  have hw' := DataW.Whole.of_heap (w' := w.forCall tape i) (by rfl) hw
  refine (contract (w.forCall tape i) w.heap.size i.args ds gs before hval hw' hc (hz.weights hw) (hX _ _ _ (by rfl) hx) hsh hholds).mono fun e W' ⟨v, he, hp⟩ => ?_
  subst he
  exact ChangeSpec.post_blind hp

/-- A world's first relation: package-level variables alone. -/
def limAt (W : World) (b : Nat) : Nat := match W.heap[b]? with | some (.cells a _ _) => a.size | _ => 0
def injInit (P : Program) (W : World) : Inj := ⟨fun b => if b < P.globals.size then some ⟨b, 0, 1, limAt W b⟩ else none, fun _ => none, fun _ => none, fun _ => none⟩

theorem st_init {P : Program} {W : World} {H0 : Heap} (hb : Base P H0) (hnc : H0.nc = P.globals.size) (hW : P.globals.size ≤ W.heap.size)
    (hblk : ∀ b ob, H0.cs b = some ob → ∃ arr e fr, W.heap[b]? = some (.cells ⟨arr⟩ e fr) ∧ arr.length = ob.l.length ∧ LRel (injInit P W) ob.l arr ∧ ∀ x ∈ ob.l, V.isCell x = true) : StRel P W.heap.size W (injInit P W) H0 W := by
  refine { below := .refl _ _, base := Nat.le_refl _, cells := ?_, sep := ?_, freshC := ?_, its := ?_, itsep := ?_, freshI := ?_, lps := ?_, lpsep := ?_, freshL := ?_, ds := ?_, dsep := ?_, freshD := ?_, inC := ?_, inI := ?_, inL := ?_, inD := ?_, globs := ?_ }
  · intro b ob hob
    obtain ⟨arr, e, fr, h1, h2, h3, h4⟩ := hblk b ob hob
    have hlt : b < P.globals.size := by
      rw [← hnc]
      rcases Nat.lt_or_ge b H0.nc with h | h
      · exact h
      · rw [hb.fresh b h] at hob; cases hob
    have harg := (hb.arg b ob hob).1
    refine ⟨⟨b, 0, 1, limAt W b⟩, arr, fr, e, by simp only [injInit, hlt, if_true], ⟨h1, by simp [limAt, h1], by simp [h2], ?_, fun h => absurd harg h, fun h => (by rw [harg] at h; cases h), fun _ => Nat.lt_of_lt_of_le hlt hW, h4, fun h => absurd harg h, fun h => (by rw [hb.part b ob hob] at h; cases h)⟩⟩
    simp only [List.drop_zero]
    rw [List.take_of_length_le (by omega)]
    exact h3
  · intro b b' ob ob' ci ci' h1 _ _ _ hk
    exact absurd (hb.arg b ob h1).1 hk
  · intro b hbn
    exact ⟨hb.fresh b hbn, by simp only [injInit]; rw [if_neg (by omega)]⟩
  · intro i s pos hi; rw [hb.its i] at hi; cases hi
  · intro i j g hi; cases hi
  · intro i _; exact ⟨hb.its i, rfl⟩
  · intro i s hi; rw [hb.lps i] at hi; cases hi
  · intro i j g hi; cases hi
  · intro i _; exact ⟨hb.lps i, rfl⟩
  · intro i hi; rw [hb.ds i] at hi; cases hi
  · intro i j g hi; cases hi
  · intro i _; exact ⟨hb.ds i, rfl⟩
  · intro b x hx
    simp only [injInit] at hx
    split at hx
    · rename_i hlt
      cases hx
      exact Nat.lt_of_lt_of_le hlt hW
    · cases hx
  · intro b x hx; cases hx
  · intro b x hx; cases hx
  · intro b x hx; cases hx
  · intro g hg
    exact ⟨_, by simp only [injInit, hg, if_true]; rfl, rfl, rfl⟩

theorem LRel.ints {f : Inj} {k : IntKind} : ∀ (zs : List Int), LRel f (zs.map fun z => V.int k z) (zs.map fun z => Value.int k z)
  | [] => LRel.nil f
  | z :: zs => LRel.cons (.int k z) (LRel.ints zs)

/-- The table stands somewhere on the list. -/
theorem tabIs_of_reads {P : Program} {W : World} {name : String} {k : IntKind} {zs : List Int} {l : List (String × DataW Unit)} {g : Nat} {t e : TypeId} {n : Nat}
    (hg : P.globalNamed name = some g) (hty : (P.globals[g]?).map (·.type) = some t) (ht : P.underlying t = some (.array n e)) (he : P.underlying e = some (.int k)) (hce : P.cellsOf e = 1) (hct : P.cellsOf t = n)
    (h : laidMet P l W) (hm : (name, Lib.tabData k zs) ∈ l) : Lib.TabIs P W name k zs := by
  obtain ⟨g', t', cs, fuel, p, hg', ht', hvar, hd⟩ := Lib.laidMet.reads h hm
  obtain rfl := Option.some.inj (hg.symm.trans hg')
  obtain rfl := Option.some.inj (hty.symm.trans ht')
  unfold Lib.TabIs
  rw [hvar, ← Lib.cells_of_tab ht he hce hct hd]

theorem heap_of_tab {P : Program} {W : World} {name : String} {k : IntKind} {zs : List Int} {g : Nat} (hg : P.globalNamed name = some g) (h : Lib.TabIs P W name k zs) : ∃ e fr, W.heap[g]? = some (.cells (zs.map fun z => Value.int k z).toArray e fr) := by
  unfold Lib.TabIs World.var? at h
  rw [hg] at h
  simp only [Option.bind_some] at h
  split at h
  · rename_i cs e fr hh
    cases h
    exact ⟨e, fr, hh⟩
  · cases h

end Go.Cm
