/- The abstract operations are sound: loads, stores, allocations, numbers. -/
import Derived.Test.YtgalmibnlkbdiaaGreatDoorCmHeap
import Derived.Laws.Cells
import Derived.Laws.IdiomCopy
set_option linter.unusedVariables false
set_option linter.unusedSimpArgs false
namespace Go.Cm
open Go Go.RowKit

theorem add_none (g o j : Nat) : (⟨g, o, none⟩ : Addr).add j = ⟨g, o + j, none⟩ := by unfold Addr.add; split <;> simp_all

theorem tiOf_spec {P : Program} {t : TypeId} {ti : TI} (h : tiOf P t = some ti) : ∃ i d, P.info? t = some i ∧ P.underlying t = some d ∧ ti.kd = kdOf d ∧ ti.size = i.size ∧ ti.bytes = i.bytes ∧ ti.zero = zeroOf i := by
  unfold tiOf at h
  split at h
  · rename_i i d hi hd
    cases h
    exact ⟨i, d, hi, hd, rfl, rfl, rfl, rfl⟩
  · cases h

theorem kdAt_spec {P : Program} {t : TypeId} {k : Kd} (h : kdAt P t = some k) : ∃ d, P.underlying t = some d ∧ k = kdOf d := by
  unfold kdAt at h
  cases ht : tiOf P t with
  | none => rw [ht] at h; cases h
  | some ti =>
    rw [ht] at h
    obtain ⟨i, d, h1, h2, h3, _⟩ := tiOf_spec ht
    simp at h
    exact ⟨d, h2, by rw [← h, h3]⟩

theorem fset_fset {α : Type} (f : Nat → α) (i : Nat) (a b : α) : fset (fset f i a) i b = fset f i b := by
  funext j; simp only [fset]; split <;> rfl

section
variable {P : Program} {B : Nat} {w0 : World} {f : Inj} {H : Heap} {w : World}

theorem run_isAgg {t : TypeId} {d : TypeDesc} (h : P.underlying t = some d) (w : World) : (isAgg t).run P w = .ok (kdOf d).isAgg w := by
  simp only [isAgg, Sem.run_bind, run_underlying h, Result.andThen_ok]
  cases d <;> rfl

theorem run_sizeOf' {t : TypeId} {i : TypeInfo} (h : P.info? t = some i) (w : World) : (sizeOf t).run P w = .ok i.size w := by
  simp [sizeOf, typeInfo, h]

theorem run_typeInfo' {t : TypeId} {i : TypeInfo} (h : P.info? t = some i) (w : World) : (typeInfo t).run P w = .ok i w := by
  simp [typeInfo, h]

theorem ORel.cell {ci : CI} {ob : Obj} {arr : List Value} {fr : Nat × Nat} {e : TypeId} (ho : ORel P B f w ci ob arr fr e) {i : Nat} {x : V} (hx : ob.l[i]? = some x) :
    ∃ y, arr[ci.d + i]? = some y ∧ VRel f x y ∧ w.cell? ⟨ci.g, ci.d + i, none⟩ = some y := by
  obtain ⟨y, hy, hr⟩ := ho.rel.get hx
  have hi : i < ob.l.length := (List.getElem?_eq_some_iff.1 hx).1
  rw [List.getElem?_take, if_pos hi, List.getElem?_drop] at hy
  exact ⟨y, hy, hr, by simp [World.cell?, ho.heap, hy]⟩

theorem ORel.read {ci : CI} {ob : Obj} {arr : List Value} {fr : Nat × Nat} {e : TypeId} (ho : ORel P B f w ci ob arr fr e) {o n : Nat} {cs : List V} (hx : readCells ob.l o n = some cs) :
    ∃ ys, LRel f cs ys ∧ ys.length = n ∧ (∀ (j : Nat) y, ys[j]? = some y → w.cell? ((⟨ci.g, ci.d + o, none⟩ : Addr).add j) = some y) ∧ ys = ((arr.drop (ci.d + o)).take n) := by
  unfold readCells at hx
  split at hx
  · rename_i hle
    cases hx
    have hfit := ho.fits
    refine ⟨(arr.drop (ci.d + o)).take n, ?_, by simp; omega, ?_, rfl⟩
    · have := (ho.rel.drop o).take n
      rw [List.drop_take, List.take_take, List.drop_drop, Nat.min_eq_left (by omega)] at this
      exact this
    · intro j y hy
      rw [List.getElem?_take] at hy
      split at hy
      · rw [List.getElem?_drop] at hy
        rw [add_none]
        simp [World.cell?, ho.heap, hy]
      · cases hy
  · cases hx

theorem load_sound (h : StRel P B w0 f H w) {b o : Nat} {va : Value} (ha : VRel f (.ptr b o) va) {t : TypeId} {ti : TI} (ht : tiOf P t = some ti) {v : V} (hl : H.load ti b o = some v) :
    ∃ v', (Instr.loadAt t va).run P w = .ok v' w ∧ VRel f v v' := by
  obtain ⟨ci, hc, rfl⟩ := ha.ptr_inv
  obtain ⟨i, d, hi, hd, h1, h2, _⟩ := tiOf_spec ht
  unfold Heap.load at hl
  cases hb : H.cs b with
  | none => rw [hb] at hl; cases hl
  | some ob =>
    rw [hb] at hl
    obtain ⟨ci', arr, fr, e, hc', ho⟩ := h.cells b ob hb
    rw [hc] at hc'; cases hc'
    simp only [Instr.loadAt, Instr.sureAddr, Sem.run_bind, Sem.run_pure, Result.andThen_ok, loadVar, run_isAgg hd]
    rw [h1] at hl
    by_cases hg : (kdOf d).isAgg = true
    · simp only [hg, if_true] at hl ⊢
      cases hr : readCells ob.l o ti.size with
      | none => rw [hr] at hl; cases hl
      | some cs =>
        rw [hr] at hl
        simp at hl
        subst hl
        obtain ⟨ys, hy, hlen, hcell, _⟩ := ho.read hr
        refine ⟨.agg ⟨ys⟩, ?_, .agg' hy⟩
        have := run_loadCells_list (P := P) w ⟨ci.g, ci.d + o, none⟩ ys hcell
        rw [hlen, h2] at this
        simp only [Sem.run_bind, run_sizeOf' hi, Result.andThen_ok, this, Sem.run_pure]
    · simp only [Bool.not_eq_true] at hg
      simp only [hg, Bool.false_eq_true, if_false] at hl ⊢
      obtain ⟨y, _, hr, hcell⟩ := ho.cell hl
      refine ⟨y, ?_, hr⟩
      simp [hcell]

/-! ### Stores -/
theorem spl_get {α : Type} (arr : List α) (o : Nat) (vs : List α) (h : o + vs.length ≤ arr.length) (j : Nat) :
    (arr.take o ++ (vs ++ arr.drop (o + vs.length)))[j]? = if j < o then arr[j]? else if j < o + vs.length then vs[j - o]? else arr[j]? := by
  simp only [List.getElem?_append, List.length_take, List.getElem?_take, List.getElem?_drop]
  have e : min o arr.length = o := by omega
  rw [e]
  by_cases h1 : j < o
  · rw [if_pos h1, if_pos h1, if_pos h1]
  · rw [if_neg h1, if_neg h1]
    by_cases h2 : j < o + vs.length
    · rw [if_pos (by omega), if_pos h2]
    · rw [if_neg (by omega), if_neg h2]
      congr 1
      omega
theorem spl_len {α : Type} (arr : List α) (o : Nat) (vs : List α) (h : o + vs.length ≤ arr.length) : (arr.take o ++ (vs ++ arr.drop (o + vs.length))).length = arr.length := by
  simp; omega
theorem setCells_heap (g : Nat) : ∀ (vs : List Value) (o : Nat) (w : World) (arr : List Value) (e : TypeId) (fr : Nat × Nat), w.heap[g]? = some (.cells ⟨arr⟩ e fr) → o + vs.length ≤ arr.length →
    (w.setCells g o vs).heap[g]? = some (.cells ⟨arr.take o ++ (vs ++ arr.drop (o + vs.length))⟩ e fr) ∧ (∀ k, k ≠ g → (w.setCells g o vs).heap[k]? = w.heap[k]?) ∧ (w.setCells g o vs).heap.size = w.heap.size ∧ SameOut w (w.setCells g o vs)
  | [], o, w, arr, e, fr, hg, _ => by
    refine ⟨?_, fun _ _ => rfl, rfl, .refl w⟩
    simp [World.setCells, hg]
  | v :: r, o, w, arr, e, fr, hg, hl => by
    have hg1 : (w.setCell ⟨g, o, none⟩ v).heap[g]? = some (.cells ⟨arr.set o v⟩ e fr) := by
      simp [World.setCell, Array.getElem?_modify, hg]
    obtain ⟨h1, h2, h3, h4⟩ := setCells_heap g r (o + 1) (w.setCell ⟨g, o, none⟩ v) (arr.set o v) e fr hg1 (by simp at hl ⊢; omega)
    refine ⟨?_, ?_, ?_, ?_⟩
    · rw [World.setCells, h1]
      congr 3
      simp at hl
      apply List.ext_getElem?
      intro j
      rw [spl_get _ _ _ (by simp; omega), spl_get _ _ _ (by simp; omega)]
      simp only [List.getElem?_set, List.length_cons, List.getElem?_cons]
      rcases Nat.lt_trichotomy j o with hj | hj | hj
      · rw [if_pos (by omega), if_neg (by omega), if_pos (by omega)]
      · subst hj
        rw [if_pos (by omega), if_pos rfl, if_pos (by omega), if_neg (by omega), if_pos (by omega), if_pos (by omega)]
      · rw [if_neg (by omega), if_neg (by omega : ¬ j < o)]
        by_cases hj2 : j < o + 1 + r.length
        · rw [if_pos hj2, if_pos (by omega : j < o + (r.length + 1)), if_neg (by omega : ¬ j - o = 0)]
          congr 1
        · rw [if_neg hj2, if_neg (by omega : ¬ o = j), if_neg (by omega : ¬ j < o + (r.length + 1))]
    · intro k hk
      rw [World.setCells, h2 k hk, Below.heap_setCell _ _ _ _ (by simpa using hk)]
    · rw [World.setCells, h3]; simp [World.setCell]
    · exact ⟨h4.os, h4.tape, h4.output⟩

theorem unfr_frozen {w : World} {g : Nat} {arr : List Value} {e : TypeId} {fr : Nat × Nat} (hg : w.heap[g]? = some (.cells ⟨arr⟩ e fr)) {j : Nat} (h : unfr fr j) : w.frozen? ⟨g, j, none⟩ = false := by
  simp only [World.frozen?, hg]
  simp only [unfr] at h
  by_cases h1 : fr.1 ≤ j
  · have : ¬ j < fr.2 := fun h2 => h ⟨h1, h2⟩
    simp [h1, this]
  · simp [h1]

/-- Writing cells of a block of the program's own. -/
theorem write_sound (h : StRel P B w0 f H w) {b : Nat} {ob : Obj} (hb : H.cs b = some ob) (hk : ob.k = .own) {o : Nat} {cs : List V} {ms : List Value} (hr : LRel f cs ms) (h1 : ∀ x ∈ ms, x.oneCell' = true) (hi : ∀ x ∈ cs, V.isCell x = true)
    (hlen : o + cs.length ≤ ob.l.length) {ci : CI} (hc : f.c b = some ci) :
    ∃ w', (∀ a : Addr, a = ⟨ci.g, ci.d + o, none⟩ → (storeCells a ms).run P w = .ok () w') ∧ StRel P B w0 f (H.put b (some { ob with l := splice ob.l o cs })) w' ∧ SameOut w w' := by
  obtain ⟨ci', arr, fr, e, hc', ho⟩ := h.cells b ob hb
  rw [hc] at hc'; cases hc'
  have hfit := ho.fits
  have hml := hr.len
  have hown := ho.own hk
  have hst := run_storeCells_cells (P := P) ci.g (ci.d + o) ms 0 w
    (fun j hj => by
      have : ci.d + o + 0 + j < arr.length := by omega
      simp [World.cell?, ho.heap]
      omega)
    (fun j hj => unfr_frozen ho.heap (hown _ (by omega))) h1
  obtain ⟨g1, g2, g3, g4⟩ := setCells_heap ci.g ms (ci.d + o) w arr e fr ho.heap (by omega)
  refine ⟨w.setCells ci.g (ci.d + o) ms, fun a ha => by subst ha; simpa using hst, ?_, g4⟩
  have hlt : b < H.nc := by
    rcases Nat.lt_or_ge b H.nc with h' | h'
    · exact h'
    · have := (h.freshC b h').1; rw [hb] at this; cases this
  have hfree := h.free_kill hb hc
  have hbase := (ho.ty (by rw [hk]; simp)).2.1
  have s1 := (h.kill b).setFree g4 hbase hfree ho.heap g3 g2
  have hput : ((H.put b none).put b (some { ob with l := splice ob.l o cs })) = H.put b (some { ob with l := splice ob.l o cs }) := by
    simp only [Heap.put, fset_fset]
  have hput2 : ((H.put b none).put b none) = H.put b none := by
    simp only [Heap.put, fset_fset]
  have hsl : (splice ob.l o cs).length = ob.l.length := by simp [splice]; omega
  have := s1.revive (b := b) (ob := { ob with l := splice ob.l o cs }) (ci := ci) (arr := arr.take (ci.d + o) ++ (ms ++ arr.drop (ci.d + o + ms.length))) (fr := fr) (e := e) hlt hc
    { heap := g1
      lim := by rw [← ho.lim]; simp; omega
      fits := by rw [hsl]; simp; omega
      rel := by
        rw [hsl]
        have hsp := splice_rel ho.rel hr o
        have : (((List.drop ci.d arr).take ob.l.length).take o ++ (ms ++ ((List.drop ci.d arr).take ob.l.length).drop (o + ms.length))) = ((arr.take (ci.d + o) ++ (ms ++ arr.drop (ci.d + o + ms.length))).drop ci.d).take ob.l.length := by
          apply List.ext_getElem?
          intro j
          rw [spl_get _ _ _ (by simp; omega)]
          simp only [List.getElem?_take, List.getElem?_drop, spl_get arr (ci.d + o) ms (by omega)]
          by_cases hj : j < ob.l.length
          · simp only [hj, if_true]
            by_cases h1 : j < o
            · rw [if_pos h1, if_pos (by omega : ci.d + j < ci.d + o)]
            · rw [if_neg h1, if_neg (by omega : ¬ ci.d + j < ci.d + o)]
              by_cases h2 : j < o + ms.length
              · rw [if_pos h2, if_pos (by omega : ci.d + j < ci.d + o + ms.length)]; congr 1; omega
              · rw [if_neg h2, if_neg (by omega : ¬ ci.d + j < ci.d + o + ms.length)]
          · simp only [hj, if_false]
            rw [if_neg (by omega : ¬ j < o), if_neg (by omega : ¬ j < o + ms.length)]
        rw [← this]
        exact hsp
      ty := fun hka => ho.ty hka
      own := fun _ j hj => hown j (by simp at hj; omega)
      arg := fun hf => by rw [show ({ ob with l := splice ob.l o cs } : Obj).k = ob.k from rfl, hk] at hf; cases hf
      isc := splice_isc ho.isc hi o
      frle := fun hh => ho.frle hh
      whole := fun hw => ⟨(ho.whole hw).1, by have := (ho.whole hw).2; rw [hsl]; simp; omega⟩ } (by rw [hk]; simp) (by rw [hput2]; exact hfree)
  rw [hput] at this
  exact this

theorem store_sound (h : StRel P B w0 f H w) {b o : Nat} {va vx : Value} (ha : VRel f (.ptr b o) va) {t : TypeId} {ti : TI} (ht : tiOf P t = some ti) {x : V} (hx : VRel f x vx) {H' : Heap} (hs : H.store ti b o x = some H') :
    ∃ w', (Instr.storeAt t va vx).run P w = .ok () w' ∧ StRel P B w0 f H' w' := by
  obtain ⟨ci, hc, rfl⟩ := ha.ptr_inv
  obtain ⟨i, d, hi, hd, h1, h2, _⟩ := tiOf_spec ht
  unfold Heap.store at hs
  split at hs
  · rename_i ob cs hb hcs
    split at hs
    · rename_i hcond
      cases hs
      obtain ⟨hrel, hone⟩ := cellsOf_rel hx hcs
      obtain ⟨w', hw', hst, _⟩ := write_sound h hb hcond.1 hrel hone (cellsOf_isc hcs) hcond.2.2 hc
      refine ⟨w', ?_, hst⟩
      have hsz : vx.cells.size = i.size := by
        have := hrel.len
        simp at this
        rw [← this, hcond.2.1, h2]
      simp only [Instr.storeAt, Instr.sureAddr, Sem.run_bind, Sem.run_pure, Result.andThen_ok, storeVar, run_sizeOf' hi, hsz, ne_eq, not_true, if_false]
      exact hw' _ rfl
    · cases hs
  · cases hs

end
end Go.Cm
