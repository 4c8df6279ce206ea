/- The abstract operations are sound: copy, conversions, type assertions; all operations together. -/
import Derived.Test.YtgalmibnlkbdiaaGreatDoorCmOpsU
import Derived.Laws.BytesArg
set_option linter.unusedVariables false
set_option linter.unusedSimpArgs false
namespace Go.Cm
open Go Go.RowKit

section
variable {P : Program} {B : Nat} {w0 : World} {f : Inj} {H : Heap} {w : World}

theorem copyOp_sound (h : StRel P B w0 f H w) {t : TypeId} {ts : List TypeId} {d s : V} {vd vs : Value} (hd0 : VRel f d vd) (hs : VRel f s vs) {v : V} {H' : Heap} (he : copyOp P t d s H = .val v H') (ty : TypeId) :
    ∃ v' w', (Builtin.copy_ ⟨t :: ts⟩ ty #[vd, vs]).run P w = .ok v' w' ∧ StRel P B w0 f H' w' ∧ VRel f v v' := by
  unfold copyOp at he
  have e1 : (⟨t :: ts⟩ : Array TypeId)[0]? = some t := rfl
  have e2 : (#[vd, vs] : Array Value)[0]? = some vd := rfl
  have e3 : (#[vd, vs] : Array Value)[1]? = some vs := rfl
  split at he
  · cases he
  · rename_i ti ht
    obtain ⟨inf, dd, hinf, hd, hk, _⟩ := tiOf_spec ht
    split at he
    · rename_i e hkk
      rw [hk] at hkk
      have := kd_slice hkk
      subst this
      split at he
      · cases he
      · rename_i ei hei
        obtain ⟨i2, d2, hi2, _, _, hs2, hb2, hz⟩ := tiOf_spec hei
        split at he
        · rename_i m cs hnc
          cases he
          rw [hs2] at hnc
          obtain ⟨hlen, ms, hfc, _⟩ := newCells_take h hs hnc
          refine ⟨.int .i64 0, w, ?_, h, .int _ _⟩
          simp only [Builtin.copy_, e1, e2, e3, Sem.run_bind, run_underlying hd, Result.andThen_ok]
          rw [hd0.nilslice_inv]
          have := hfc 0 (by omega) w rfl
          simp only [Sem.run_bind, hlen, Result.andThen_ok, run_sizeOf' hi2, Nat.min_def, Nat.le_zero]
          split
          · rename_i h0; subst h0; simp only [this, Result.andThen_ok]; rfl
          · simp only [this, Result.andThen_ok]; rfl
        · rename_i m cs b o n c ex hnc
          rw [hs2] at hnc
          obtain ⟨hlen, ms, hfc, hrel, hone, hisc, hcl⟩ := newCells_take h hs hnc
          obtain ⟨ci, a, c', hc, rfl, ha, hcc, hex, hn, hlim⟩ := hd0.slice_inv
          have hfk := hfc (min m n) (Nat.min_le_left _ _) w rfl
          split at he
          · rename_i h0
            cases he
            refine ⟨.int .i64 0, w, ?_, h, .int _ _⟩
            rw [h0] at hfk
            have h0' : Nat.min m n = 0 := h0
            simp only [Builtin.copy_, e1, e2, e3, Sem.run_bind, run_underlying hd, Result.andThen_ok, hlen, run_sizeOf' hi2, h0', hfk, Nat.zero_mul, List.take_zero]
            rfl
          · rename_i h0
            split at he
            · rename_i ob hob
              split at he
              · rename_i hcond
                cases he
                rw [hs2] at hcond ⊢
                have ha' : a = ⟨ci.g, ci.d + o, none⟩ := by rcases ha with ha | ha; omega; exact ha
                subst ha'
                have hlt : (cs.take (min m n * i2.size)).length = min m n * i2.size := by
                  rw [List.length_take, hcl]
                  exact Nat.min_eq_left (Nat.mul_le_mul_right _ (Nat.min_le_left _ _))
                obtain ⟨w', hw', hst, _⟩ := write_sound h hob hcond.1 (hrel.take (min m n * i2.size)) (fun y hy => hone y (List.mem_of_mem_take hy)) (fun y hy => hisc y (List.mem_of_mem_take hy)) (o := o) (by rw [hlt]; exact hcond.2) hc
                refine ⟨.int .i64 (min m n : Nat), w', ?_, hst, .int _ _⟩
                have hm' : Nat.min m n = min m n := rfl
                simp only [Builtin.copy_, e1, e2, e3, Sem.run_bind, run_underlying hd, Result.andThen_ok, hlen, run_sizeOf' hi2, hm', hfk, hw' _ rfl, Sem.run_pure]
                rfl
              · cases he
            · cases he
        · cases he
    · cases he

theorem stringToBytes_run (s : List UInt8) (e : TypeId) {nc : Nat} {w w1 : World} (hch : (choose (.appendCap s.length 0 e)).run P w = .ok nc w1) (hge : s.length ≤ nc) :
    (Conv.stringToBytes e ⟨⟨s⟩⟩).run P w = .ok (.slice (some ⟨w1.heap.size, 0, none⟩) s.length nc) { w1 with heap := w1.heap.push (.cells ⟨(s.map fun b => Value.int .u8 b.toNat) ++ List.replicate (nc - s.length) (Value.int .u8 0)⟩ e (nc, nc + 1)) } := by
  have hsz : (⟨⟨s⟩⟩ : ByteArray).size = s.length := rfl
  have hl : ((s.map fun b => Value.int .u8 b.toNat) ++ List.replicate (nc - s.length) (Value.int .u8 0)).length = nc := by simp; omega
  have harr : (Array.map (fun b => Value.int .u8 (b.toNat : Int)) (⟨s⟩ : Array UInt8) ++ Array.replicate (nc - s.length) (Value.int .u8 0)) = ⟨(s.map fun b => Value.int .u8 b.toNat) ++ List.replicate (nc - s.length) (Value.int .u8 0)⟩ := by
    apply Array.ext'
    simp
  simp only [Conv.stringToBytes, hsz, Sem.run_bind, hch, Result.andThen_ok, harr, newRow, run_newObj, Sem.run_pure, markStringish, run_shape]
  have hsh : World.shape? { w1 with heap := w1.heap.push (.cells ⟨(s.map fun b => Value.int .u8 b.toNat) ++ List.replicate (nc - s.length) (Value.int .u8 0)⟩ e) } w1.heap.size = some (e, nc) := by
    simp only [World.shape?, Array.getElem?_push, if_true]
    congr 2
  simp only [hsh, run_freeze, Result.andThen_ok, Sem.run_pure]
  congr 1
  simp only [World.freeze]
  rw [if_neg (by omega)]
  congr 1
  apply Array.ext_getElem?
  intro i
  simp only [Array.getElem?_modify, Array.getElem?_push]
  by_cases h : i = w1.heap.size
  · subst h
    simp
  · rw [if_neg (by omega), if_neg h, if_neg h]

/-- One cell behind the block's end is frozen: none that is known. -/
theorem freezeEnd_sound (h : StRel P B w0 f H w) {b : Nat} {ob : Go.Cm.Obj} (hb : H.cs b = some ob) (hk : ob.k = .own) {ci : CI} (hc : f.c b = some ci) :
    ∃ n e, w.shape? ci.g = some (e, n) ∧ StRel P B w0 f H (w.freeze { block := ci.g, off := n } 1) := by
  obtain ⟨ci', arr, fr, e, hc', ho⟩ := h.cells b ob hb
  rw [hc] at hc'; cases hc'
  obtain ⟨lo, hi⟩ := fr
  have hle : lo ≤ hi := ho.frle (by rw [hk]; simp)
  have hown := ho.own hk
  have hlt : b < H.nc := by
    rcases Nat.lt_or_ge b H.nc with h' | h'
    · exact h'
    · have := (h.freshC b h').1; rw [hb] at this; cases this
  refine ⟨arr.length, e, by simp [World.shape?, ho.heap], ?_⟩
  have hgl : ci.g < w.heap.size := h.inC b ci hc
  have hheap : (w.freeze { block := ci.g, off := arr.length } 1).heap = w.heap.modify ci.g fun
      | .cells c elem (lo, hi) => .cells c elem (if lo == hi then (arr.length, arr.length + 1) else (min lo arr.length, max hi (arr.length + 1)))
      | o => o := by
    unfold World.freeze
    rw [if_neg (by omega)]
    rfl
  have hg : (w.freeze { block := ci.g, off := arr.length } 1).heap[ci.g]? = some (.cells ⟨arr⟩ e (if lo == hi then (arr.length, arr.length + 1) else (min lo arr.length, max hi (arr.length + 1)))) := by
    rw [hheap, Array.getElem?_modify, if_pos rfl, ho.heap]
    rfl
  have hne : ∀ k, k ≠ ci.g → (w.freeze { block := ci.g, off := arr.length } 1).heap[k]? = w.heap[k]? := fun k hk => by
    rw [hheap, Array.getElem?_modify, if_neg (Ne.symm hk)]
  have hsz : (w.freeze { block := ci.g, off := arr.length } 1).heap.size = w.heap.size := by rw [hheap]; simp
  have hso : SameOut w (w.freeze { block := ci.g, off := arr.length } 1) := by
    constructor <;> simp [World.freeze]
  obtain ⟨t1, t2, t3⟩ := ho.ty (by rw [hk]; simp)
  have s1 := (h.kill b).setFree hso t2 (h.free_kill hb hc) ho.heap hsz hne
  have hput2 : ((H.put b none).put b none) = H.put b none := by simp only [Heap.put, fset_fset]
  have hput : ((H.put b none).put b (some ob)) = H := by
    obtain ⟨cs, nc, its, ni, lps, nl, ds, nd⟩ := H
    simp only [Heap.put, fset_fset]
    congr 1
    funext j
    simp only [fset]
    split
    · rename_i hj; rw [hj]; exact hb.symm
    · rfl
  have := s1.revive (b := b) (ob := ob) (ci := ci) (arr := arr) (fr := if lo == hi then (arr.length, arr.length + 1) else (min lo arr.length, max hi (arr.length + 1))) (e := e) hlt hc
    { heap := hg
      lim := ho.lim
      fits := ho.fits
      rel := ho.rel
      ty := ho.ty
      own := fun _ j hj => by
        unfold unfr
        split
        · simp only; omega
        · rename_i hlh
          have hlh' : lo ≠ hi := by simpa using hlh
          have hlo : arr.length ≤ lo := by
            rcases Nat.lt_or_ge lo arr.length with hx | hx
            · have := hown lo hx
              unfold unfr at this
              simp only at this
              omega
            · exact hx
          simp only
          omega
      arg := ho.arg
      isc := ho.isc
      frle := fun _ => by
        split
        · simp only; omega
        · simp only; omega
      whole := ho.whole } (by rw [hk]; simp) (by rw [hput2]; exact h.free_kill hb hc)
  rw [hput] at this
  exact this

theorem convOp_sound (h : StRel P B w0 f H w) {src dst : TypeId} {x : V} {vx : Value} (hx : VRel f x vx) {v : V} {H' : Heap} (he : convOp P src dst x H = .val v H') :
    ∃ f' v' w', (convert src dst vx).run P w = .ok v' w' ∧ StRel P B w0 f' H' w' ∧ f.le f' ∧ VRel f' v v' := by
  unfold convOp at he
  split at he
  · rename_i k1 k k2 n hk1 hk2
    cases he
    obtain ⟨d1, h1, _⟩ := kdAt_spec hk1
    obtain ⟨d2, h2, e2⟩ := kdAt_spec hk2
    have := kd_int e2.symm
    subst this
    rw [hx.int_inv]
    refine ⟨f, .int k (k.wrap n), w, ?_, h, .refl f, .int _ _⟩
    simp only [convert, Sem.run_bind, run_underlying h1, run_underlying h2, Result.andThen_ok]
    cases d1 <;> rfl
  · rename_i k1 k2 n hk1 hk2
    cases he
    obtain ⟨d1, h1, _⟩ := kdAt_spec hk1
    obtain ⟨d2, h2, e2⟩ := kdAt_spec hk2
    have := kd_str e2.symm
    subst this
    rw [hx.int_inv]
    refine ⟨f, .string (Utf8.encode n), w, ?_, h, .refl f, ?_⟩
    · simp only [convert, Sem.run_bind, run_underlying h1, run_underlying h2, Result.andThen_ok]
      cases d1 <;> rfl
    · exact VRel.ofScalar f (.string (Utf8.encode n))
  · rename_i k1 s hk1 hk2
    cases he
    obtain ⟨d1, h1, _⟩ := kdAt_spec hk1
    obtain ⟨d2, h2, e2⟩ := kdAt_spec hk2
    have := kd_str e2.symm
    subst this
    rw [hx.str_inv]
    refine ⟨f, _, w, ?_, h, .refl f, .str s⟩
    simp only [convert, Sem.run_bind, run_underlying h1, run_underlying h2, Result.andThen_ok]
    cases d1 <;> rfl
  · rename_i k1 e s hk1 hk2
    obtain ⟨d1, h1, _⟩ := kdAt_spec hk1
    obtain ⟨d2, h2, e2⟩ := kdAt_spec hk2
    have := kd_slice e2.symm
    subst this
    split at he
    · rename_i ti ht
      obtain ⟨inf, d3, hi3, hd3, hk3, hs3, _⟩ := tiOf_spec ht
      split at he
      · rename_i hkk
        split at he
        · rename_i hsz
          cases he
          rw [hk3] at hkk
          have := kd_int hkk
          subst this
          rw [hx.str_inv]
          obtain ⟨nc, w1, hch, hh1, hs1, hnc⟩ := run_choose_any (P := P) (.appendCap s.length 0 e) rfl w
          have hge : s.length ≤ nc := by rw [hnc]; simp only [Question.cut]; omega
          have s1 := h.sameHeap hs1 hh1
          have hlen : ((s.map fun b => Value.int .u8 b.toNat) ++ List.replicate (nc - s.length) (Value.int .u8 0)).length = nc := by simp; omega
          obtain ⟨f', ci, hst, hle, hc, hg, hd0, hcsz, hclim⟩ := s1.push (w' := { w1 with heap := w1.heap.push (.cells ⟨(s.map fun b => Value.int .u8 b.toNat) ++ List.replicate (nc - s.length) (Value.int .u8 0)⟩ e (nc, nc + 1)) }) ⟨rfl, rfl, rfl⟩ ⟨u8s s, e, .own, false⟩ (s.map fun b => Value.int .u8 b.toNat) (List.replicate (nc - s.length) (Value.int .u8 0)) (nc, nc + 1) ti.size rfl (u8s_rel s) (fun y hy => by obtain ⟨b, _, rfl⟩ := List.mem_map.1 hy; rfl) (by simp) (by rw [ht]; rfl) (fun j hj => by rw [hlen] at hj; simp only [unfr]; omega) (Nat.le_succ _) (fun h => by cases h)
          refine ⟨f', .slice (some ⟨w1.heap.size, 0, none⟩) s.length nc, _, ?_, hst, hle, ?_⟩
          · simp only [convert, Sem.run_bind, run_underlying h1, run_underlying h2, Result.andThen_ok]
            have hrun := stringToBytes_run (P := P) s e hch hge
            cases d1 <;> simp only [Sem.run_bind, run_underlying hd3, Result.andThen_ok] <;> exact hrun
          · refine .slice _ _ _ _ _ ci _ _ hc (.inr (by rw [hg, hd0])) hge (fun e => by cases e) (Nat.le_refl _) (fun _ => ?_)
            rw [hclim, hcsz, hd0, hsz, hlen]
            omega
        · cases he
      · cases he
    · cases he
  · rename_i e hk1 hk2
    obtain ⟨d1, h1, e1⟩ := kdAt_spec hk1
    obtain ⟨d2, h2, e2⟩ := kdAt_spec hk2
    have := kd_str e2.symm
    subst this
    have := kd_slice e1.symm
    subst this
    split at he
    · rename_i hk3
      cases he
      obtain ⟨d3, h3, e3⟩ := kdAt_spec hk3
      have := kd_int e3.symm
      subst this
      rw [hx.nilslice_inv]
      exact ⟨f, _, w, run_convert_bytes_nil w src e h1 h3 0 0 dst h2, h, .refl f, .str []⟩
    · cases he
  · rename_i e b o n c ex hk1 hk2
    obtain ⟨d1, h1, e1⟩ := kdAt_spec hk1
    obtain ⟨d2, h2, e2⟩ := kdAt_spec hk2
    have := kd_str e2.symm
    subst this
    have := kd_slice e1.symm
    subst this
    split at he
    · rename_i cs hk3 hcs
      split at he
      · rename_i s hs
        cases he
        obtain ⟨d3, h3, e3⟩ := kdAt_spec hk3
        have := kd_int e3.symm
        subst this
        cases hb : H.cs b with
        | none => rw [hb] at hcs; cases hcs
        | some ob =>
          rw [hb] at hcs
          simp only [Option.bind_some] at hcs
          obtain ⟨ci, arr, fr, e, hc, ho⟩ := h.cells b ob hb
          obtain ⟨ys, hy, hlen, hcell, _⟩ := ho.read hcs
          obtain ⟨ci', a, c', hc', rfl, ha, hcc, _, hn, _⟩ := hx.slice_inv
          rw [hc] at hc'; cases hc'
          obtain ⟨xs, rfl, rfl⟩ := bytesOf_rel hy hs
          refine ⟨f, .string ⟨⟨xs.map fun x => UInt8.ofNat x.toNat⟩⟩, w, ?_, h, .refl f, .str _⟩
          simp only [List.length_map] at hlen
          by_cases h0 : c' = 0
          · have hn0 : n = 0 := by omega
            subst hn0
            have : xs = [] := List.eq_nil_of_length_eq_zero hlen
            subst this
            obtain ⟨ab, ao, asp⟩ := a
            simp only [convert, Sem.run_bind, run_underlying h1, run_underlying h2, run_underlying h3, Result.andThen_ok, Conv.bytesToString, loadCells, loadCellsFrom, Sem.run_pure]
            rfl
          · rcases ha with ha | ha
            · exact absurd ha h0
            · subst ha
              have := run_convert_bytes_arg (P := P) w src _ h1 h3 ci.g (ci.d + o) n c' xs hlen (fun i hi => by
                have := hcell i (.int .u8 (xs.getD i 0)) (by simp [List.getElem?_eq_getElem (show i < xs.length by omega), List.getD])
                rwa [add_none] at this) dst h2
              rw [this]
              rfl
      · cases he
    · cases he
  · rename_i e0 e b o n c ex hk1 hk2
    obtain ⟨d1, h1, e1⟩ := kdAt_spec hk1
    obtain ⟨d2, h2, e2⟩ := kdAt_spec hk2
    have := kd_slice e2.symm
    subst this
    have := kd_slice e1.symm
    subst this
    split at he
    · rename_i ob hk3 hob
      split at he
      · rename_i hcond
        cases he
        obtain ⟨hsd, hown, hc0⟩ := hcond
        subst hsd
        have hee : e0 = e := by rw [hk1] at hk2; cases hk2; rfl
        subst hee
        obtain ⟨d3, h3, e3⟩ := kdAt_spec hk3
        have := kd_int e3.symm
        subst this
        obtain ⟨ci, a, c', hc, rfl, ha, hcc, hex, hn, hl⟩ := hx.slice_inv
        rcases ha with ha | ha
        · omega
        · subst ha
          obtain ⟨m, et, hsh, hst⟩ := freezeEnd_sound h hob hown hc
          refine ⟨f, .slice (some ⟨ci.g, ci.d + o, none⟩) n c', _, ?_, hst, .refl f, hx⟩
          simp only [convert, Sem.run_bind, run_underlying h1, run_underlying h2, run_underlying h3, Result.andThen_ok, beq_self_eq_true, markStringish, run_shape, hsh, run_freeze, Sem.run_pure]
      · cases he
    · cases he
  · rename_i t0 hk1 hk2
    cases he
    obtain ⟨d1, h1, e1⟩ := kdAt_spec hk1
    obtain ⟨d2, h2, e2⟩ := kdAt_spec hk2
    have := kd_ptr e1.symm
    subst this
    have := kd_uptr e2.symm
    subst this
    rw [hx.nilptr_inv]
    refine ⟨f, .pointer none, w, ?_, h, .refl f, .nilptr⟩
    simp only [convert, Sem.run_bind, run_underlying h1, run_underlying h2, Result.andThen_ok, Conv.unsafePointer]
    rfl
  · rename_i t0 hk1 hk2
    cases he
    obtain ⟨d1, h1, e1⟩ := kdAt_spec hk1
    obtain ⟨d2, h2, e2⟩ := kdAt_spec hk2
    have := kd_uptr e1.symm
    subst this
    have := kd_ptr e2.symm
    subst this
    rw [hx.nilptr_inv]
    refine ⟨f, .pointer none, w, ?_, h, .refl f, .nilptr⟩
    simp only [convert, Sem.run_bind, run_underlying h1, run_underlying h2, Result.andThen_ok, Conv.unsafePointer]
    rfl
  · rename_i t0 b o hk1 hk2
    obtain ⟨d1, h1, e1⟩ := kdAt_spec hk1
    obtain ⟨d2, h2, e2⟩ := kdAt_spec hk2
    have := kd_ptr e1.symm
    subst this
    have := kd_uptr e2.symm
    subst this
    split at he
    · rename_i ob ti hob hti
      split at he
      · rename_i hcond
        cases he
        obtain ⟨i, d3, hi, _, _, hs3, _⟩ := tiOf_spec hti
        obtain ⟨ci, arr, fr, e, hc, ho⟩ := h.cells b ob hob
        obtain ⟨ci', hc', rfl⟩ := hx.ptr_inv
        rw [hc] at hc'; cases hc'
        refine ⟨f, _, w, ?_, h, .refl f, hx⟩
        simp only [convert, Sem.run_bind, run_underlying h1, run_underlying h2, Result.andThen_ok]
        exact toUnsafe_run h1 h2 hi (by rw [← hs3]; exact hcond.2) (a := ⟨ci.g, ci.d + o, none⟩) ho.heap (by have := ho.fits; have := hcond.1; show ci.d + o < arr.length; omega)
      · cases he
    · cases he
  · rename_i u b o hk1 hk2
    obtain ⟨d1, h1, e1⟩ := kdAt_spec hk1
    obtain ⟨d2, h2, e2⟩ := kdAt_spec hk2
    have := kd_uptr e1.symm
    subst this
    have := kd_ptr e2.symm
    subst this
    split at he
    · rename_i ob ti hob hti
      split at he
      · rename_i hcond
        cases he
        obtain ⟨i, d3, hi, _⟩ := tiOf_spec hti
        obtain ⟨ci, arr, fr, e, hc, ho⟩ := h.cells b ob hob
        obtain ⟨ci', hc', rfl⟩ := hx.ptr_inv
        rw [hc] at hc'; cases hc'
        obtain ⟨w1, w2⟩ := ho.whole hcond.1
        have he1 := (ho.ty hcond.2.1).1
        refine ⟨f, _, w, ?_, h, .refl f, hx⟩
        simp only [convert, Sem.run_bind, run_underlying h1, run_underlying h2, Result.andThen_ok]
        refine fromUnsafe_run h1 h2 hi (a := ⟨ci.g, ci.d + o, none⟩) ho.heap ?_
        show liesAt P P.depth e (arr.length / P.cellsOf e) (ci.d + o) u 1 = true
        rw [w1, w2, he1, Nat.zero_add]
        exact hcond.2.2
      · cases he
    · cases he
  · cases he

/-! ### Type assertions -/
theorem zvOf_spec {t : TypeId} {z : V} (h : zvOf P t = some z) : ∃ i zv, P.info? t = some i ∧ i.zero = some zv ∧ z = ofVal zv := by
  unfold zvOf at h
  split at h
  · rename_i i hi
    obtain ⟨zv, h1, h2⟩ := Option.map_eq_some_iff.1 h
    exact ⟨i, zv, hi, h1, h2.symm⟩
  · cases h

theorem assertOp_sound {x : V} {vx : Value} (hx : VRel f x vx) {xt asserted : TypeId} {ok : Bool} {v : V} (he : assertOp P x asserted ok = some v) : ∃ v', (Instr.typeAssert vx xt asserted ok).run P w = .ok v' w ∧ VRel f v v' := by
  unfold assertOp at he
  split at he
  · rename_i ti t u ht
    obtain ⟨inf, d, hinf, hd, hk, _, _, hz⟩ := tiOf_spec ht
    obtain ⟨u', rfl, hu⟩ := hx.iface_inv
    split at he
    · cases he
    · rename_i hni
      have hni' : ∀ ms, d ≠ .interface ms := fun ms e => hni ms.size (by rw [hk, e]; rfl)
      split at he
      · rename_i hte
        subst hte
        cases he
        cases ok
        · refine ⟨u', ?_, hu⟩
          simp only [Instr.typeAssert, Sem.run_bind, run_underlying hd, Result.andThen_ok]
          cases d <;> first | exact absurd rfl (hni' _) | simp
        · refine ⟨.tuple #[u', .bool true], ?_, VRel.tuple' (LRel.cons hu (LRel.cons (.bool _) (LRel.nil f)))⟩
          simp only [Instr.typeAssert, Sem.run_bind, run_underlying hd, Result.andThen_ok]
          cases d <;> first | exact absurd rfl (hni' _) | simp
      · rename_i hte
        split at he
        · rename_i hok
          subst hok
          obtain ⟨z, hz1, hz2⟩ := Option.map_eq_some_iff.1 he
          subst hz2
          obtain ⟨inf2, zv, hinf2, hzv, rfl⟩ := zvOf_spec hz1
          rw [hinf] at hinf2; cases hinf2
          refine ⟨.tuple #[zv, .bool false], ?_, VRel.tuple' (LRel.cons (VRel.ofVal f zv) (LRel.cons (.bool _) (LRel.nil f)))⟩
          simp only [Instr.typeAssert, Sem.run_bind, run_underlying hd, Result.andThen_ok]
          cases d <;> first | exact absurd rfl (hni' _) | simp [hte, zeroValue, run_typeInfo' hinf, hzv]
        · cases he
  · rename_i ti ht
    obtain ⟨inf, d, hinf, hd, hk, _, _, hz⟩ := tiOf_spec ht
    rw [hx.nilif_inv]
    split at he
    · cases he
    · rename_i hni
      have hni' : ∀ ms, d ≠ .interface ms := fun ms e => hni ms.size (by rw [hk, e]; rfl)
      split at he
      · rename_i hok
        subst hok
        obtain ⟨z, hz1, hz2⟩ := Option.map_eq_some_iff.1 he
        subst hz2
        obtain ⟨inf2, zv, hinf2, hzv, rfl⟩ := zvOf_spec hz1
        rw [hinf] at hinf2; cases hinf2
        refine ⟨.tuple #[zv, .bool false], ?_, VRel.tuple' (LRel.cons (VRel.ofVal f zv) (LRel.cons (.bool _) (LRel.nil f)))⟩
        simp only [Instr.typeAssert, Sem.run_bind, run_underlying hd, Result.andThen_ok]
        cases d <;> first | exact absurd rfl (hni' _) | simp [zeroValue, run_typeInfo' hinf, hzv]
      · cases he
  · cases he

/-! ### All operations -/
theorem ev_rel {e : Env} {a : Act} (hg : ∀ g, g < P.globals.size → ∃ ci, f.c g = some ci ∧ ci.g = g ∧ ci.d = 0) (he : ∀ j, VRel f (e.t j) (a.tmps.getD j Go.undef)) (x : Operand) (hx : okG P.globals.size x = true) :
    VRel f (e.ev x) (a.eval x) := by
  cases x with
  | tmp t => exact he t
  | const v => exact VRel.ofVal f v
  | global g =>
    obtain ⟨ci, h1, h2, h3⟩ := hg g (by simpa [okG] using hx)
    have := VRel.ptr (f := f) g 0 ci h1
    rw [h2, h3] at this
    exact this
  | func g => exact .fn g [] [] [] [] rfl (by simp) rfl (by simp)

/-- What an operation comes to: a value (of a store: nothing). -/
def ValRun (P : Program) (s : Sem Next) (w : World) (v' : Value) (w' : World) : Prop := s.run P w = .ok (.value v') w' ∨ (s.run P w = .ok .skip w' ∧ v' = Go.undef)

theorem orelV_of_map {ρ : Operand → V} {ρ' : Operand → Value} {x : Option Operand} (h : ∀ y, x = some y → VRel f (ρ y) (ρ' y)) : ORelV f (x.map ρ) (x.map ρ') := by
  cases x with
  | none => exact .none
  | some y => exact .some (h y rfl)

theorem stepOp_sound (h : StRel P B w0 f H w) {ρ : Operand → V} {ρ' : Operand → Value} {o : Oper} (he : ∀ x ∈ o.op.operands.toList, VRel f (ρ x) (ρ' x)) {v : V} {H' : Heap} (hs : stepOp P ρ o H = .val v H') :
    ∃ f' v' w', ValRun P (execOp ρ' o) w v' w' ∧ StRel P B w0 f' H' w' ∧ f.le f' ∧ VRel f' v v' := by
  obtain ⟨dst, op, type, pos, after, guard⟩ := o
  simp only at he
  have pure1 : ∀ (s : Sem Value) (v : V), (∃ v', s.run P w = .ok v' w ∧ VRel f v v') → ∃ f' v' w', ValRun P (do pure (.value (← s))) w v' w' ∧ StRel P B w0 f' H w' ∧ f.le f' ∧ VRel f' v v' :=
    fun s v ⟨v', h1, h2⟩ => ⟨f, v', w, .inl (by simp [h1]), h, .refl f, h2⟩
  have val1 : ∀ (s : Sem Value) (v : V) (H' : Heap), (∃ f' v' w', s.run P w = .ok v' w' ∧ StRel P B w0 f' H' w' ∧ f.le f' ∧ VRel f' v v') → ∃ f' v' w', ValRun P (do pure (.value (← s))) w v' w' ∧ StRel P B w0 f' H' w' ∧ f.le f' ∧ VRel f' v v' :=
    fun s v H' ⟨f', v', w', h1, h2, h3, h4⟩ => ⟨f', v', w', .inl (by simp [h1]), h2, h3, h4⟩
  have of1 : ∀ {r : Option V}, OpR.of r H = .val v H' → r = some v ∧ H' = H := fun {r} hr => by
    cases r with
    | none => cases hr
    | some x => cases hr; exact ⟨rfl, rfl⟩
  cases op with
  | move x =>
    simp only [stepOp] at hs
    cases hs
    exact ⟨f, ρ' x, w, .inl rfl, h, .refl f, he x (by simp [Op.operands])⟩
  | assign x =>
    simp only [stepOp] at hs
    cases hs
    exact ⟨f, ρ' x, w, .inl rfl, h, .refl f, he x (by simp [Op.operands])⟩
  | pick c a b =>
    simp only [stepOp] at hs
    have hc := he c (by simp [Op.operands])
    split at hs
    · rename_i e
      cases hs
      rw [e] at hc
      refine ⟨f, ρ' a, w, .inl ?_, h, .refl f, he a (by simp [Op.operands])⟩
      simp [execOp, hc.bool_inv, asBool]
    · rename_i e
      cases hs
      rw [e] at hc
      refine ⟨f, ρ' b, w, .inl ?_, h, .refl f, he b (by simp [Op.operands])⟩
      simp [execOp, hc.bool_inv, asBool]
    · cases hs
  | alloc t =>
    simp only [stepOp] at hs
    split at hs
    · rename_i z hz
      cases hs
      obtain ⟨f', v', w', h1, h2, h3, h4⟩ := alloc_sound h hz
      exact ⟨f', v', w', .inl (by simp [execOp, h1]), h2, h3, h4⟩
    · cases hs
  | box t x =>
    simp only [stepOp] at hs
    split at hs
    · rename_i cs sz hcs hsz
      cases hs
      obtain ⟨f', v', w', h1, h2, h3, h4⟩ := box_sound h (he x (by simp [Op.operands])) hcs hsz
      exact ⟨f', v', w', .inl (by simp [execOp, h1]), h2, h3, h4⟩
    · cases hs
  | build t parts =>
    simp only [stepOp] at hs
    obtain ⟨hs2, rfl⟩ := of1 hs
    obtain ⟨l⟩ := parts
    have := build_sound (w := w) (f := f) (parts' := l.map fun p => (p.1, ρ' p.2)) (by simp) (by
      simp only [List.map_map]
      exact LRel.map l _ _ (fun p hp => he p.2 (by simp [Op.operands]; exact ⟨p.1, hp⟩))) hs2
    refine pure1 _ v ?_
    simpa using this
  | buildSlice t n parts =>
    simp only [stepOp] at hs
    obtain ⟨l⟩ := parts
    have := buildSlice_sound h (parts' := l.map fun p => (p.1, ρ' p.2)) (by simp) (by
      simp only [List.map_map]
      exact LRel.map l _ _ (fun p hp => he p.2 (by simp [Op.operands]; exact ⟨p.1, hp⟩))) hs
    refine val1 _ v H' ?_
    simpa using this
  | load t a =>
    simp only [stepOp] at hs
    have ha := he a (by simp [Op.operands])
    split at hs
    · rename_i b o ti e ht
      obtain ⟨hs2, rfl⟩ := of1 hs
      rw [e] at ha
      exact pure1 _ v (load_sound h ha ht hs2)
    · cases hs
  | store t a x =>
    simp only [stepOp] at hs
    have ha := he a (by simp [Op.operands])
    have hx := he x (by simp [Op.operands])
    split at hs
    · rename_i b o ti e ht
      rw [e] at ha
      split at hs
      · rename_i H2 hst
        cases hs
        obtain ⟨w', h1, h2⟩ := store_sound h ha ht hx hst
        exact ⟨f, Go.undef, w', .inr ⟨by simp [execOp, h1], rfl⟩, h2, .refl f, VRel.tuple' (LRel.nil f)⟩
      · cases hs
    · cases hs
  | nilCheck x =>
    simp only [stepOp] at hs
    have hx := he x (by simp [Op.operands])
    split at hs
    · rename_i b o e
      cases hs
      rw [e] at hx
      refine ⟨f, ρ' x, w, .inl ?_, h, .refl f, hx⟩
      obtain ⟨ci, _, e2⟩ := hx.ptr_inv
      simp [execOp, e2]
    · rename_i g a c e
      cases hs
      rw [e] at hx
      refine ⟨f, ρ' x, w, .inl ?_, h, .refl f, hx⟩
      obtain ⟨fi, ca, e2, _⟩ := hx.fn_inv
      simp [execOp, e2]
    · rename_i l a c e
      cases hs
      rw [e] at hx
      refine ⟨f, ρ' x, w, .inl ?_, h, .refl f, hx⟩
      obtain ⟨l', _, _, _, e2⟩ := hx.yield_inv
      simp [execOp, e2]
    · rename_i t u e
      cases hs
      rw [e] at hx
      refine ⟨f, ρ' x, w, .inl ?_, h, .refl f, hx⟩
      obtain ⟨u', e2, _⟩ := hx.iface_inv
      simp [execOp, e2]
    · cases hs
  | binOp op t x y yt =>
    simp only [stepOp] at hs
    obtain ⟨hs2, rfl⟩ := of1 hs
    exact pure1 _ v (opBin_sound (he x (by simp [Op.operands])) (he y (by simp [Op.operands])) hs2)
  | unOp op t x =>
    simp only [stepOp] at hs
    obtain ⟨hs2, rfl⟩ := of1 hs
    exact pure1 _ v (opUn_sound (he x (by simp [Op.operands])) hs2)
  | convert src d x =>
    simp only [stepOp] at hs
    exact val1 _ v H' (convOp_sound h (he x (by simp [Op.operands])) hs)
  | makeInterface t x =>
    simp only [stepOp] at hs
    split at hs
    · cases hs
    · rename_i k hni hk
      cases hs
      obtain ⟨d, hd, e⟩ := kdAt_spec hk
      refine ⟨f, .iface t (ρ' x), w, .inl ?_, h, .refl f, .iface _ _ _ (he x (by simp [Op.operands]))⟩
      simp only [execOp, Instr.makeInterface, Sem.run_bind, run_underlying hd, Result.andThen_ok]
      cases d <;> first | (exact absurd e (hni _)) | simp
    · cases hs
  | makeFunc fn first cap =>
    cases fn with
    | func g =>
      simp only [stepOp] at hs
      cases hs
      obtain ⟨l1⟩ := first
      obtain ⟨l2⟩ := cap
      have h1 : LRel f (l1.map ρ) (l1.map ρ') := LRel.map l1 _ _ (fun x hx => he x (by simp [Op.operands, hx]))
      have h2 : LRel f (l2.map ρ) (l2.map ρ') := LRel.map l2 _ _ (fun x hx => he x (by simp [Op.operands, hx]))
      refine ⟨f, .func (.func g) ⟨l1.map ρ'⟩ ⟨l2.map ρ'⟩, w, .inl ?_, h, .refl f, .fn _ _ _ _ _ h1.len h1.at_ h2.len h2.at_⟩
      simp [execOp, Instr.makeFunc]
    | _ => simp only [stepOp] at hs; cases hs
  | makeSlice t l c =>
    simp only [stepOp] at hs
    exact val1 _ v H' (makeSlice_sound h (he l (by simp [Op.operands])) (he c (by simp [Op.operands])) hs)
  | slice t x lo hi mx =>
    simp only [stepOp] at hs
    obtain ⟨rfl, h2⟩ := sliceOp_sound h (he x (by simp [Op.operands])) (orelV_of_map (ρ' := ρ') (fun y e => he y (by simp [Op.operands, e]))) (orelV_of_map (ρ' := ρ') (fun y e => he y (by simp [Op.operands, e]))) (orelV_of_map (ρ' := ρ') (fun y e => he y (by simp [Op.operands, e]))) hs
    exact pure1 _ v h2
  | fieldAddr s x i =>
    simp only [stepOp] at hs
    obtain ⟨hs2, rfl⟩ := of1 hs
    exact pure1 _ v (fieldAddr_sound (he x (by simp [Op.operands])) hs2)
  | field t x i =>
    simp only [stepOp] at hs
    obtain ⟨hs2, rfl⟩ := of1 hs
    exact pure1 _ v (field_sound (he x (by simp [Op.operands])) hs2)
  | indexAddr t x i =>
    simp only [stepOp] at hs
    obtain ⟨hs2, rfl⟩ := of1 hs
    exact pure1 _ v (indexAddr_sound (he x (by simp [Op.operands])) (he i (by simp [Op.operands])) hs2)
  | index t x i =>
    simp only [stepOp] at hs
    obtain ⟨hs2, rfl⟩ := of1 hs
    exact pure1 _ v (index_sound (he x (by simp [Op.operands])) (he i (by simp [Op.operands])) hs2)
  | range t x =>
    simp only [stepOp] at hs
    exact val1 _ v H' (rangeOp_sound h (he x (by simp [Op.operands])) hs)
  | next x b =>
    cases b with
    | true =>
      simp only [stepOp] at hs
      obtain ⟨v', w', h1, h2, h3⟩ := nextOp_sound h (he x (by simp [Op.operands])) hs type
      exact val1 _ v H' ⟨f, v', w', h1, h2, .refl f, h3⟩
    | false => simp only [stepOp] at hs; cases hs
  | typeAssert x xt at' ok =>
    simp only [stepOp] at hs
    obtain ⟨hs2, rfl⟩ := of1 hs
    exact pure1 _ v (assertOp_sound (he x (by simp [Op.operands])) hs2)
  | extract x i =>
    simp only [stepOp] at hs
    obtain ⟨hs2, rfl⟩ := of1 hs
    exact pure1 _ v (extract_sound (he x (by simp [Op.operands])) hs2)
  | call c =>
    simp only [stepOp, callOp] at hs
    obtain ⟨callee, args, argTypes⟩ := c
    cases callee with
    | value g => simp only at hs; cases hs
    | invoke r n => simp only at hs; split at hs <;> (try split at hs) <;> cases hs
    | builtin b =>
      obtain ⟨l⟩ := args
      obtain ⟨ts⟩ := argTypes
      simp only at hs
      have hl : LRel f (l.map ρ) (l.map ρ') := LRel.map l _ _ (fun x hx => he x (by simp [Op.operands, Call.operands, hx]))
      have run1 : ∀ (s : Sem Value), (∀ cs, builtin b ⟨ts⟩ type cs ⟨l.map ρ'⟩ = (do pure (.value (← s)))) → (∃ f' v' w', s.run P w = .ok v' w' ∧ StRel P B w0 f' H' w' ∧ f.le f' ∧ VRel f' v v') → ∃ f' v' w', ValRun P (execOp ρ' ⟨dst, .call ⟨.builtin b, ⟨l⟩, ⟨ts⟩⟩, type, pos, after, guard⟩) w v' w' ∧ StRel P B w0 f' H' w' ∧ f.le f' ∧ VRel f' v v' := by
        rintro s hb ⟨f', v', w', h1, h2, h3, h4⟩
        refine ⟨f', v', w', .inl ?_, h2, h3, h4⟩
        simp only [execOp, resolve, Sem.run_bind, Sem.run_pure, Result.andThen_ok, invoke]
        have ea : (⟨l⟩ : Array Operand).map ρ' = ⟨l.map ρ'⟩ := by simp
        rw [ea, hb]
        simp [h1]
      have pure2 : ∀ (s : Sem Value) (v : V), (∃ v', s.run P w = .ok v' w ∧ VRel f v v') → ∃ f' v' w', s.run P w = .ok v' w' ∧ StRel P B w0 f' H w' ∧ f.le f' ∧ VRel f' v v' :=
        fun s v ⟨v', h1, h2⟩ => ⟨f, v', w, h1, h, .refl f, h2⟩
      generalize hlm : l.map ρ' = lm at *
      generalize hlv : l.map ρ = lv at *
      unfold builtinOp at hs
      split at hs
      · obtain ⟨hs2, rfl⟩ := of1 hs
        obtain ⟨y, m, rfl, hy, _⟩ := hl.uncons
        exact run1 _ (fun _ => rfl) (pure2 _ v (lenOp_sound hy hs2 type))
      · obtain ⟨hs2, rfl⟩ := of1 hs
        obtain ⟨y, m, rfl, hy, _⟩ := hl.uncons
        exact run1 _ (fun _ => rfl) (pure2 _ v (capOp_sound hy hs2 type))
      · obtain ⟨hs2, rfl⟩ := of1 hs
        exact run1 _ (fun _ => rfl) (pure2 _ v (minOp_sound hl hs2 _ type))
      · obtain ⟨hs2, rfl⟩ := of1 hs
        exact run1 _ (fun _ => rfl) (pure2 _ v (maxOp_sound hl hs2 _ type))
      · obtain ⟨y, m, rfl, hy, ht⟩ := hl.uncons
        obtain ⟨y2, m2, rfl, hy2, ht2⟩ := ht.uncons
        have := ht2.nil_inv
        subst this
        exact run1 _ (fun _ => rfl) (appendOp_sound h hy hy2 hs type)
      · obtain ⟨y, m, rfl, hy, ht⟩ := hl.uncons
        obtain ⟨y2, m2, rfl, hy2, ht2⟩ := ht.uncons
        have := ht2.nil_inv
        subst this
        obtain ⟨v', w', h1, h2, h3⟩ := copyOp_sound h hy hy2 hs type
        exact run1 _ (fun _ => rfl) ⟨f, v', w', h1, h2, .refl f, h3⟩
      · obtain ⟨hs2, rfl⟩ := of1 hs
        obtain ⟨y, m, rfl, hy, ht⟩ := hl.uncons
        have := ht.nil_inv
        subst this
        exact run1 _ (fun _ => rfl) (pure2 _ v (sliceDataOp_sound hy hs2 _ type))
      · cases hs
      · obtain ⟨y, m, rfl, hy, ht⟩ := hl.uncons
        obtain ⟨y2, m2, rfl, hy2, ht2⟩ := ht.uncons
        have := ht2.nil_inv
        subst this
        have e2 := hy2.int_inv
        subst e2
        obtain ⟨v', w', h1, h2, h3⟩ := unsafeStrOp_sound h hy hs _ type
        exact run1 _ (fun _ => rfl) ⟨f, v', w', h1, h2, .refl f, h3⟩
      · cases hs
  | _ => simp only [stepOp, dfrOp] at hs; first | (cases hs; done) | (split at hs <;> cases hs)

end
end Go.Cm
