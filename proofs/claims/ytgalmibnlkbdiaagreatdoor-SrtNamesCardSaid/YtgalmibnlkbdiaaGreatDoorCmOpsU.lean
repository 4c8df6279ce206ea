/- Memory seen through unsafe.Pointer; bytes seen as a string. -/
import Derived.Test.YtgalmibnlkbdiaaGreatDoorCmOps9
import Derived.Lib.UnsafeStr
set_option linter.unusedVariables false
set_option linter.unusedSimpArgs false
namespace Go.Cm
open Go Go.RowKit

section
variable {P : Program} {B : Nat} {w0 : World} {f : Inj} {H : Heap} {w : World}

theorem liesAt_off {e : TypeId} (hc : P.cellsOf e = 1) (count off n : Nat) (hn : off + n ≤ count) : liesAt P P.depth e count off e n = true := by
  have hd : P.depth = (2 * (P.types.size + Made.depth) + 1) + 1 := rfl
  rw [hd]
  simp only [liesAt, Bool.or_eq_true]
  left
  rw [hd]
  simp [rowAt, hc, hn, sameLayout, Nat.mod_one]

theorem run_viewAt_cells {g : Nat} {arr : Array Value} {e : TypeId} {fr : Nat × Nat} (hg : w.heap[g]? = some (.cells arr e fr)) : (viewAt g).run P w = .ok none w := by
  have hsh : w.shape? g = some (e, arr.size) := by simp [World.shape?, hg]
  simp [viewAt, hsh]

theorem run_seenAt_cells {a : Addr} {arr : Array Value} {e : TypeId} {fr : Nat × Nat} (hg : w.heap[a.block]? = some (.cells arr e fr)) : (Conv.seenAt a).run P w = .ok a w := by
  have hv := run_viewAt_cells (P := P) hg
  simp only [Conv.seenAt, Sem.run_bind, hv, Result.andThen_ok]
  rfl

theorem toUnsafe_run {src dst t : TypeId} {i : TypeInfo} (h1 : P.underlying src = some (.pointer t)) (h2 : P.underlying dst = some .unsafePointer) (hi : P.info? t = some i) (hsz : i.size ≠ 0) {a : Addr} {arr : Array Value} {e : TypeId} {fr : Nat × Nat} (hg : w.heap[a.block]? = some (.cells arr e fr)) (ho : a.off < arr.size) :
    (Conv.unsafePointer src dst (.pointer (some a))).run P w = .ok (.pointer (some a)) w := by
  have hsh : w.shape? a.block = some (e, arr.size) := by simp [World.shape?, hg]
  have hc : (cellsIn a.block).run P w = .ok (some arr.size) w := by simp [cellsIn, hsh]
  have hn : (decide (a.off ≥ arr.size) && a.spot.isNone) = false := by
    have : ¬ a.off ≥ arr.size := by omega
    simp [this]
  simp only [Conv.unsafePointer, Sem.run_bind, run_underlying h1, run_underlying h2, Result.andThen_ok, run_seenAt_cells hg, hc, run_sizeOf' hi]
  simp only [ge_iff_le] at hn
  simp [hsz, hn]

theorem fromUnsafe_run {src dst u : TypeId} (h1 : P.underlying src = some .unsafePointer) (h2 : P.underlying dst = some (.pointer u)) {i : TypeInfo} (hi : P.info? u = some i) {a : Addr} {arr : Array Value} {e : TypeId} {fr : Nat × Nat} (hg : w.heap[a.block]? = some (.cells arr e fr)) (hl : liesAt P P.depth e (arr.size / P.cellsOf e) a.off u 1 = true) :
    (Conv.unsafePointer src dst (.pointer (some a))).run P w = .ok (.pointer (some a)) w := by
  have hsh : w.shape? a.block = some (e, arr.size) := by simp [World.shape?, hg]
  have hv : (variablesAt a u 1).run P w = .ok true w := by
    simp [variablesAt, hsh, hl]
  simp only [Conv.unsafePointer, Sem.run_bind, run_underlying h1, run_underlying h2, Result.andThen_ok, run_seenAt_cells hg, hv, run_sizeOf' hi]
  simp


theorem kd_uptr {d : TypeDesc} (h : kdOf d = .uptr) : d = .unsafePointer := by cases d <;> simp [kdOf] at h ⊢

theorem bytesOf_rel : ∀ {cs : List V} {ms : List Value} {s : List UInt8}, LRel f cs ms → bytesOf? cs = some s → ∃ xs : List Int, ms = xs.map (Value.int .u8) ∧ s = xs.map fun x => UInt8.ofNat x.toNat
  | [], ms, s, h, he => by
    simp only [bytesOf?, Option.some.injEq] at he
    subst he
    exact ⟨[], h.nil_inv, rfl⟩
  | c :: cs, ms, s, h, he => by
    obtain ⟨y, m, rfl, hy, ht⟩ := h.uncons
    unfold bytesOf? at he
    split at he
    · rename_i e; cases e
    · rename_i n r e
      cases e
      cases hb : bytesOf? cs with
      | none => rw [hb] at he; cases he
      | some s' =>
        rw [hb] at he
        simp only [Option.map_some, Option.some.injEq] at he
        subst he
        obtain ⟨xs, rfl, rfl⟩ := bytesOf_rel ht hb
        rw [hy.int_inv]
        exact ⟨n :: xs, rfl, rfl⟩
    · cases he

theorem run_loadBytes_at : ∀ (xs : List Int) (a : Addr) (acc : ByteArray), (∀ (j : Nat) x, xs[j]? = some x → w.cell? (a.add j) = some (.int .u8 x)) →
    (loadBytes a acc xs.length).run P w = .ok ⟨acc.data ++ (xs.map fun x => UInt8.ofNat x.toNat).toArray⟩ w
  | [], a, acc, _ => by simp [loadBytes]
  | x :: l, a, acc, h => by
    have h0 : w.cell? a = some (.int .u8 x) := by
      have := h 0 x rfl
      simpa [Addr.add] using this
    have ih := run_loadBytes_at l (a.add 1) (acc.push (UInt8.ofNat x.toNat)) (fun j y hy => by
      have := h (j + 1) y (by simpa using hy)
      have e : (a.add 1).add j = a.add (j + 1) := by
        unfold Addr.add
        by_cases hj : j = 0
        · subst hj; simp
        · simp [hj]; omega
      rw [e]; exact this)
    have hx : (x.toNat).toUInt8 = UInt8.ofNat x.toNat := rfl
    simp only [List.length_cons, loadBytes, Sem.run_bind, run_load, h0, Result.andThen, hx]
    rw [ih]
    congr 1
    apply ByteArray.ext
    simp [ByteArray.push]

theorem sliceDataOp_sound {x v : V} {vx : Value} (hx : VRel f x vx) (he : sliceDataOp x = some v) (ts : Array TypeId) (ty : TypeId) : ∃ v', (Builtin.unsafeSliceData_ ts ty #[vx]).run P w = .ok v' w ∧ VRel f v v' := by
  unfold sliceDataOp at he
  split at he
  · cases he
    rw [hx.nilslice_inv]
    exact ⟨_, Go.Lib.run_unsafeSliceData_nil w ts ty 0 0, .nilptr⟩
  · rename_i b o n c ex
    split at he
    · rename_i hc0
      cases he
      obtain ⟨ci, a, c', hc, rfl, ha, hcc, _⟩ := hx.slice_inv
      rcases ha with ha | ha
      · omega
      · subst ha
        exact ⟨_, Go.Lib.run_unsafeSliceData_row w ts ty _ n c' (by omega), .ptr b o ci hc⟩
    · cases he
  · cases he

/-- Cells are frozen: the block is read alone from here on. -/
theorem freeze_sound (h : StRel P B w0 f H w) {b : Nat} {ob : Go.Cm.Obj} (hb : H.cs b = some ob) (hk : ob.k ≠ .arg) {ci : CI} (hc : f.c b = some ci) (off n : Nat) :
    StRel P B w0 f (H.put b (some { ob with k := .frz })) (w.freeze { block := ci.g, off := off } n) := by
  obtain ⟨ci', arr, fr, e, hc', ho⟩ := h.cells b ob hb
  rw [hc] at hc'; cases hc'
  obtain ⟨lo, hi⟩ := fr
  have hle : lo ≤ hi := ho.frle hk
  have hlt : b < H.nc := by
    rcases Nat.lt_or_ge b H.nc with h' | h'
    · exact h'
    · have := (h.freshC b h').1; rw [hb] at this; cases this
  obtain ⟨t1, t2, t3⟩ := ho.ty hk
  have hput2 : ((H.put b none).put b none) = H.put b none := by simp only [Heap.put, fset_fset]
  have hput : ((H.put b none).put b (some { ob with k := .frz })) = H.put b (some { ob with k := .frz }) := by simp only [Heap.put, fset_fset]
  have fin : ∀ (w' : World) (fr' : Nat × Nat), StRel P B w0 f (H.put b none) w' → w'.heap[ci.g]? = some (.cells ⟨arr⟩ e fr') → fr'.1 ≤ fr'.2 → StRel P B w0 f (H.put b (some { ob with k := .frz })) w' := by
    intro w' fr' s1 hg hfr
    have := s1.revive (b := b) (ob := { ob with k := .frz }) (ci := ci) (arr := arr) (fr := fr') (e := e) hlt hc
      { heap := hg
        lim := ho.lim
        fits := ho.fits
        rel := ho.rel
        ty := fun _ => ⟨t1, t2, t3⟩
        own := fun h => by cases h
        arg := fun h => by cases h
        isc := ho.isc
        frle := fun _ => hfr
        whole := ho.whole } (by simp) (by rw [hput2]; exact h.free_kill hb hc)
    rw [hput] at this
    exact this
  by_cases hn : n = 0
  · subst hn
    have : w.freeze { block := ci.g, off := off } 0 = w := by simp [World.freeze]
    rw [this]
    exact fin w (lo, hi) (h.kill b) ho.heap hle
  · have hheap : (w.freeze { block := ci.g, off := off } n).heap = w.heap.modify ci.g fun
        | .cells c elem (lo, hi) => .cells c elem (if lo == hi then (off, off + n) else (min lo off, max hi (off + n)))
        | o => o := by
      unfold World.freeze
      rw [if_neg hn]
      rfl
    have hg : (w.freeze { block := ci.g, off := off } n).heap[ci.g]? = some (.cells ⟨arr⟩ e (if lo == hi then (off, off + n) else (min lo off, max hi (off + n)))) := by
      rw [hheap, Array.getElem?_modify, if_pos rfl, ho.heap]
      rfl
    have hne : ∀ k, k ≠ ci.g → (w.freeze { block := ci.g, off := off } n).heap[k]? = w.heap[k]? := fun k hk => by
      rw [hheap, Array.getElem?_modify, if_neg (Ne.symm hk)]
    have hsz : (w.freeze { block := ci.g, off := off } n).heap.size = w.heap.size := by rw [hheap]; simp
    have hso : SameOut w (w.freeze { block := ci.g, off := off } n) := by
      constructor <;> simp [World.freeze, hn]
    exact fin _ _ ((h.kill b).setFree hso t2 (h.free_kill hb hc) ho.heap hsz hne) hg (by
      split
      · simp only; omega
      · simp only; omega)

theorem unsafeStrOp_sound (h : StRel P B w0 f H w) {pt : TypeId} {p v : V} {vp : Value} {n : Int} (hp : VRel f p vp) {H' : Heap} (he : unsafeStrOp P pt p n H = .val v H') (tt : TypeId) (ty : TypeId) :
    ∃ v' w', (Builtin.unsafeString_ #[pt, tt] ty #[vp, .int .i64 n]).run P w = .ok v' w' ∧ StRel P B w0 f H' w' ∧ VRel f v v' := by
  unfold unsafeStrOp at he
  split at he
  · rename_i hn
    subst hn
    split at he
    · cases he
      rw [hp.nilptr_inv]
      exact ⟨_, w, Go.Lib.run_unsafeString_none w pt tt ty none, h, .str []⟩
    · cases he
      obtain ⟨ci, _, rfl⟩ := hp.ptr_inv
      exact ⟨_, w, Go.Lib.run_unsafeString_none w pt tt ty _, h, .str []⟩
    · cases he
  · rename_i hn
    split at he
    · rename_i b o e hk
      obtain ⟨d1, h1, e1⟩ := kdAt_spec hk
      have := kd_ptr e1.symm
      subst this
      split at he
      · rename_i ei ob hei hob
        split at he
        · rename_i hcond
          obtain ⟨c1, c2, c3, c4, c5⟩ := hcond
          split at he
          · rename_i s hs
            cases he
            obtain ⟨cs, hcs, hbs⟩ := Option.bind_eq_some_iff.1 hs
            obtain ⟨i, d3, hi, _, _, hs3, _⟩ := tiOf_spec hei
            obtain ⟨ci, arr, fr, e', hc, ho⟩ := h.cells b ob hob
            obtain ⟨ci', hc', rfl⟩ := hp.ptr_inv
            rw [hc] at hc'; cases hc'
            obtain ⟨ys, hy, hyl, hcell, _⟩ := ho.read hcs
            obtain ⟨xs, rfl, rfl⟩ := bytesOf_rel hy hbs
            have he1 := (ho.ty c2).1
            rw [c3] at he1
            subst he1
            have hco : P.cellsOf e' = 1 := by simp [Program.cellsOf, hi]; omega
            have hfit : o + n.toNat ≤ ob.l.length := by
              unfold readCells at hcs
              split at hcs
              · assumption
              · cases hcs
            have hsh : w.shape? ci.g = some (e', arr.length) := by simp [World.shape?, ho.heap]
            have hlies := liesAt_off (P := P) hco (arr.length / P.cellsOf e') (ci.d + o) n.toNat (by rw [hco, Nat.div_one]; have := ho.fits; omega)
            have hlb := run_loadBytes_at (P := P) (w := w) xs ⟨ci.g, ci.d + o, none⟩ .empty (fun j x hx => by
              have := hcell j (.int .u8 x) (by simp [hx])
              exact this)
            simp only [List.length_map] at hyl
            rw [hyl] at hlb
            refine ⟨_, _, ?_, freeze_sound h hob c2 hc (ci.d + o) n.toNat, .str _⟩
            have hdef : Builtin.unsafeString_ #[pt, tt] ty #[.pointer (some ⟨ci.g, ci.d + o, none⟩), .int .i64 n] =
                (do
                  let n ← asInt (.int .i64 n)
                  if n < 0 then runtimePanic (.error "unsafe.String: len out of range")
                  if n > IntKind.i64.max then unsupported (.unsafePointer "String: a length above the largest int")
                  if n = 0 then pure (.string .empty)
                  else if ← variablesAt ⟨ci.g, ci.d + o, none⟩ (← elemOf pt) n.toNat then do
                    let s ← loadBytes ⟨ci.g, ci.d + o, none⟩ .empty n.toNat
                    freeze ⟨ci.g, ci.d + o, none⟩ n.toNat
                    pure (.string s)
                  else unsupported (.unsafePointer "String: not so many bytes at ptr")) := rfl
            rw [hdef]
            have hmax : IntKind.i64.max = 9223372036854775807 := rfl
            have hneg : ¬ n < 0 := by omega
            have hbig : ¬ (9223372036854775807 : Int) < n := by omega
            simp [asInt, asIntOf, hmax, hneg, hbig, hn, variablesAt, hsh, elemOf, run_underlying h1, hlies, hlb]
          · cases he
        · cases he
      · cases he
    · cases he

end
end Go.Cm
