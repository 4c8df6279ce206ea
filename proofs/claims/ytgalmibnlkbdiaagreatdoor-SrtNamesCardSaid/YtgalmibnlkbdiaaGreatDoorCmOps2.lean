/- The abstract operations are sound: allocations, numbers, strings, fields, indexes, slices. The abstract operations are sound: comparisons, fields, indexes, slices. The abstract operations are sound: fields, indexes, slices, builds. The abstract operations are sound: slice expressions, conversions, builds, iterators. The abstract operations are sound: builds, conversions, iterators, len, min. The abstract operations are sound: conversions, iterators, len, min, type assertions. -/
import Derived.Test.YtgalmibnlkbdiaaGreatDoorCmOps
set_option linter.unusedVariables false
set_option linter.unusedSimpArgs false
namespace Go.Cm
open Go Go.RowKit

theorem zeroOf_spec {i : TypeInfo} {z : List V} (h : zeroOf i = some z) : ∃ zv, i.zero = some zv ∧ z = zv.cells.toList.map ofScalar ∧ zv.cells.size = i.size ∧ z.all V.isCell = true := by
  unfold zeroOf at h
  split at h
  · rename_i zv hz
    split at h
    · rename_i hc
      cases h
      simp only [Bool.and_eq_true, beq_iff_eq] at hc
      exact ⟨zv, hz, rfl, hc.2, hc.1⟩
    · cases h
  · cases h

section
variable {P : Program} {B : Nat} {w0 : World} {f : Inj} {H : Heap} {w : World}

/-- A new row of cells. -/
theorem push_sound (h : StRel P B w0 f H w) {cs : List V} {ms : List Value} (hr : LRel f cs ms) (hi : ∀ x ∈ cs, V.isCell x = true) (r : List Value) {t : TypeId} {sz : Nat} {k : Own} (wh : Bool) (hwr : wh = true → r = []) (hk : k ≠ .arg) (hsz : (tiOf P t).map TI.size = some sz) :
    ∃ f' ci w', (newRow t ⟨ms ++ r⟩).run P w = .ok ⟨ci.g, ci.d, none⟩ w' ∧ StRel P B w0 f' (H.push ⟨cs, t, k, wh⟩) w' ∧ f.le f' ∧ f'.c H.nc = some ci ∧ ci.d = 0 ∧ ci.sz = sz ∧ ci.lim = (ms ++ r).length := by
  obtain ⟨f', ci, h1, h2, h3, h4, h5, h6, h7⟩ := h.push (w' := { w with heap := w.heap.push (.cells ⟨ms ++ r⟩ t (0, 0)) }) ⟨rfl, rfl, rfl⟩ ⟨cs, t, k, wh⟩ ms r (0, 0) sz rfl hr hi hk hsz (fun j _ => by simp [unfr]) (Nat.le_refl _) hwr
  exact ⟨f', ci, _, by simp [newRow, h4, h5], h1, h2, h3, h5, h6, h7⟩

theorem alloc_sound (h : StRel P B w0 f H w) {t : TypeId} {z : List V} (hz : (tiOf P t).bind (·.zero) = some z) :
    ∃ f' v' w', (Instr.alloc t true (.tuple #[])).run P w = .ok v' w' ∧ StRel P B w0 f' (H.push ⟨z, t, .own, true⟩) w' ∧ f.le f' ∧ VRel f' (.ptr H.nc 0) v' := by
  cases ht : tiOf P t with
  | none => rw [ht] at hz; cases hz
  | some ti =>
    rw [ht] at hz
    obtain ⟨i, d, hi, hd, h1, h2, h3, h4⟩ := tiOf_spec ht
    simp only [Option.bind_some, h4] at hz
    obtain ⟨zv, hz1, hz2, hz3, hz4⟩ := zeroOf_spec hz
    obtain ⟨f', ci, w', hrun, hst, hle, hc, hd0, _⟩ := push_sound h (cs := z) (ms := zv.cells.toList) (by rw [hz2]; exact LRel.scalars f _) (fun x hx => List.all_eq_true.1 hz4 x hx) [] (t := t) (k := .own) true (fun _ => rfl) (hk := by simp) (sz := ti.size) (by rw [ht]; rfl)
    refine ⟨f', .pointer (some ⟨ci.g, ci.d, none⟩), w', ?_, hst, hle, by have := VRel.ptr (f := f') H.nc 0 ci hc; simpa using this⟩
    simp only [List.append_nil, Array.toArray_toList] at hrun
    simp [Instr.alloc, zeroValue, typeInfo, hi, hz1, newVar, hrun]

theorem box_sound (h : StRel P B w0 f H w) {x : V} {vx : Value} (hx : VRel f x vx) {t : TypeId} {cs : List V} (hcs : cellsOf x = some cs) {sz : Nat} (hsz : (tiOf P t).map TI.size = some sz) :
    ∃ f' v' w', (Instr.box t vx).run P w = .ok v' w' ∧ StRel P B w0 f' (H.push ⟨cs, t, .own, true⟩) w' ∧ f.le f' ∧ VRel f' (.ptr H.nc 0) v' := by
  obtain ⟨f', ci, w', hrun, hst, hle, hc, hd0, _⟩ := push_sound h (cellsOf_rel hx hcs).1 (cellsOf_isc hcs) [] (t := t) (k := .own) true (fun _ => rfl) (hk := by simp) (sz := sz) hsz
  refine ⟨f', .pointer (some ⟨ci.g, ci.d, none⟩), w', ?_, hst, hle, by have := VRel.ptr (f := f') H.nc 0 ci hc; simpa using this⟩
  simp only [List.append_nil, Array.toArray_toList] at hrun
  simp [Instr.box, newVar, hrun]

/-! ### Numbers and strings -/
theorem toList_bytes (s : List UInt8) : (⟨⟨s⟩⟩ : ByteArray).toList = s := by rw [ByteArray.toList_eq]

theorem intOp_sound {op : BinOp} {t : TypeId} {k : IntKind} {a b : Int} {v : V} (h : intOp op k a b = some v) (hs : op ≠ .shl ∧ op ≠ .shr) :
    ∃ v', (binOp op t (.int k a) (.int k b)).run P w = .ok v' w ∧ VRel f v v' := by
  cases op <;> simp only [intOp] at h <;> first
    | (cases h; refine ⟨_, ?_, VRel.int _ _⟩; simp only [binOp, ne_eq, not_true_eq_false, if_false]; rfl)
    | (cases h; refine ⟨_, ?_, VRel.bool _⟩; simp only [binOp, ne_eq, not_true_eq_false, if_false]; rfl)
    | (split at h
       · cases h
       · rename_i hb
         cases h
         refine ⟨_, ?_, VRel.int _ _⟩
         simp only [binOp, Op.intDiv, ne_eq, not_true_eq_false, if_false, hb]
         rfl)
    | (cases h)
    | (exact absurd rfl hs.1)
    | (exact absurd rfl hs.2)

theorem shiftOp_sound {op : BinOp} {t : TypeId} {k yk : IntKind} {a b : Int} {v : V} (h : shiftOp op k a b = some v) :
    ∃ v', (binOp op t (.int k a) (.int yk b)).run P w = .ok v' w ∧ VRel f v v' := by
  unfold shiftOp at h
  split at h
  · cases h
  · rename_i hb
    cases op <;> simp only at h <;> first
      | (cases h; exact ⟨_, by simp [binOp, Op.shift, hb]; rfl, by constructor⟩)
      | (cases h)

theorem strOp_sound {op : BinOp} {t : TypeId} {a b : List UInt8} {v : V} (h : strOp op a b = some v) :
    ∃ v', (binOp op t (.string ⟨⟨a⟩⟩) (.string ⟨⟨b⟩⟩)).run P w = .ok v' w ∧ VRel f v v' := by
  have hsz : ∀ l : List UInt8, (⟨⟨l⟩⟩ : ByteArray).size = l.length := fun l => rfl
  have happ : ∀ l m : List UInt8, (⟨⟨l⟩⟩ : ByteArray) ++ ⟨⟨m⟩⟩ = ⟨⟨l ++ m⟩⟩ := fun l m => by
    rw [ByteArray.ext_iff]; simp [ByteArray.data_append]
  have hmax : IntKind.i64.max = 9223372036854775807 := by decide
  cases op <;> simp only [strOp] at h <;> first
    | (split at h
       · rename_i hc
         cases h
         refine ⟨.string ⟨⟨a ++ b⟩⟩, ?_, .str _⟩
         simp only [binOp, Op.stringOp, hsz, hmax]
         rw [if_neg (by omega), happ]
         rfl
       · cases h)
    | (cases h; exact ⟨_, by simp only [binOp, Op.stringOp, toList_bytes]; rfl, by constructor⟩)
    | (cases h)

end
end Go.Cm
set_option linter.unusedVariables false
set_option linter.unusedSimpArgs false
namespace Go.Cm
open Go Go.RowKit

section
variable {P : Program} {B : Nat} {w0 : World} {f : Inj} {H : Heap} {w : World}

theorem kd_bool {d : TypeDesc} (h : kdOf d = .bool) : d = .bool := by cases d <;> simp [kdOf] at h ⊢
theorem kd_int {d : TypeDesc} {k : IntKind} (h : kdOf d = .int k) : d = .int k := by cases d <;> simp [kdOf] at h ⊢; exact h
theorem kd_str {d : TypeDesc} (h : kdOf d = .str) : d = .string := by cases d <;> simp [kdOf] at h ⊢
theorem kd_ptr {d : TypeDesc} {e : TypeId} (h : kdOf d = .ptr e) : d = .pointer e := by cases d <;> simp [kdOf] at h ⊢; exact h
theorem kd_slice {d : TypeDesc} {e : TypeId} (h : kdOf d = .slice e) : d = .slice e := by cases d <;> simp [kdOf] at h ⊢; exact h
theorem kd_arr {d : TypeDesc} {n : Nat} {e : TypeId} (h : kdOf d = .arr n e) : d = .array n e := by cases d <;> simp [kdOf] at h ⊢; exact h
theorem kd_struct {d : TypeDesc} {fs : List (TypeId × Nat)} (h : kdOf d = .struct fs) : ∃ gs, d = .struct gs ∧ fs = gs.toList.map fun f => (f.type, f.offset) := by
  cases d with
  | struct gs => simp only [kdOf, Kd.struct.injEq] at h; exact ⟨gs, rfl, h.symm⟩
  | _ => simp [kdOf] at h
theorem kd_iface {d : TypeDesc} {n : Nat} (h : kdOf d = .iface n) : ∃ ms, d = .interface ms := by
  cases d with
  | interface ms => exact ⟨ms, rfl⟩
  | _ => simp [kdOf] at h
theorem kd_func {d : TypeDesc} (h : kdOf d = .func) : ∃ a b c, d = .func a b c := by
  cases d with
  | func a b c => exact ⟨a, b, c, rfl⟩
  | _ => simp [kdOf] at h

theorem eqScalar_sound {t : TypeId} {d : TypeDesc} (hu : P.underlying t = some d) {x y : V} {vx vy : Value} (hx : VRel f x vx) (hy : VRel f y vy) {r : Bool} (h : eqScalar (kdOf d) x y = some r) (n : Nat) :
    (Op.equalIn (n + 1) t vx vy).run P w = .ok r w := by
  generalize hk : kdOf d = k at h
  cases k <;> cases x <;> cases y <;> simp only [eqScalar] at h <;> try (cases h; done)
  · cases h
    rw [hx.bool_inv, hy.bool_inv]
    exact run_equalIn_bool' w n t _ _ (by rw [hu, kd_bool hk])
  · split at h
    · rename_i hkk
      subst hkk
      cases h
      rw [hx.int_inv, hy.int_inv]
      exact run_equalIn_int w n t _ _ _ _ (by rw [hu, kd_int hk])
    · cases h
  · cases h
    rw [hx.str_inv, hy.str_inv]
    rw [run_equalIn_string w n t _ _ (by rw [hu, kd_str hk]), toList_bytes, toList_bytes]

theorem kdOf_notAgg_scalar {d : TypeDesc} {x y : V} {r : Bool} (h : eqScalar (kdOf d) x y = some r) : (kdOf d).isAgg = false := by
  cases hk : kdOf d <;> rw [hk] at h <;> first | rfl | (simp [eqScalar] at h)

theorem run_part_scalar {t : TypeId} {d : TypeDesc} (hu : P.underlying t = some d) (hg : (kdOf d).isAgg = false) {cs : List Value} {o : Nat} {v : Value} (hv : cs[o]? = some v) (w : World) :
    (part t ⟨cs⟩ o).run P w = .ok v w := by
  simp [part, run_isAgg hu, hg, hv]

theorem eqFields_sound (xs ys : List V) (xs' ys' : List Value) (hx : LRel f xs xs') (hy : LRel f ys ys') (n : Nat) : ∀ (fs : List Field) (r : Bool), eqFields P xs ys fs = some r → (Op.eqFields (n + 1) ⟨xs'⟩ ⟨ys'⟩ fs).run P w = .ok r w
  | [], r, h => by simp [eqFields] at h; subst h; rfl
  | fd :: fs, r, h => by
    simp only [eqFields] at h
    split at h
    · rename_i ti a b ht ha hb
      split at h
      · rename_i r1 q h1 h2
        split at h
        · rename_i hn
          cases h
          obtain ⟨i, d, hi, hd, hk, _⟩ := tiOf_spec ht
          rw [hk] at h1
          obtain ⟨a', ha', ra⟩ := hx.get ha
          obtain ⟨b', hb', rb⟩ := hy.get hb
          have hg := kdOf_notAgg_scalar h1
          have e1 := eqScalar_sound (w := w) hd ra rb h1 n
          have ih := eqFields_sound xs ys xs' ys' hx hy n fs q h2
          simp only [Op.eqFields, ne_eq, hn, not_false_eq_true, if_true, Sem.run_bind, run_part_scalar hd hg ha', run_part_scalar hd hg hb', Result.andThen_ok, e1]
          cases r1
          · simp
          · simp only [Bool.not_true, Bool.false_eq_true, if_false, Bool.true_and]; exact ih
        · cases h
      · cases h
    · cases h

theorem guard_plain1 (op : BinOp) (t : TypeId) (ox oy : Operand) (a b : Value) (h1 : ∀ m, a ≠ .agg m) (h2 : a ≠ .nilIface) : (eqGuard op t ox oy a b).run P w = .ok () w := by
  cases op <;> first | rfl | (cases a <;> first | exact absurd rfl h2 | exact absurd rfl (h1 _) | rfl)
theorem guard_plain2 (op : BinOp) (t : TypeId) (ox oy : Operand) (a b : Value) (h1 : ∀ m, b ≠ .agg m) (h2 : b ≠ .nilIface) : (eqGuard op t ox oy a b).run P w = .ok () w := by
  cases op <;> first | rfl | (cases b <;> first | exact absurd rfl h2 | exact absurd rfl (h1 _) | (cases a <;> rfl))

/-! One kind each. -/
theorem eqi_ptr_nil {t e : TypeId} (hu : P.underlying t = some (.pointer e)) (b : Option Addr) (n : Nat) : (Op.equalIn (n + 1) t (.pointer none) (.pointer b)).run P w = .ok b.isNone w := by
  simp only [Op.equalIn, Sem.run_bind, run_underlying hu, Result.andThen_ok]; rfl
theorem eqi_nil_ptr {t e : TypeId} (hu : P.underlying t = some (.pointer e)) (a : Addr) (n : Nat) : (Op.equalIn (n + 1) t (.pointer (some a)) (.pointer none)).run P w = .ok false w := by
  simp only [Op.equalIn, Sem.run_bind, run_underlying hu, Result.andThen_ok]; rfl
theorem eqi_ptr_ptr {t e : TypeId} (hu : P.underlying t = some (.pointer e)) {i : TypeInfo} (hi : P.info? e = some i) (hs : i.size ≠ 0) (g o o' : Nat) (n : Nat) :
    (Op.equalIn (n + 1) t (.pointer (some ⟨g, o, none⟩)) (.pointer (some ⟨g, o', none⟩))).run P w = .ok (o == o') w := by
  simp only [Op.equalIn, Sem.run_bind, run_underlying hu, Result.andThen_ok, run_sizeOf' hi, ne_eq, hs, not_false_eq_true, if_true, sameAddr, beq_self_eq_true]
  show Result.ok _ w = Result.ok _ w
  congr 1
  rw [Bool.eq_iff_iff, beq_iff_eq, beq_iff_eq]
  constructor
  · intro e; injection e
  · intro e; rw [e]
theorem eqi_slice_nil {t e : TypeId} (hu : P.underlying t = some (.slice e)) (b : Option Addr) (k c k' c' : Nat) (n : Nat) : (Op.equalIn (n + 1) t (.slice none k c) (.slice b k' c')).run P w = .ok b.isNone w := by
  simp only [Op.equalIn, Sem.run_bind, run_underlying hu, Result.andThen_ok]; rfl
theorem eqi_nil_slice {t e : TypeId} (hu : P.underlying t = some (.slice e)) (a : Addr) (k c k' c' : Nat) (n : Nat) : (Op.equalIn (n + 1) t (.slice (some a) k c) (.slice none k' c')).run P w = .ok false w := by
  simp only [Op.equalIn, Sem.run_bind, run_underlying hu, Result.andThen_ok]; rfl
theorem eqi_fn0 {t : TypeId} {a b : Array TypeId} {c : Bool} (hu : P.underlying t = some (.func a b c)) (n : Nat) : (Op.equalIn (n + 1) t .nilFunc .nilFunc).run P w = .ok true w := by
  simp only [Op.equalIn, Sem.run_bind, run_underlying hu, Result.andThen_ok]; rfl
theorem eqi_fn1 {t : TypeId} {a b : Array TypeId} {c : Bool} (hu : P.underlying t = some (.func a b c)) (x : Fn) (y z : Array Value) (n : Nat) : (Op.equalIn (n + 1) t .nilFunc (.func x y z)).run P w = .ok false w := by
  simp only [Op.equalIn, Sem.run_bind, run_underlying hu, Result.andThen_ok]; rfl
theorem eqi_fn2 {t : TypeId} {a b : Array TypeId} {c : Bool} (hu : P.underlying t = some (.func a b c)) (x : Fn) (y z : Array Value) (n : Nat) : (Op.equalIn (n + 1) t (.func x y z) .nilFunc).run P w = .ok false w := by
  simp only [Op.equalIn, Sem.run_bind, run_underlying hu, Result.andThen_ok]; rfl
theorem eqi_if0 {t : TypeId} {ms : Array (String × TypeId)} (hu : P.underlying t = some (.interface ms)) (n : Nat) : (Op.equalIn (n + 1) t .nilIface .nilIface).run P w = .ok true w := by
  simp only [Op.equalIn, Sem.run_bind, run_underlying hu, Result.andThen_ok]; rfl
theorem eqi_if1 {t : TypeId} {ms : Array (String × TypeId)} (hu : P.underlying t = some (.interface ms)) (x : TypeId) (y : Value) (n : Nat) : (Op.equalIn (n + 1) t .nilIface (.iface x y)).run P w = .ok false w := by
  simp only [Op.equalIn, Sem.run_bind, run_underlying hu, Result.andThen_ok]; rfl
theorem eqi_if2 {t : TypeId} {ms : Array (String × TypeId)} (hu : P.underlying t = some (.interface ms)) (x : TypeId) (y : Value) (n : Nat) : (Op.equalIn (n + 1) t (.iface x y) .nilIface).run P w = .ok false w := by
  simp only [Op.equalIn, Sem.run_bind, run_underlying hu, Result.andThen_ok]; rfl

/-- What '==' and '!=' are for two values. -/
structure EqOk (P : Program) (w : World) (t : TypeId) (ox oy : Operand) (vx vy : Value) (r : Bool) : Prop where
  eq : ∀ n, (Op.equalIn (n + 2) t vx vy).run P w = .ok r w
  guard : ∀ op, (eqGuard op t ox oy vx vy).run P w = .ok () w
  eql : binOp .eql t vx vy = (do pure (.bool (← Op.equal t vx vy)))
  neq : binOp .neq t vx vy = (do pure (.bool (!(← Op.equal t vx vy))))

theorem EqOk.mk1 {t : TypeId} {ox oy : Operand} {vx vy : Value} {r : Bool} (h : ∀ n, (Op.equalIn (n + 2) t vx vy).run P w = .ok r w) (h1 : ∀ m, vx ≠ .agg m) (h2 : vx ≠ .nilIface)
    (h3 : binOp .eql t vx vy = (do pure (.bool (← Op.equal t vx vy)))) (h4 : binOp .neq t vx vy = (do pure (.bool (!(← Op.equal t vx vy))))) : EqOk P w t ox oy vx vy r :=
  ⟨h, fun op => guard_plain1 op t ox oy _ _ h1 h2, h3, h4⟩
theorem EqOk.mk2 {t : TypeId} {ox oy : Operand} {vx vy : Value} {r : Bool} (h : ∀ n, (Op.equalIn (n + 2) t vx vy).run P w = .ok r w) (h1 : ∀ m, vy ≠ .agg m) (h2 : vy ≠ .nilIface)
    (h3 : binOp .eql t vx vy = (do pure (.bool (← Op.equal t vx vy)))) (h4 : binOp .neq t vx vy = (do pure (.bool (!(← Op.equal t vx vy))))) : EqOk P w t ox oy vx vy r :=
  ⟨h, fun op => guard_plain2 op t ox oy _ _ h1 h2, h3, h4⟩

theorem func_inv {v : Fn} {a b : List V} {vx : Value} (h : VRel f (.fn v a b) vx) : ∃ x y z, vx = .func x y z := by cases h <;> exact ⟨_, _, _, rfl⟩

theorem eqV_sound {t : TypeId} {x y : V} {vx vy : Value} (hx : VRel f x vx) (hy : VRel f y vy) {r : Bool} (he : eqV P t x y = some r) (hni : ∀ k n k' m, ¬ (x = .int k n ∧ y = .int k' m)) (hns : ∀ s u, ¬ (x = .str s ∧ y = .str u)) (ox oy : Operand) :
    EqOk P w t ox oy vx vy r := by
  unfold eqV at he
  cases ht : tiOf P t with
  | none => rw [ht] at he; cases he
  | some ti =>
    rw [ht] at he
    simp only at he
    obtain ⟨i, d, hi, hd, hk, _⟩ := tiOf_spec ht
    rw [hk] at he
    generalize hkd : kdOf d = kd at he
    cases kd with
    | ptr e =>
      have hu : P.underlying t = some (.pointer e) := by rw [hd, kd_ptr hkd]
      cases x <;> cases y <;> simp only [eqScalar] at he <;> try (cases he; done)
      · split at he
        · rename_i hc
          cases he
          obtain ⟨rfl, hsz⟩ := hc
          obtain ⟨ci, hc1, rfl⟩ := hx.ptr_inv
          obtain ⟨ci', hc2, rfl⟩ := hy.ptr_inv
          rw [hc1] at hc2; cases hc2
          cases hte : tiOf P e with
          | none => rw [hte] at hsz; simp at hsz
          | some ei =>
            rw [hte] at hsz
            obtain ⟨i2, d2, hi2, _, _, hs2, _⟩ := tiOf_spec hte
            simp only [Option.map_some, Option.getD_some, hs2] at hsz
            refine .mk1 (fun n => ?_) (by simp) (by simp) rfl rfl
            rw [show n + 2 = (n + 1) + 1 from rfl, eqi_ptr_ptr (w := w) hu hi2 hsz]
            congr 1
            rw [Bool.eq_iff_iff, beq_iff_eq, beq_iff_eq]
            omega
        · cases he
      · cases he
        obtain ⟨ci, _, rfl⟩ := hx.ptr_inv
        rw [hy.nilptr_inv]
        exact .mk1 (fun n => eqi_nil_ptr hu _ (n + 1)) (by simp) (by simp) rfl rfl
      · cases he
        obtain ⟨ci, _, rfl⟩ := hy.ptr_inv
        rw [hx.nilptr_inv]
        exact .mk1 (fun n => eqi_ptr_nil hu _ (n + 1)) (by simp) (by simp) rfl rfl
      · cases he
        rw [hx.nilptr_inv, hy.nilptr_inv]
        exact .mk1 (fun n => eqi_ptr_nil hu _ (n + 1)) (by simp) (by simp) rfl rfl
    | slice e =>
      have hu : P.underlying t = some (.slice e) := by rw [hd, kd_slice hkd]
      cases x <;> cases y <;> simp only [eqScalar] at he <;> try (cases he; done)
      · cases he
        obtain ⟨ci, a, c', _, rfl, _⟩ := hx.slice_inv
        rw [hy.nilslice_inv]
        exact .mk1 (fun n => eqi_nil_slice hu _ _ _ _ _ (n + 1)) (by simp) (by simp) rfl rfl
      · cases he
        obtain ⟨ci, a, c', _, rfl, _⟩ := hy.slice_inv
        rw [hx.nilslice_inv]
        exact .mk1 (fun n => eqi_slice_nil hu _ _ _ _ _ (n + 1)) (by simp) (by simp) rfl rfl
      · cases he
        rw [hx.nilslice_inv, hy.nilslice_inv]
        exact .mk1 (fun n => eqi_slice_nil hu _ _ _ _ _ (n + 1)) (by simp) (by simp) rfl rfl
    | func =>
      obtain ⟨_, _, _, rfl⟩ := kd_func hkd
      cases x <;> cases y <;> simp only [eqScalar] at he <;> try (cases he; done)
      · cases he
        obtain ⟨x1, x2, x3, rfl⟩ := func_inv hx
        rw [hy.nilfn_inv]
        exact .mk1 (fun n => eqi_fn2 hd _ _ _ (n + 1)) (by simp) (by simp) rfl rfl
      · cases he
        obtain ⟨x1, x2, x3, rfl⟩ := func_inv hy
        rw [hx.nilfn_inv]
        exact .mk1 (fun n => eqi_fn1 hd _ _ _ (n + 1)) (by simp) (by simp) rfl rfl
      · cases he
        rw [hx.nilfn_inv, hy.nilfn_inv]
        exact .mk1 (fun n => eqi_fn0 hd (n + 1)) (by simp) (by simp) rfl rfl
    | iface m =>
      obtain ⟨ms, rfl⟩ := kd_iface hkd
      cases x <;> cases y <;> simp only [eqScalar] at he <;> try (cases he; done)
      · cases he
        obtain ⟨u, rfl, _⟩ := hx.iface_inv
        rw [hy.nilif_inv]
        exact .mk1 (fun n => eqi_if2 hd _ _ (n + 1)) (by simp) (by simp) rfl rfl
      · cases he
        obtain ⟨u, rfl, _⟩ := hy.iface_inv
        rw [hx.nilif_inv]
        exact .mk2 (fun n => eqi_if1 hd _ _ (n + 1)) (by simp) (by simp) rfl rfl
    | struct fs =>
      cases x <;> cases y <;> simp only [eqScalar] at he <;> try (cases he; done)
      split at he
      · rename_i fs hfs
        split at he
        · rename_i hcond
          obtain ⟨xs', rfl, hxs⟩ := hx.agg_inv
          obtain ⟨ys', rfl, hys⟩ := hy.agg_inv
          have hfo : P.fieldsOf t = fs := by simp [Program.fieldsOf, hfs]
          refine ⟨fun n => ?_, fun op => run_eqGuard_agg w op t ox oy _ _ hcond.2, rfl, rfl⟩
          have := run_equalIn_struct (P := P) w (n + 1) t ⟨xs'⟩ ⟨ys'⟩ (by rw [hfs, hfo]) hcond.1
          rw [hfo, eqFields_sound _ _ _ _ hxs hys n _ _ he] at this
          exact this
        · cases he
      · cases he
    | bool =>
      cases x <;> cases y <;> simp only [eqScalar] at he <;> try (cases he; done)
      cases he
      rw [hx.bool_inv, hy.bool_inv]
      exact .mk1 (fun n => run_equalIn_bool' w (n + 1) t _ _ (by rw [hd, kd_bool hkd])) (by simp) (by simp) rfl rfl
    | int k =>
      cases x <;> cases y <;> simp only [eqScalar] at he <;> try (cases he; done)
      exact absurd ⟨rfl, rfl⟩ (hni _ _ _ _)
    | str =>
      cases x <;> cases y <;> simp only [eqScalar] at he <;> try (cases he; done)
      exact absurd ⟨rfl, rfl⟩ (hns _ _)
    | arr n e => cases x <;> cases y <;> simp [eqScalar] at he
    | uptr => cases x <;> cases y <;> simp [eqScalar] at he
    | other => cases x <;> cases y <;> simp [eqScalar] at he

theorem equal_of {t : TypeId} {vx vy : Value} {r : Bool} (h : ∀ n, (Op.equalIn (n + 2) t vx vy).run P w = .ok r w) : (Op.equal t vx vy).run P w = .ok r w := h 9998

theorem opBin_sound {op : BinOp} {t : TypeId} {ox oy : Operand} {x y : V} {vx vy : Value} (hx : VRel f x vx) (hy : VRel f y vy) {v : V} (he : opBin P op t ox oy x y = some v) :
    ∃ v', (do eqGuard op t ox oy vx vy; binOp op t vx vy : Sem Value).run P w = .ok v' w ∧ VRel f v v' := by
  have nils : ∀ (r : Bool), (if ((isConst ox || isConst oy) && (match kdAt P t with | some (.iface _) => true | _ => false)) = true then some (V.bool r) else none) = some v → v = V.bool r ∧ ∀ op, (eqGuard op t ox oy .nilIface .nilIface).run P w = .ok () w ∧ ∃ ms, P.underlying t = some (.interface ms) := by
    intro r hr
    by_cases hc : ((isConst ox || isConst oy) && (match kdAt P t with | some (.iface _) => true | _ => false)) = true
    · rw [if_pos hc] at hr
      simp only [Bool.and_eq_true] at hc
      obtain ⟨hc1, hc2⟩ := hc
      refine ⟨(Option.some.inj hr).symm, fun op => ⟨?_, ?_⟩⟩
      · cases ox <;> cases oy <;> first | (simp [isConst] at hc1; done) | (cases op <;> rfl)
      · split at hc2
        · rename_i ms hk
          obtain ⟨d, hd, hk2⟩ := kdAt_spec hk
          obtain ⟨ms', rfl⟩ := kd_iface hk2.symm
          exact ⟨ms', hd⟩
        · cases hc2
    · rw [if_neg hc] at hr; cases hr
  unfold opBin at he
  split at he
  · rw [hx.int_inv, hy.int_inv]
    obtain ⟨v', h1, h2⟩ := shiftOp_sound (P := P) (w := w) (f := f) (t := t) (yk := by assumption) he
    exact ⟨v', by simpa [eqGuard] using h1, h2⟩
  · rw [hx.int_inv, hy.int_inv]
    obtain ⟨v', h1, h2⟩ := shiftOp_sound (P := P) (w := w) (f := f) (t := t) (yk := by assumption) he
    exact ⟨v', by simpa [eqGuard] using h1, h2⟩
  · rename_i k n k' m hn1 hn2
    split at he
    · rename_i hkk
      subst hkk
      rw [hx.int_inv, hy.int_inv]
      obtain ⟨v', h1, h2⟩ := intOp_sound (P := P) (w := w) (f := f) (t := t) he ⟨hn1, hn2⟩
      refine ⟨v', ?_, h2⟩
      rw [Sem.run_bind, guard_plain1 _ _ _ _ _ _ (by simp) (by simp)]
      exact h1
    · cases he
  · rw [hx.str_inv, hy.str_inv]
    obtain ⟨v', h1, h2⟩ := strOp_sound (P := P) (w := w) (f := f) (t := t) he
    refine ⟨v', ?_, h2⟩
    rw [Sem.run_bind, guard_plain1 _ _ _ _ _ _ (by simp) (by simp)]
    exact h1
  · rw [hx.nilif_inv, hy.nilif_inv]
    obtain ⟨rfl, hg⟩ := nils true he
    obtain ⟨h1, ms, hms⟩ := hg .eql
    refine ⟨.bool true, ?_, .bool _⟩
    have e := equal_of fun n => eqi_if0 (w := w) hms (n + 1)
    rw [Sem.run_bind, h1]
    show (binOp .eql t .nilIface .nilIface).run P w = _
    have : binOp .eql t .nilIface .nilIface = (do pure (.bool (← Op.equal t .nilIface .nilIface))) := rfl
    rw [this, Sem.run_bind, e]
    rfl
  · rw [hx.nilif_inv, hy.nilif_inv]
    obtain ⟨rfl, hg⟩ := nils false he
    obtain ⟨h1, ms, hms⟩ := hg .neq
    refine ⟨.bool false, ?_, .bool _⟩
    have e := equal_of fun n => eqi_if0 (w := w) hms (n + 1)
    rw [Sem.run_bind, h1]
    show (binOp .neq t .nilIface .nilIface).run P w = _
    have : binOp .neq t .nilIface .nilIface = (do pure (.bool (!(← Op.equal t .nilIface .nilIface)))) := rfl
    rw [this, Sem.run_bind, e]
    rfl
  · rename_i hni hns _
    cases hq : eqV P t x y with
    | none => rw [hq] at he; cases he
    | some r =>
      rw [hq] at he
      simp only [Option.map_some, Option.some.injEq] at he
      subst he
      have hE := eqV_sound (w := w) hx hy hq (fun k n k' m e => hni k n k' m e.1 e.2) (fun s u e => hns s u e.1 e.2) ox oy
      refine ⟨.bool r, ?_, .bool r⟩
      rw [Sem.run_bind, hE.guard, hE.eql]
      simp only [Result.andThen_ok, Sem.run_bind, equal_of hE.eq, Sem.run_pure]
  · rename_i hni hns _
    cases hq : eqV P t x y with
    | none => rw [hq] at he; cases he
    | some r =>
      rw [hq] at he
      simp only [Option.map_some, Option.some.injEq] at he
      subst he
      have hE := eqV_sound (w := w) hx hy hq (fun k n k' m e => hni k n k' m e.1 e.2) (fun s u e => hns s u e.1 e.2) ox oy
      refine ⟨.bool (!r), ?_, .bool _⟩
      rw [Sem.run_bind, hE.guard, hE.neq]
      simp only [Result.andThen_ok, Sem.run_bind, equal_of hE.eq, Sem.run_pure]
  · cases he

end
end Go.Cm
set_option linter.unusedVariables false
set_option linter.unusedSimpArgs false
namespace Go.Cm
open Go Go.RowKit

section
variable {P : Program} {B : Nat} {w0 : World} {f : Inj} {H : Heap} {w : World}

theorem opUn_sound {op : UnOp} {x : V} {vx : Value} (hx : VRel f x vx) {v : V} (he : opUn op x = some v) : ∃ v', (Op.unary op vx).run P w = .ok v' w ∧ VRel f v v' := by
  unfold opUn at he
  split at he
  · cases he; rw [hx.int_inv]; exact ⟨_, rfl, .int _ _⟩
  · rw [hx.int_inv]
    simp only [intOp] at he
    cases he
    exact ⟨_, rfl, .int _ _⟩
  · cases he; rw [hx.bool_inv]; exact ⟨_, rfl, .bool _⟩
  · cases he

theorem getElem?_toList {α : Type} (a : Array α) (i : Nat) : a[i]? = a.toList[i]? := by simp

theorem struct_field {d : TypeDesc} {fs : List (TypeId × Nat)} (hk : kdOf d = .struct fs) {i : Nat} {ft : TypeId} {off : Nat} (hf : fs[i]? = some (ft, off)) :
    ∃ gs fd, d = .struct gs ∧ gs[i]? = some fd ∧ fd.type = ft ∧ fd.offset = off := by
  obtain ⟨gs, rfl, rfl⟩ := kd_struct hk
  rw [List.getElem?_map] at hf
  cases hg : gs.toList[i]? with
  | none => rw [hg] at hf; cases hf
  | some fd =>
    rw [hg] at hf
    simp at hf
    exact ⟨gs, fd, rfl, by rw [getElem?_toList]; exact hg, hf.1, hf.2⟩

theorem fieldAddr_sound {s : TypeId} {x : V} {vx : Value} (hx : VRel f x vx) {i : Nat} {v : V} (he : fieldAddrOp P s x i = some v) : ∃ v', (Instr.fieldAt s vx i).run P w = .ok v' w ∧ VRel f v v' := by
  unfold fieldAddrOp at he
  split at he
  · rename_i ti b o ht
    obtain ⟨inf, d, hi, hd, hk, _⟩ := tiOf_spec ht
    split at he
    · rename_i fs hfs
      split at he
      · rename_i ft off hf
        split at he
        · rename_i fi hfi
          split at he
          · cases he
          · rename_i hsz
            cases he
            rw [hk] at hfs
            obtain ⟨gs, fd, rfl, hg, rfl, rfl⟩ := struct_field hfs hf
            obtain ⟨i2, d2, hi2, _, _, hs2, _⟩ := tiOf_spec hfi
            rw [hs2] at hsz
            obtain ⟨ci, hc, rfl⟩ := hx.ptr_inv
            refine ⟨.pointer (some ⟨ci.g, ci.d + (o + fd.offset), none⟩), ?_, .ptr _ _ _ hc⟩
            simp only [Instr.fieldAt, Sem.run_bind, run_underlying hd, Result.andThen_ok, hg, Instr.sureAddr, Sem.run_pure, fieldPlace, run_sizeOf' hi2, hsz, if_false, add_none, Nat.add_assoc]
        · cases he
      · cases he
    · cases he
  · cases he

theorem part_sound {t : TypeId} {ti : TI} (ht : tiOf P t = some ti) {cs : List V} {ms : List Value} (hr : LRel f cs ms) {off : Nat} {v : V} (he : partOf ti cs off = some v) : ∃ v', (part t ⟨ms⟩ off).run P w = .ok v' w ∧ VRel f v v' := by
  obtain ⟨i, d, hi, hd, hk, hs, _⟩ := tiOf_spec ht
  unfold partOf at he
  rw [hk] at he
  by_cases hg : (kdOf d).isAgg = true
  · rw [if_pos hg] at he
    cases hrc : readCells cs off ti.size with
    | none => rw [hrc] at he; cases he
    | some ys =>
      rw [hrc] at he
      simp at he
      subst he
      unfold readCells at hrc
      split at hrc
      · cases hrc
        refine ⟨.agg ⟨(ms.drop off).take ti.size⟩, ?_, .agg' ((hr.drop off).take _)⟩
        simp only [part, Sem.run_bind, run_isAgg hd, hg, Result.andThen_ok, if_true, run_sizeOf' hi, Sem.run_pure, hs]
        congr 2
        apply Array.ext'
        simp [List.extract]
      · cases hrc
  · simp only [Bool.not_eq_true] at hg
    rw [hg] at he
    simp only [Bool.false_eq_true, if_false] at he
    obtain ⟨y, hy, hv⟩ := hr.get he
    exact ⟨y, run_part_scalar hd hg hy w, hv⟩

theorem field_sound {s : TypeId} {x : V} {vx : Value} (hx : VRel f x vx) {i : Nat} {v : V} (he : fieldOp P s x i = some v) : ∃ v', (Instr.field s vx i).run P w = .ok v' w ∧ VRel f v v' := by
  unfold fieldOp at he
  split at he
  · rename_i ti cs ht
    obtain ⟨inf, d, hi, hd, hk, _⟩ := tiOf_spec ht
    split at he
    · rename_i fs hfs
      split at he
      · rename_i ft off hf
        split at he
        · rename_i fi hfi
          rw [hk] at hfs
          obtain ⟨gs, fd, rfl, hg, rfl, rfl⟩ := struct_field hfs hf
          obtain ⟨ms, rfl, hr⟩ := hx.agg_inv
          obtain ⟨v', h1, h2⟩ := part_sound (w := w) hfi hr he
          refine ⟨v', ?_, h2⟩
          simp only [Instr.field, Sem.run_bind, run_underlying hd, Result.andThen_ok, hg, asAgg, Sem.run_pure, h1]
        · cases he
      · cases he
    · cases he
  · cases he

theorem slice_addr {b o n c : Nat} {ex : Bool} {vx : Value} (hx : VRel f (.slice b o n c ex) vx) (hn : 0 < n) : ∃ ci c', f.c b = some ci ∧ vx = .slice (some ⟨ci.g, ci.d + o, none⟩) n c' ∧ c ≤ c' := by
  obtain ⟨ci, a, c', hc, rfl, ha, h1, _, h2, _⟩ := hx.slice_inv
  rcases ha with ha | ha
  · omega
  · subst ha; exact ⟨ci, c', hc, rfl, h1⟩

theorem indexAddr_sound {t : TypeId} {x i : V} {vx vi : Value} (hx : VRel f x vx) (hi : VRel f i vi) {v : V} (he : indexAddrOp P t x i = some v) : ∃ v', (Instr.indexAt t vx vi).run P w = .ok v' w ∧ VRel f v v' := by
  unfold indexAddrOp at he
  split at he
  · rename_i ti k i ht
    rw [hi.int_inv]
    obtain ⟨inf, d, hinf, hd, hk, _⟩ := tiOf_spec ht
    split at he
    · rename_i n e b o hkk
      split at he
      · rename_i ei hei
        split at he
        · rename_i hb
          cases he
          rw [hk] at hkk
          have := kd_arr hkk
          subst this
          obtain ⟨i2, d2, hi2, _, _, hs2, _⟩ := tiOf_spec hei
          obtain ⟨ci, hc, rfl⟩ := hx.ptr_inv
          refine ⟨.pointer (some ⟨ci.g, ci.d + (o + i.toNat * ei.size), none⟩), ?_, .ptr _ _ _ hc⟩
          simp only [Instr.indexAt, asIntOf, Sem.run_bind, Sem.run_pure, Result.andThen_ok, run_underlying hd, Instr.sureAddr, hb, and_self, if_true, run_sizeOf' hi2, add_none, hs2, Nat.add_assoc]
        · cases he
      · cases he
    · rename_i e b o n c ex hkk
      split at he
      · rename_i ei hei
        split at he
        · rename_i hb
          cases he
          rw [hk] at hkk
          have := kd_slice hkk
          subst this
          obtain ⟨i2, d2, hi2, _, _, hs2, _⟩ := tiOf_spec hei
          obtain ⟨ci, c', hc, rfl, _⟩ := slice_addr hx (by omega)
          refine ⟨.pointer (some ⟨ci.g, ci.d + (o + i.toNat * ei.size), none⟩), ?_, .ptr _ _ _ hc⟩
          simp only [Instr.indexAt, asIntOf, Sem.run_bind, Sem.run_pure, Result.andThen_ok, run_underlying hd, hb, and_self, if_true, run_sizeOf' hi2, add_none, hs2, Nat.add_assoc]
        · cases he
      · cases he
    · cases he
  · cases he

theorem index_sound {t : TypeId} {x i : V} {vx vi : Value} (hx : VRel f x vx) (hi : VRel f i vi) {v : V} (he : indexOp P t x i = some v) : ∃ v', (Instr.index t vx vi).run P w = .ok v' w ∧ VRel f v v' := by
  unfold indexOp at he
  split at he
  · rename_i ti k i ht
    rw [hi.int_inv]
    obtain ⟨inf, d, hinf, hd, hk, _⟩ := tiOf_spec ht
    split at he
    · rename_i n e cs hkk
      split at he
      · rename_i ei hei
        split at he
        · rename_i hb
          rw [hk] at hkk
          have := kd_arr hkk
          subst this
          obtain ⟨i2, d2, hi2, _, _, hs2, _⟩ := tiOf_spec hei
          obtain ⟨ms, rfl, hr⟩ := hx.agg_inv
          obtain ⟨v', h1, h2⟩ := part_sound (w := w) hei hr he
          refine ⟨v', ?_, h2⟩
          rw [hs2] at h1
          simp only [Instr.index, asIntOf, Sem.run_bind, Sem.run_pure, Result.andThen_ok, run_underlying hd, hb, and_self, if_true, run_sizeOf' hi2, h1]
        · cases he
      · cases he
    · rename_i s hkk
      split at he
      · rename_i hb
        rw [hk] at hkk
        have := kd_str hkk
        subst this
        cases hs : s[i.toNat]? with
        | none => rw [hs] at he; cases he
        | some c =>
          rw [hs] at he
          cases he
          rw [hx.str_inv]
          refine ⟨.int .u8 c.toNat, ?_, .int _ _⟩
          have : (⟨⟨s⟩⟩ : ByteArray)[i.toNat]? = some c := by
            have hlt := (List.getElem?_eq_some_iff.1 hs).1
            rw [getElem?_pos _ _ (by exact hlt)]
            have := (List.getElem?_eq_some_iff.1 hs).2
            exact congrArg some this
          simp only [Instr.index, asIntOf, Sem.run_bind, Sem.run_pure, Result.andThen_ok, run_underlying hd, hb, if_true, this]
      · cases he
    · cases he
  · cases he

theorem extract_sound {x : V} {vx : Value} (hx : VRel f x vx) {i : Nat} {v : V} (he : extractOp x i = some v) : ∃ v', (Instr.extract vx i).run P w = .ok v' w ∧ VRel f v v' := by
  unfold extractOp at he
  split at he
  · obtain ⟨ms, rfl, hr⟩ := hx.tuple_inv
    obtain ⟨y, hy, hv⟩ := hr.get he
    refine ⟨y, ?_, hv⟩
    simp [Instr.extract, hy]
  · cases he

/-! ### Slice expressions -/
theorem bound_sound {x : V} {vx : Value} (hx : VRel f x vx) {y l : Nat} (he : bound x y = some l) (code : BoundsCode) : (Instr.sliceBound vx y code).run P w = .ok l w ∧ l ≤ y := by
  unfold bound at he
  split at he
  · split at he
    · rename_i hb
      cases he
      rw [hx.int_inv]
      exact ⟨by simp [Instr.sliceBound, asIntOf, hb], by omega⟩
    · cases he
  · cases he

/-- A bound holds for every greater limit. -/
theorem bound_mono {x : V} {y y' l : Nat} (he : bound x y = some l) (h : y ≤ y') : bound x y' = some l := by
  unfold bound at *
  split at he
  · split at he
    · rename_i hb
      cases he
      rw [if_pos ⟨hb.1, by omega⟩]
    · cases he
  · cases he

inductive ORelV (f : Inj) : Option V → Option Value → Prop
  | none : ORelV f none none
  | some {x : V} {y : Value} (h : VRel f x y) : ORelV f (some x) (some y)

theorem bounds_sound {lo hi mx : Option V} {lo' hi' mx' : Option Value} (hlo : ORelV f lo lo') (hhi : ORelV f hi hi') (hmx : ORelV f mx mx') {isS : Bool} {n c c' l h m : Nat} (hc : c ≤ c') (hn : n ≤ c)
    (he : bounds n c lo hi mx = some (l, h, m)) :
    ∃ m', (Instr.sliceBounds isS n c' lo' hi' mx').run P w = .ok (l, h, m') w ∧ l ≤ h ∧ h ≤ m ∧ m ≤ c ∧ (mx.isSome = true → m' = m) ∧ (mx.isSome = false → m = c ∧ m' = c') := by
  unfold bounds at he
  cases hmx with
  | none =>
    simp only at he
    cases hhi with
    | none =>
      simp only at he
      cases hlo with
      | none =>
        simp only [Option.some.injEq, Prod.mk.injEq] at he
        obtain ⟨rfl, rfl, rfl⟩ := he
        exact ⟨c', by simp [Instr.sliceBounds], by omega, by omega, by omega, by simp, by simp⟩
      | some hl =>
        rename_i xl yl
        simp only at he
        cases hb : bound xl n with
        | none => rw [hb] at he; cases he
        | some l2 =>
          rw [hb] at he
          simp only [Option.some.injEq, Prod.mk.injEq] at he
          obtain ⟨rfl, rfl, rfl⟩ := he
          obtain ⟨h1, h2⟩ := bound_sound (P := P) (w := w) hl hb .sliceB
          exact ⟨c', by simp [Instr.sliceBounds, h1], by omega, by omega, by omega, by simp, by simp⟩
    | some hh =>
      rename_i xh yh
      simp only at he
      cases hb : bound xh c with
      | none => rw [hb] at he; cases he
      | some h2 =>
        rw [hb] at he
        simp only at he
        have hle := (bound_sound (P := P) (w := w) hh hb .sliceB).2
        obtain ⟨h1, _⟩ := bound_sound (P := P) (w := w) hh (bound_mono hb hc) (if isS then .sliceAcap else .sliceAlen)
        cases hlo with
        | none =>
          simp only [Option.some.injEq, Prod.mk.injEq] at he
          obtain ⟨rfl, rfl, rfl⟩ := he
          exact ⟨c', by simp [Instr.sliceBounds, h1], by omega, by omega, by omega, by simp, by simp⟩
        | some hl =>
          rename_i xl yl
          simp only at he
          cases hb2 : bound xl h2 with
          | none => rw [hb2] at he; cases he
          | some l2 =>
            rw [hb2] at he
            simp only [Option.some.injEq, Prod.mk.injEq] at he
            obtain ⟨rfl, rfl, rfl⟩ := he
            obtain ⟨h3, h4⟩ := bound_sound (P := P) (w := w) hl hb2 .sliceB
            exact ⟨c', by simp [Instr.sliceBounds, h1, h3], by omega, by omega, by omega, by simp, by simp⟩
  | some hm =>
    rename_i xm ym
    simp only at he
    cases hb0 : bound xm c with
    | none => rw [hb0] at he; cases he
    | some m2 =>
      rw [hb0] at he
      simp only at he
      have hmle := (bound_sound (P := P) (w := w) hm hb0 .sliceB).2
      obtain ⟨h0, _⟩ := bound_sound (P := P) (w := w) hm (bound_mono hb0 hc) (if isS then .slice3Acap else .slice3Alen)
      cases hhi with
      | none => simp only at he; cases he
      | some hh =>
        rename_i xh yh
        simp only at he
        cases hb : bound xh m2 with
        | none => rw [hb] at he; cases he
        | some h2 =>
          rw [hb] at he
          simp only at he
          obtain ⟨h1, hle⟩ := bound_sound (P := P) (w := w) hh hb .slice3B
          cases hlo with
          | none =>
            simp only [Option.some.injEq, Prod.mk.injEq] at he
            obtain ⟨rfl, rfl, rfl⟩ := he
            exact ⟨m2, by simp [Instr.sliceBounds, h0, h1], by omega, by omega, by omega, by simp, by simp⟩
          | some hl =>
            rename_i xl yl
            simp only at he
            cases hb2 : bound xl h2 with
            | none => rw [hb2] at he; cases he
            | some l2 =>
              rw [hb2] at he
              simp only [Option.some.injEq, Prod.mk.injEq] at he
              obtain ⟨rfl, rfl, rfl⟩ := he
              obtain ⟨h3, h4⟩ := bound_sound (P := P) (w := w) hl hb2 .slice3C
              exact ⟨m2, by simp [Instr.sliceBounds, h0, h1, h3], by omega, by omega, by omega, by simp, by simp⟩

end
end Go.Cm
set_option linter.unusedVariables false
set_option linter.unusedSimpArgs false
namespace Go.Cm
open Go Go.RowKit

section
variable {P : Program} {B : Nat} {w0 : World} {f : Inj} {H : Heap} {w : World}

theorem extract_bytes (s : List UInt8) (l h : Nat) : (⟨⟨s⟩⟩ : ByteArray).extract l h = ⟨⟨(s.take h).drop l⟩⟩ := by
  rw [ByteArray.ext_iff, ByteArray.data_extract]
  apply Array.ext'
  simp [List.extract, List.drop_take]

theorem sliceOp_sound (h0 : StRel P B w0 f H w) {t : TypeId} {x : V} {vx : Value} (hx : VRel f x vx) {lo hi mx : Option V} {lo' hi' mx' : Option Value} (hlo : ORelV f lo lo') (hhi : ORelV f hi hi') (hmx : ORelV f mx mx') {v : V} {H' : Heap}
    (he : sliceOp P t x lo hi mx H = .val v H') : H' = H ∧ ∃ v', (Instr.sliceAt t vx lo' hi' mx').run P w = .ok v' w ∧ VRel f v v' := by
  unfold sliceOp at he
  split at he
  · cases he
  · rename_i ti ht
    obtain ⟨inf, d, hinf, hd, hk, _⟩ := tiOf_spec ht
    split at he
    · rename_i s hkk
      rw [hk] at hkk
      have := kd_str hkk
      subst this
      cases hmx with
      | some hm => simp at he
      | none =>
        simp only [Option.isSome_none, Bool.false_eq_true, if_false] at he
        split at he
        · rename_i l h m hb
          cases he
          rw [hx.str_inv]
          obtain ⟨m', h1, h2, h3, h4, _⟩ := bounds_sound (P := P) (w := w) (isS := false) hlo hhi .none (Nat.le_refl s.length) (Nat.le_refl _) hb
          refine ⟨rfl, .string ⟨⟨(s.take h).drop l⟩⟩, ?_, .str _⟩
          have h1' : (Instr.sliceBounds false (⟨⟨s⟩⟩ : ByteArray).size (⟨⟨s⟩⟩ : ByteArray).size lo' hi' none).run P w = .ok (l, h, m') w := h1
          simp only [Instr.sliceAt, Instr.slice, Sem.run_bind, run_underlying hd, Result.andThen_ok, Option.isSome_none, Bool.false_eq_true, if_false, h1', Sem.run_pure, extract_bytes]
        · cases he
    · rename_i e hkk
      rw [hk] at hkk
      have := kd_slice hkk
      subst this
      split at he
      · rename_i q ei hb hei
        cases he
        obtain ⟨l, h, m⟩ := q
        obtain ⟨i2, d2, hi2, _, _, hs2, _⟩ := tiOf_spec hei
        rw [hx.nilslice_inv]
        obtain ⟨m', h1, h2, h3, h4, h5, h6⟩ := bounds_sound (P := P) (w := w) (isS := true) hlo hhi hmx (Nat.le_refl 0) (Nat.le_refl _) hb
        refine ⟨rfl, .slice none 0 0, ?_, .nilslice⟩
        have e1 : l = 0 := by omega
        have e2 : h = 0 := by omega
        have e3 : m' = 0 := by
          cases hm : mx.isSome
          · have := h6 hm; omega
          · have := h5 hm; omega
        subst e1; subst e2; subst e3
        simp only [Instr.sliceAt, Instr.slice, Sem.run_bind, run_underlying hd, Result.andThen_ok, h1, run_sizeOf' hi2, Sem.run_pure, if_true, Nat.sub_self]
      · cases he
    · rename_i e b o n c ex hkk
      rw [hk] at hkk
      have := kd_slice hkk
      subst this
      split at he
      · rename_i l h m ei hb hei
        obtain ⟨i2, d2, hi2, _, _, hs2, _⟩ := tiOf_spec hei
        obtain ⟨ci, a, c', hc, rfl, ha, h1, hex, hn, hlim⟩ := hx.slice_inv
        obtain ⟨m', hrun, h2, h3, h4, h5, h6⟩ := bounds_sound (P := P) (w := w) (isS := true) hlo hhi hmx h1 hn hb
        have hm' : m ≤ m' := by
          cases hm : mx.isSome
          · have := h6 hm; omega
          · have := h5 hm; omega
        have hrun2 : (Instr.sliceAt t (.slice (some a) n c') lo' hi' mx').run P w = .ok (.slice (if m' = l then some a else some (a.add (l * i2.size))) (h - l) (m' - l)) w := by
          simp only [Instr.sliceAt, Instr.slice, Sem.run_bind, run_underlying hd, Result.andThen_ok, hrun, run_sizeOf' hi2, Sem.run_pure, Option.map_some]
        have key : ∃ a2, (if m' = l then some a else some (a.add (l * i2.size))) = some a2 ∧ (m' - l = 0 ∨ a2 = ⟨ci.g, ci.d + (o + l * i2.size), none⟩) := by
          by_cases hml : m' = l
          · exact ⟨a, by rw [if_pos hml], .inl (by omega)⟩
          · refine ⟨a.add (l * i2.size), by rw [if_neg hml], .inr ?_⟩
            have : c' ≠ 0 := by
              cases hm : mx.isSome
              · have := h6 hm; omega
              · have := h5 hm; omega
            rcases ha with ha | ha
            · exact absurd ha this
            · rw [ha, add_none, Nat.add_assoc]
        obtain ⟨a2, e1, e2⟩ := key
        by_cases hxx : (ex || mx.isSome) = true
        · rw [if_pos hxx] at he
          cases he
          refine ⟨rfl, _, hrun2, ?_⟩
          rw [hs2, e1]
          refine .slice _ _ _ _ _ ci a2 _ hc e2 (by omega) ?_ (by omega) (fun e => by cases e)
          intro _
          simp only [Bool.or_eq_true] at hxx
          rcases hxx with hx2 | hx2
          · cases hm : mx.isSome
            · have := h6 hm; have := hex hx2; omega
            · have := h5 hm; omega
          · have := h5 hx2; omega
        · rw [if_neg hxx] at he
          simp only [Bool.not_eq_true, Bool.or_eq_false_iff] at hxx
          split at he
          · rename_i ob hob
            split at he
            · rename_i hcond
              cases he
              refine ⟨rfl, _, hrun2, ?_⟩
              rw [hs2, e1]
              refine .slice _ _ _ _ _ ci a2 _ hc e2 (by omega) (fun e => by cases e) (by omega) ?_
              intro _
              obtain ⟨ci2, arr, fr, e2', hc2, ho⟩ := h0.cells b ob hob
              rw [hc] at hc2; cases hc2
              have hty := (ho.ty hcond.2).2.2
              rw [hcond.1, hei] at hty
              simp only [Option.map_some, Option.some.injEq] at hty
              have hh := hlim hxx.1
              have hm := h6 hxx.2
              rw [← hs2, hty]
              have e3 : l * ci.sz + (c' - l) * ci.sz = c' * ci.sz := by rw [← Nat.add_mul]; congr 1; omega
              rw [hm.2]
              omega
            · cases he
          · cases he
      · cases he
    · rename_i n e b o hkk
      rw [hk] at hkk
      have := kd_arr hkk
      subst this
      split at he
      · rename_i l h m ei hb hei
        cases he
        obtain ⟨i2, d2, hi2, _, _, hs2, _⟩ := tiOf_spec hei
        obtain ⟨ci, hc, rfl⟩ := hx.ptr_inv
        obtain ⟨m', hrun, h2, h3, h4, h5, h6⟩ := bounds_sound (P := P) (w := w) (isS := false) hlo hhi hmx (Nat.le_refl n) (Nat.le_refl _) hb
        have hm' : m = m' := by
          cases hm : mx.isSome
          · have := h6 hm; omega
          · have := h5 hm; omega
        subst hm'
        refine ⟨rfl, .slice (some (if m = l then ⟨ci.g, ci.d + o, none⟩ else (⟨ci.g, ci.d + o, none⟩ : Addr).add (l * i2.size))) (h - l) (m - l), ?_, ?_⟩
        · simp only [Instr.sliceAt, Sem.run_bind, run_underlying hd, Result.andThen_ok, Instr.sureAddr, hrun, run_sizeOf' hi2, Sem.run_pure]
        · rw [hs2]
          refine .slice _ _ _ _ _ ci _ _ hc ?_ (by omega) (fun _ => rfl) (by omega) (fun h => by cases h)
          by_cases hml : m = l
          · exact .inl (by omega)
          · exact .inr (by rw [if_neg hml, add_none, Nat.add_assoc])
      · cases he
    · cases he

end
end Go.Cm
set_option linter.unusedVariables false
set_option linter.unusedSimpArgs false
namespace Go.Cm
open Go Go.RowKit

section
variable {P : Program} {B : Nat} {w0 : World} {f : Inj} {H : Heap} {w : World}

theorem foldl_set (off : Nat) : ∀ (vs : List Value) (k : Nat) (arr : Array Value), off + k + vs.length ≤ arr.size →
    (vs.zipIdx k).foldl (fun (cs : Array Value) (p : Value × Nat) => cs.setIfInBounds (off + p.2) p.1) arr = ⟨arr.toList.take (off + k) ++ (vs ++ arr.toList.drop (off + k + vs.length))⟩
  | [], k, arr, _ => by simp
  | v :: r, k, arr, h => by
    simp only [List.zipIdx_cons, List.foldl_cons]
    rw [foldl_set off r (k + 1) (arr.setIfInBounds (off + k) v) (by simp at h ⊢; omega)]
    apply congrArg
    simp at h
    apply List.ext_getElem?
    intro j
    have hl : (arr.setIfInBounds (off + k) v).toList.length = arr.size := by simp
    rw [spl_get _ _ _ (by rw [hl]; omega), spl_get _ _ _ (by simp; omega)]
    simp only [Array.toList_setIfInBounds, List.getElem?_set, List.length_cons, List.getElem?_cons, Array.length_toList]
    rcases Nat.lt_trichotomy j (off + k) with hj | hj | hj
    · rw [if_pos (by omega : j < off + (k + 1)), if_neg (by omega : ¬ off + k = j), if_pos hj]
    · subst hj
      rw [if_pos (by omega : off + k < off + (k + 1)), if_pos rfl, if_pos (by omega : off + k < arr.size), if_neg (by omega : ¬ off + k < off + k), if_pos (by omega : off + k < off + k + (r.length + 1)), if_pos (by omega : off + k - (off + k) = 0)]
    · rw [if_neg (by omega : ¬ j < off + (k + 1)), if_neg (by omega : ¬ j < off + k)]
      by_cases hj2 : j < off + (k + 1) + r.length
      · rw [if_pos hj2, if_pos (by omega : j < off + k + (r.length + 1)), if_neg (by omega : ¬ j - (off + k) = 0)]
        congr 1
      · rw [if_neg hj2, if_neg (by omega : ¬ off + k = j), if_neg (by omega : ¬ j < off + k + (r.length + 1))]

theorem fill_sound {place : Nat → Option (Nat × Nat)} {place' : Nat → Option (Nat × Nat)} (hp : ∀ (i : Nat) x, place i = some x → place' i = some x) : ∀ {parts : List (Nat × V)} {parts' : List (Nat × Value)} {cells : List V} {cells' : List Value} {r : List V},
    parts.map (·.1) = parts'.map (·.1) → LRel f (parts.map (·.2)) (parts'.map (·.2)) → LRel f cells cells' → fillL place cells parts = some r → ∃ r', Instr.fill place' ⟨cells'⟩ parts' = some ⟨r'⟩ ∧ LRel f r r'
  | [], parts', cells, cells', r, h1, h2, h3, h4 => by
    have : parts' = [] := by cases parts' <;> simp at h1 ⊢
    subst this
    simp only [fillL, Option.some.injEq] at h4
    subst h4
    exact ⟨cells', rfl, h3⟩
  | (i, v) :: ps, [], _, _, _, h1, _, _, _ => by simp at h1
  | (i, v) :: ps, (i', v') :: ps', cells, cells', r, h1, h2, h3, h4 => by
    simp only [List.map_cons, List.cons.injEq] at h1
    obtain ⟨hi, h1⟩ := h1
    subst hi
    obtain ⟨y, m, he, hv, ht⟩ := LRel.uncons h2
    simp only [List.map_cons, List.cons.injEq] at he
    obtain ⟨rfl, rfl⟩ := he
    simp only [fillL] at h4
    split at h4
    · rename_i off size cs hpl hcs
      split at h4
      · rename_i hc
        obtain ⟨hrel, _⟩ := cellsOf_rel hv hcs
        have hlen := hrel.len
        simp only [Array.length_toList] at hlen
        simp only [Instr.fill, hp _ _ hpl]
        have e0 : (⟨cells'⟩ : Array Value).size = cells.length := h3.len.symm
        rw [if_neg (by rw [e0, ← hlen]; simp only [Bool.or_eq_true, ne_eq, decide_eq_true_eq, not_or, Decidable.not_not]; omega)]
        have hfold : (v'.cells.zipIdx.foldl (fun (cs : Array Value) (p : Value × Nat) => cs.setIfInBounds (off + p.2) p.1) ⟨cells'⟩) = ⟨cells'.take off ++ (v'.cells.toList ++ cells'.drop (off + v'.cells.toList.length))⟩ := by
          rw [← Array.foldl_toList, Array.toList_zipIdx]
          have := foldl_set off v'.cells.toList 0 ⟨cells'⟩ (by rw [e0]; simp; omega)
          simpa using this
        show ∃ r', Instr.fill place' (v'.cells.zipIdx.foldl (fun (cs : Array Value) (p : Value × Nat) => cs.setIfInBounds (off + p.2) p.1) ⟨cells'⟩) ps' = some ⟨r'⟩ ∧ LRel f r r'
        rw [hfold]
        exact fill_sound hp h1 ht (splice_rel h3 hrel off) h4
      · cases h4
    · cases h4

theorem fill_isc {place : Nat → Option (Nat × Nat)} : ∀ {parts : List (Nat × V)} {cells r : List V}, (∀ x ∈ cells, V.isCell x = true) → fillL place cells parts = some r → ∀ x ∈ r, V.isCell x = true
  | [], cells, r, h, he => by simp [fillL] at he; subst he; exact h
  | (i, v) :: ps, cells, r, h, he => by
    simp only [fillL] at he
    split at he
    · rename_i off size cs _ hcs
      split at he
      · exact fill_isc (splice_isc h (cellsOf_isc hcs) off) he
      · cases he
    · cases he

theorem repl_isc {z : List V} (h : z.all V.isCell = true) (n : Nat) : ∀ x ∈ repl n z, V.isCell x = true := by
  intro x hx
  unfold repl at hx
  obtain ⟨l, hl, hx⟩ := List.mem_flatten.1 hx
  rw [List.eq_of_mem_replicate hl] at hx
  exact List.all_eq_true.1 h x hx

theorem placesOf_sound : ∀ {fs : List Field} {pl : List (Nat × Nat)}, placesOf P (fs.map fun f => (f.type, f.offset)) = some pl → ∀ w, (fs.mapM fun f => do pure (f.offset, ← sizeOf f.type) : Sem (List (Nat × Nat))).run P w = .ok pl w
  | [], pl, h, w => by simp [placesOf] at h; subst h; rfl
  | fd :: fs, pl, h, w => by
    simp only [List.map_cons, placesOf] at h
    split at h
    · rename_i ti l ht hl
      cases h
      obtain ⟨i, d, hi, hd, _, hs, _⟩ := tiOf_spec ht
      have ih := placesOf_sound hl w
      simp only [List.mapM_cons, Sem.run_bind, run_sizeOf' hi, Result.andThen_ok, Sem.run_pure, ih, hs]
    · cases h

theorem build_sound {t : TypeId} {parts : List (Nat × V)} {parts' : List (Nat × Value)} (h1 : parts.map (·.1) = parts'.map (·.1)) (h2 : LRel f (parts.map (·.2)) (parts'.map (·.2))) {v : V} (he : buildOp P t parts = some v) :
    ∃ v', (Instr.build t ⟨parts'⟩).run P w = .ok v' w ∧ VRel f v v' := by
  unfold buildOp at he
  split at he
  · cases he
  · rename_i ti ht
    obtain ⟨inf, d, hinf, hd, hk, _, _, hz⟩ := tiOf_spec ht
    split at he
    · rename_i fs z hkk hzz
      rw [hk] at hkk
      obtain ⟨gs, rfl, rfl⟩ := kd_struct hkk
      rw [hz] at hzz
      obtain ⟨zv, z1, z2, z3, z4⟩ := zeroOf_spec hzz
      split at he
      · rename_i pl hpl
        cases hf : fillL (fun i => pl[i]?) z parts with
        | none => rw [hf] at he; cases he
        | some r =>
          rw [hf] at he
          cases he
          have hm := placesOf_sound hpl w
          obtain ⟨r', e1, e2⟩ := fill_sound (f := f) (place' := fun i => (pl.toArray)[i]?) (fun i x hx => by simpa using hx) h1 h2 (by rw [z2]; exact LRel.scalars f zv.cells.toList) hf
          refine ⟨.agg ⟨r'⟩, ?_, .agg' e2⟩
          have hm2 : (gs.mapM fun f => do pure (f.offset, ← sizeOf f.type) : Sem (Array (Nat × Nat))).run P w = .ok pl.toArray w := by
            rw [← Array.toArray_toList (xs := gs), List.mapM_toArray]
            simp only [Sem.run_map, hm, Result.andThen_ok]
          simp only [Instr.build, Sem.run_bind, zeroValue, run_typeInfo' hinf, Result.andThen_ok, z1, Sem.run_pure, run_underlying hd, hm2]
          have e1' : Instr.fill (fun x => pl.toArray[x]?) zv.cells parts' = some ⟨r'⟩ := e1
          simp only [e1', Sem.run_pure]
      · cases he
    · rename_i n e z hkk hzz
      rw [hk] at hkk
      have := kd_arr hkk
      subst this
      rw [hz] at hzz
      obtain ⟨zv, z1, z2, z3, z4⟩ := zeroOf_spec hzz
      split at he
      · rename_i ei hei
        obtain ⟨i2, d2, hi2, _, _, hs2, _⟩ := tiOf_spec hei
        cases hf : fillL (fun i => some (i * ei.size, ei.size)) z parts with
        | none => rw [hf] at he; cases he
        | some r =>
          rw [hf] at he
          cases he
          obtain ⟨r', e1, e2⟩ := fill_sound (f := f) (place' := fun i => some (i * i2.size, i2.size)) (fun i x hx => by rw [← hs2]; exact hx) h1 h2 (by rw [z2]; exact LRel.scalars f zv.cells.toList) hf
          refine ⟨.agg ⟨r'⟩, ?_, .agg' e2⟩
          have e1' : Instr.fill (fun i => some (i * i2.size, i2.size)) zv.cells parts' = some ⟨r'⟩ := e1
          simp only [Instr.build, Sem.run_bind, zeroValue, run_typeInfo' hinf, Result.andThen_ok, z1, Sem.run_pure, run_underlying hd, run_sizeOf' hi2, e1']
      · cases he
    · cases he

theorem repl_cells (z : Array Value) (_ : 0 < z.size) : ∀ n, (Array.range (n * z.size)).map (fun i => z[i % z.size]!) = ⟨(List.replicate n z.toList).flatten⟩ := by
  intro n
  apply Array.ext'
  simp only [Array.toList_map, Array.toList_range]
  induction n with
  | zero => simp
  | succ n ih =>
    rw [Nat.succ_mul, List.range_add, List.map_append, ih, List.replicate_succ', List.flatten_append]
    congr 1
    simp only [List.map_map, List.flatten_cons, List.flatten_nil, List.append_nil]
    apply List.ext_getElem?
    intro j
    simp only [List.getElem?_map]
    by_cases hj : j < z.size
    · rw [List.getElem?_range hj]
      have : (n * z.size + j) % z.size = j := by rw [Nat.add_comm, Nat.add_mul_mod_self_right, Nat.mod_eq_of_lt hj]
      simp [this, hj]
    · rw [List.getElem?_eq_none (by simp; omega), List.getElem?_eq_none (by simp; omega)]
      rfl

theorem repl_rel (z : List Value) (n : Nat) : LRel f (repl n (z.map ofScalar)) (List.replicate n z).flatten := by
  unfold repl
  induction n with
  | zero => exact LRel.nil f
  | succ n ih => simpa [List.replicate_succ] using (LRel.scalars f z).append ih

theorem buildSlice_sound (h : StRel P B w0 f H w) {t : TypeId} {len : Nat} {parts : List (Nat × V)} {parts' : List (Nat × Value)} (h1 : parts.map (·.1) = parts'.map (·.1)) (h2 : LRel f (parts.map (·.2)) (parts'.map (·.2))) {v : V} {H' : Heap} (he : buildSliceOp P t len parts H = .val v H') :
    ∃ f' v' w', (Instr.buildSlice t len ⟨parts'⟩).run P w = .ok v' w' ∧ StRel P B w0 f' H' w' ∧ f.le f' ∧ VRel f' v v' := by
  unfold buildSliceOp at he
  split at he
  · cases he
  · rename_i ti ht
    obtain ⟨inf, d, hinf, hd, hk, _⟩ := tiOf_spec ht
    split at he
    · rename_i e hkk
      rw [hk] at hkk
      have := kd_slice hkk
      subst this
      split at he
      · rename_i ei hei
        obtain ⟨i2, d2, hi2, _, _, hs2, _, hz⟩ := tiOf_spec hei
        split at he
        · rename_i z hzz
          rw [hz] at hzz
          obtain ⟨zv, z1, z2, z3, z4⟩ := zeroOf_spec hzz
          split at he
          · rename_i hsz
            split at he
            · rename_i cells hf
              cases he
              rw [hs2] at hsz hf
              have hpos : 0 < zv.cells.size := by omega
              have hrep := repl_cells zv.cells hpos len
              rw [z3] at hrep
              obtain ⟨r', e1, e2⟩ := fill_sound (f := f) (place' := fun i => some (i * i2.size, i2.size)) (fun i x hx => hx) h1 h2 (by rw [z2]; exact repl_rel zv.cells.toList len) hf
              obtain ⟨f', ci, w', hrun, hst, hle, hc, hd0, _⟩ := push_sound h e2 (fill_isc (repl_isc z4 len) hf) [] (t := e) (k := .own) false (fun h => by cases h) (hk := by simp) (sz := ei.size) (by rw [hei]; rfl)
              refine ⟨f', .slice (some ⟨ci.g, ci.d, none⟩) len len, w', ?_, hst, hle, ?_⟩
              · simp only [List.append_nil] at hrun
                simp only [Instr.buildSlice, Sem.run_bind, run_underlying hd, Result.andThen_ok, run_sizeOf' hi2]
                rw [if_neg (by omega : ¬ len * i2.size > 2 ^ 24)]
                by_cases h0 : len * i2.size = 0
                · have e3 : len = 0 := by
                    rcases Nat.mul_eq_zero.1 h0 with h | h
                    · exact h
                    · omega
                  subst e3
                  simp only [Nat.zero_mul, if_true, Sem.run_pure, Sem.run_bind, Result.andThen_ok]
                  have hx : (Array.map (fun x => (#[] : Array Value)[x % (#[] : Array Value).size]!) (Array.range 0)) = ⟨(List.replicate 0 zv.cells.toList).flatten⟩ := by simp
                  rw [hx]
                  simp only [e1, Sem.run_bind, hrun, Result.andThen_ok, Sem.run_pure]
                · rw [if_neg h0]
                  simp only [Sem.run_bind, zeroValue, run_typeInfo' hi2, Result.andThen_ok, z1, Sem.run_pure]
                  rw [z3, hrep]
                  simp only [e1, Sem.run_bind, hrun, Result.andThen_ok, Sem.run_pure]
              · exact .slice _ _ _ _ _ ci _ _ hc (.inr (by simp)) (Nat.le_refl _) (fun _ => rfl) (Nat.le_refl _) (fun e => by cases e)
            · cases he
          · cases he
        · cases he
      · cases he
    · cases he

theorem makeSlice_sound (h : StRel P B w0 f H w) {t : TypeId} {l c : V} {vl vc : Value} (hl : VRel f l vl) (hc0 : VRel f c vc) {v : V} {H' : Heap} (he : makeSliceOp P t l c H = .val v H') :
    ∃ f' v' w', (Instr.makeSlice t vl vc).run P w = .ok v' w' ∧ StRel P B w0 f' H' w' ∧ f.le f' ∧ VRel f' v v' := by
  unfold makeSliceOp at he
  split at he
  · rename_i ti kl l kc c ht
    obtain ⟨inf, d, hinf, hd, hk, _⟩ := tiOf_spec ht
    rw [hl.int_inv, hc0.int_inv]
    split at he
    · rename_i e hkk
      rw [hk] at hkk
      have := kd_slice hkk
      subst this
      split at he
      · rename_i ei hei
        obtain ⟨i2, d2, hi2, _, _, hs2, hb2, hz⟩ := tiOf_spec hei
        split at he
        · rename_i z hzz
          rw [hz] at hzz
          obtain ⟨zv, z1, z2, z3, z4⟩ := zeroOf_spec hzz
          split at he
          · rename_i hcond
            cases he
            rw [hs2, hb2] at hcond
            obtain ⟨c1, c2, c3, c4, c5⟩ := hcond
            have hpos : 0 < zv.cells.size := by omega
            have hrep := repl_cells zv.cells hpos c.toNat
            rw [z3] at hrep
            have hwl : IntKind.i64.wrap l = l := by rw [IntKind.wrap_i64]; omega
            have hwc : IntKind.i64.wrap c = c := by rw [IntKind.wrap_i64]; omega
            obtain ⟨f', ci, w', hrun, hst, hle, hc, hd0, _⟩ := push_sound h (cs := repl c.toNat z) (ms := (List.replicate c.toNat zv.cells.toList).flatten) (by rw [z2]; exact repl_rel (f := f) zv.cells.toList c.toNat) (repl_isc z4 _) [] (t := e) (k := .own) false (fun h => by cases h) (hk := by simp) (sz := ei.size) (by rw [hei]; rfl)
            refine ⟨f', .slice (some ⟨ci.g, ci.d, none⟩) l.toNat c.toNat, w', ?_, hst, hle, ?_⟩
            · simp only [List.append_nil] at hrun
              simp only [Instr.makeSlice, Sem.run_bind, run_underlying hd, Result.andThen_ok, asInt, asIntOf, Sem.run_pure, run_typeInfo' hi2, hwl, hwc]
              have hbad : ((decide (c < 0) || decide ((i2.bytes : Int) * c > 2 ^ 48)) || decide (l < 0) || decide (l > c)) = false := by
                simp only [Bool.or_eq_false_iff, decide_eq_false_iff_not]
                omega
              simp only [hbad, Bool.false_eq_true, if_false, Sem.run_bind, run_askRoom, Result.andThen_ok, run_sizeOf' hi2]
              by_cases h0 : c.toNat * i2.size = 0
              · have e3 : c.toNat = 0 := by
                  rcases Nat.mul_eq_zero.1 h0 with h | h
                  · exact h
                  · omega
                rw [e3] at hrun ⊢
                simp only [Nat.zero_mul, if_true, Sem.run_bind, Sem.run_pure, Result.andThen_ok]
                have hx : (Array.map (fun x => (#[] : Array Value)[x % (#[] : Array Value).size]!) (Array.range 0)) = ⟨(List.replicate 0 zv.cells.toList).flatten⟩ := by simp
                rw [hx]
                simp only [hrun, Result.andThen_ok, Sem.run_pure]
              · rw [if_neg h0]
                simp only [Sem.run_bind, zeroValue, run_typeInfo' hi2, Result.andThen_ok, z1, Sem.run_pure]
                rw [z3, hrep]
                simp only [hrun, Result.andThen_ok, Sem.run_pure]
            · exact .slice _ _ _ _ _ ci _ _ hc (.inr (by simp)) (Nat.le_refl _) (fun _ => rfl) (by omega) (fun e => by cases e)
          · cases he
        · cases he
      · cases he
    · cases he
  · cases he

end
end Go.Cm
set_option linter.unusedVariables false
set_option linter.unusedSimpArgs false
namespace Go.Cm
open Go Go.RowKit

section
variable {P : Program} {B : Nat} {w0 : World} {f : Inj} {H : Heap} {w : World}

/-! ### Iterators -/
theorem pushIt_sound (h : StRel P B w0 f H w) (s : List UInt8) : ∃ f' g w', (newObj (.stringIter ⟨⟨s⟩⟩ 0)).run P w = .ok g w' ∧ StRel P B w0 f' (H.pushIt s) w' ∧ f.le f' ∧ f'.i H.ni = some g := by
  have hnone := (h.freshI H.ni (Nat.le_refl _)).2
  have hle : f.le { f with i := fset f.i H.ni (some w.heap.size) } := ⟨fun _ _ h => h, fun b x hx => by
    have : b ≠ H.ni := fun e => by subst e; rw [hnone] at hx; cases hx
    simpa [fset, this] using hx, fun _ _ h => h, fun _ _ h => h⟩
  have s1 := h.grow (w' := { w with heap := w.heap.push (.stringIter ⟨⟨s⟩⟩ 0) }) ⟨rfl, rfl, rfl⟩ _ rfl
  refine ⟨{ f with i := fset f.i H.ni (some w.heap.size) }, w.heap.size, { w with heap := w.heap.push (.stringIter ⟨⟨s⟩⟩ 0) }, rfl, ?_, hle, by simp [fset]⟩
  refine { below := s1.below, base := s1.base, cells := ?_, sep := s1.sep, freshC := s1.freshC, its := ?_, itsep := ?_, freshI := ?_, lps := ?_, lpsep := s1.lpsep, freshL := s1.freshL, ds := s1.ds, dsep := s1.dsep, freshD := s1.freshD, inC := s1.inC, inI := ?_, inL := s1.inL, inD := s1.inD, globs := s1.globs }
  · intro b ob hb
    obtain ⟨ci, arr, fr, e, hc, ho⟩ := s1.cells b ob hb
    exact ⟨ci, arr, fr, e, hc, ho.keep hle rfl⟩
  · intro i s' pos hi
    by_cases hne : i = H.ni
    · subst hne
      simp [Heap.pushIt, fset] at hi
      obtain ⟨rfl, rfl⟩ := hi
      exact ⟨w.heap.size, by simp [fset], h.baseLe, by simp⟩
    · obtain ⟨g, hg, hb, hh⟩ := s1.its i s' pos (by simpa [Heap.pushIt, fset, hne] using hi)
      exact ⟨g, by simpa [fset, hne] using hg, hb, hh⟩
  · intro i j g hi hj
    by_cases h1 : i = H.ni
    · by_cases h2 : j = H.ni
      · rw [h1, h2]
      · simp [fset, h1] at hi
        have hj' : f.i j = some g := by simpa [fset, h2] using hj
        have := h.inI j g hj'
        omega
    · have hi' : f.i i = some g := by simpa [fset, h1] using hi
      by_cases h2 : j = H.ni
      · simp [fset, h2] at hj
        have := h.inI i g hi'
        omega
      · exact h.itsep i j g hi' (by simpa [fset, h2] using hj)
  · intro b hb
    have hb' : H.ni + 1 ≤ b := hb
    have hne : b ≠ H.ni := by omega
    have := h.freshI b (by omega)
    exact ⟨by simpa [Heap.pushIt, fset, hne] using this.1, by simpa [fset, hne] using this.2⟩
  · intro l r hl
    obtain ⟨g, tm, gd, h1, h2, h3, h4, h5, h6⟩ := s1.lps l r hl
    exact ⟨g, tm, gd, h1, h2, h3, h4, fun j => (h5 j).mono hle, h6⟩
  · intro b x hx
    by_cases hne : b = H.ni
    · simp [fset, hne] at hx
      subst hx
      simp
    · exact s1.inI b x (by simpa [fset, hne] using hx)

/-- A change at an object that is no row of cells. -/
theorem StRel.setObj (h : StRel P B w0 f H w) {g : Nat} {o o' : Go.Obj} (hB : B ≤ g) (hg : w.heap[g]? = some o) (hnc : ∀ c e fr, o ≠ .cells c e fr)
    (hI : ∀ i s pos, H.its i = some (s, pos) → f.i i ≠ some g) (hL : ∀ l r, H.lps l = some r → f.l l ≠ some g) (hD : ∀ j, H.ds j = true → f.d j ≠ some g) :
    StRel P B w0 f H { w with heap := w.heap.setIfInBounds g o' } := by
  have hh : ∀ k, k ≠ g → ({ w with heap := w.heap.setIfInBounds g o' } : World).heap[k]? = w.heap[k]? := fun k hk => by
    show (w.heap.setIfInBounds g o')[k]? = _
    rw [Array.getElem?_setIfInBounds, if_neg (by omega)]
  refine h.world ⟨rfl, rfl, rfl⟩ (by simp) (fun k hk => hh k (by omega)) (fun b ob ci hb hc => hh _ fun e => ?_) (fun i s pos g' hi hg' => hh _ fun e => hI i s pos hi (by rw [hg', e])) (fun l r g' hl hg' => hh _ fun e => hL l r hl (by rw [hg', e])) (fun j g' hj hg' => hh _ fun e => hD j hj (by rw [hg', e]))
  obtain ⟨ci', arr, fr, e', hc', ho⟩ := h.cells b ob hb
  rw [hc] at hc'; cases hc'
  have := ho.heap
  rw [e, hg] at this
  exact hnc _ _ _ (Option.some.inj this)

theorem putIt_sound (h : StRel P B w0 f H w) {i : Nat} {s : List UInt8} {pos : Nat} (hi : H.its i = some (s, pos)) {g : Nat} (hg : f.i i = some g) (pos' : Nat) :
    StRel P B w0 f (H.putIt i s pos') { w with heap := w.heap.setIfInBounds g (.stringIter ⟨⟨s⟩⟩ pos') } := by
  obtain ⟨g', hg', hB, hh⟩ := h.its i s pos hi
  rw [hg] at hg'; cases hg'
  -- first forget the iterator
  have s0 : StRel P B w0 f { H with its := fset H.its i none } w := { h with
    its := fun j s' p' hj => by
      have hne : j ≠ i := fun e => by subst e; simp [fset] at hj
      exact h.its j s' p' (by simpa [fset, hne] using hj)
    freshI := fun b hb => ⟨by
      by_cases e : b = i
      · subst e; simp [fset]
      · simpa [fset, e] using (h.freshI b hb).1, (h.freshI b hb).2⟩ }
  have s1 := s0.setObj (o' := .stringIter ⟨⟨s⟩⟩ pos') hB hh (by simp)
    (fun j s' p' hj e => by
      have hne : j ≠ i := fun e => by subst e; simp [fset] at hj
      exact hne (h.itsep j i g e hg))
    (fun l r hl e => by
      obtain ⟨g2, tm, gd, h1, _, _, _, _, _, h2⟩ := h.lps l r hl
      rw [e] at h1; cases h1
      rw [hh] at h2; cases h2)
    (fun j hj e => by
      obtain ⟨g2, h1, _, h2⟩ := h.ds j hj
      rw [e] at h1; cases h1
      rw [hh] at h2; cases h2)
  refine { s1 with its := ?_, freshI := ?_ }
  · intro j s' p' hj
    by_cases hne : j = i
    · subst hne
      simp [Heap.putIt, fset] at hj
      obtain ⟨rfl, rfl⟩ := hj
      refine ⟨g, hg, hB, ?_⟩
      have := (Array.getElem?_eq_some_iff.1 hh).1
      show (w.heap.setIfInBounds g _)[g]? = _
      rw [Array.getElem?_setIfInBounds, if_pos rfl, if_pos this]
    · exact s1.its j s' p' (by simpa [Heap.putIt, fset, hne] using hj)
  · intro b hb
    refine ⟨?_, (h.freshI b hb).2⟩
    have : b ≠ i := fun e => by subst e; rw [(h.freshI b hb).1] at hi; cases hi
    simpa [Heap.putIt, fset, this] using (h.freshI b hb).1

theorem rangeOp_sound (h : StRel P B w0 f H w) {t : TypeId} {x : V} {vx : Value} (hx : VRel f x vx) {v : V} {H' : Heap} (he : rangeOp P t x H = .val v H') :
    ∃ f' v' w', (Instr.range t vx).run P w = .ok v' w' ∧ StRel P B w0 f' H' w' ∧ f.le f' ∧ VRel f' v v' := by
  unfold rangeOp at he
  split at he
  · rename_i ti s ht
    obtain ⟨inf, d, hinf, hd, hk, _⟩ := tiOf_spec ht
    split at he
    · rename_i hkk
      cases he
      rw [hk] at hkk
      have := kd_str hkk
      subst this
      obtain ⟨f', g, w', h1, h2, h3, h4⟩ := pushIt_sound h s
      refine ⟨f', .pointer (some ⟨g, 0, none⟩), w', ?_, h2, h3, .it _ _ h4⟩
      rw [hx.str_inv]
      simp only [Instr.range, Sem.run_bind, run_underlying hd, Result.andThen_ok, Sem.run_pure, h1]
    · cases he
  · cases he

theorem nextOp_sound (h : StRel P B w0 f H w) {x : V} {vx : Value} (hx : VRel f x vx) {v : V} {H' : Heap} (he : nextOp x H = .val v H') (ty : TypeId) :
    ∃ v' w', (Instr.next vx true ty).run P w = .ok v' w' ∧ StRel P B w0 f H' w' ∧ VRel f v v' := by
  unfold nextOp at he
  split at he
  · rename_i i
    obtain ⟨g, hg, rfl⟩ := hx.it_inv
    split at he
    · rename_i s pos hi
      obtain ⟨g', hg', hB, hh⟩ := h.its i s pos hi
      rw [hg] at hg'; cases hg'
      have hsz : (⟨⟨s⟩⟩ : ByteArray).size = s.length := rfl
      have hget : (getObj g).run P w = .ok (.stringIter ⟨⟨s⟩⟩ pos) w := by simp [getObj, Sem.run, hh]
      split at he
      · rename_i hlt
        cases he
        refine ⟨.tuple #[.bool true, .int .i64 pos, .int .i32 (decodeL s pos).1], _, ?_, putIt_sound h hi hg (pos + (decodeL s pos).2), ?_⟩
        · simp only [Instr.next, Sem.run_bind, hget, Result.andThen_ok, hsz, hlt, if_true]
          simp only [setObj, Sem.run, hh, Result.andThen_ok, Sem.run_pure]
          rfl
        · exact VRel.tuple' (LRel.cons (.bool _) (LRel.cons (.int _ _) (LRel.cons (.int _ _) (LRel.nil f))))
      · rename_i hlt
        cases he
        refine ⟨.tuple #[.bool false], w, ?_, h, VRel.tuple' (LRel.cons (.bool _) (LRel.nil f))⟩
        simp only [Instr.next, Sem.run_bind, hget, Result.andThen_ok, hsz, hlt, if_false, Sem.run_pure]
    · cases he
  · cases he

/-! ### len, cap, min, max, type assertions -/
theorem lenOp_sound {t : TypeId} {ts : List TypeId} {x : V} {vx : Value} {vs : List Value} (hx : VRel f x vx) {v : V} (he : lenOp P t x = some v) (ty : TypeId) : ∃ v', (Builtin.len_ ⟨t :: ts⟩ ty ⟨vx :: vs⟩).run P w = .ok v' w ∧ VRel f v v' := by
  unfold lenOp at he
  split at he
  · cases he
  · rename_i ti ht
    obtain ⟨inf, d, hinf, hd, hk, _⟩ := tiOf_spec ht
    have e1 : (⟨t :: ts⟩ : Array TypeId)[0]? = some t := rfl
    have e2 : (⟨vx :: vs⟩ : Array Value)[0]? = some vx := rfl
    split at he
    · rename_i s hkk
      cases he
      rw [hk] at hkk
      have := kd_str hkk
      subst this
      refine ⟨.int .i64 s.length, ?_, .int _ _⟩
      simp only [Builtin.len_, e1, e2]
      rw [hx.str_inv]
      simp only [Sem.run_bind, run_underlying hd, Result.andThen_ok, Sem.run_pure]
      rfl
    · rename_i n e hkk
      cases he
      rw [hk] at hkk
      have := kd_arr hkk
      subst this
      refine ⟨.int .i64 n, ?_, .int _ _⟩
      simp only [Builtin.len_, e1, e2, Sem.run_bind, run_underlying hd, Result.andThen_ok, Sem.run_pure]
      rfl
    · rename_i e hkk
      cases he
      rw [hk] at hkk
      have := kd_slice hkk
      subst this
      refine ⟨.int .i64 0, ?_, .int _ _⟩
      simp only [Builtin.len_, e1, e2]
      rw [hx.nilslice_inv]
      simp only [Sem.run_bind, run_underlying hd, Result.andThen_ok, Sem.run_pure]
      rfl
    · rename_i e b o n c ex hkk
      cases he
      rw [hk] at hkk
      have := kd_slice hkk
      subst this
      refine ⟨.int .i64 n, ?_, .int _ _⟩
      simp only [Builtin.len_, e1, e2]
      obtain ⟨ci, a, c', _, rfl, _⟩ := hx.slice_inv
      simp only [Sem.run_bind, run_underlying hd, Result.andThen_ok, Sem.run_pure]
      rfl
    · cases he

theorem capOp_sound {t : TypeId} {ts : List TypeId} {x : V} {vx : Value} {vs : List Value} (hx : VRel f x vx) {v : V} (he : capOp P t x = some v) (ty : TypeId) : ∃ v', (Builtin.cap_ ⟨t :: ts⟩ ty ⟨vx :: vs⟩).run P w = .ok v' w ∧ VRel f v v' := by
  unfold capOp at he
  split at he
  · cases he
  · rename_i ti ht
    obtain ⟨inf, d, hinf, hd, hk, _⟩ := tiOf_spec ht
    have e1 : (⟨t :: ts⟩ : Array TypeId)[0]? = some t := rfl
    have e2 : (⟨vx :: vs⟩ : Array Value)[0]? = some vx := rfl
    split at he
    · rename_i n e hkk
      cases he
      rw [hk] at hkk
      have := kd_arr hkk
      subst this
      refine ⟨.int .i64 n, ?_, .int _ _⟩
      simp only [Builtin.cap_, e1, e2, Sem.run_bind, run_underlying hd, Result.andThen_ok, Sem.run_pure]
      rfl
    · rename_i e hkk
      cases he
      rw [hk] at hkk
      have := kd_slice hkk
      subst this
      refine ⟨.int .i64 0, ?_, .int _ _⟩
      simp only [Builtin.cap_, e1, e2]
      rw [hx.nilslice_inv]
      simp only [Sem.run_bind, run_underlying hd, Result.andThen_ok, Sem.run_pure]
      rfl
    · rename_i e b o n c hkk
      cases he
      rw [hk] at hkk
      have := kd_slice hkk
      subst this
      refine ⟨.int .i64 c, ?_, .int _ _⟩
      simp only [Builtin.cap_, e1, e2]
      obtain ⟨ci, a, c', _, rfl, _, _, hex, _⟩ := hx.slice_inv
      have := hex rfl
      subst this
      simp only [Sem.run_bind, run_underlying hd, Result.andThen_ok, Sem.run_pure]
      rfl
    · cases he

theorem minOp_sound {l : List V} {m : List Value} (hl : LRel f l m) {v : V} (he : minOp l = some v) (ts : Array TypeId) (ty : TypeId) : ∃ v', (Builtin.min_ ts ty ⟨m⟩).run P w = .ok v' w ∧ VRel f v v' := by
  unfold minOp at he
  split at he
  · split at he
    · rename_i hk
      subst hk
      cases he
      obtain ⟨y1, m1, rfl, h1, ht⟩ := hl.uncons
      obtain ⟨y2, m2, rfl, h2, ht2⟩ := ht.uncons
      have := ht2.nil_inv
      subst this
      rw [h1.int_inv, h2.int_inv]
      exact ⟨_, rfl, .int _ _⟩
    · cases he
  · cases he

theorem maxOp_sound {l : List V} {m : List Value} (hl : LRel f l m) {v : V} (he : maxOp l = some v) (ts : Array TypeId) (ty : TypeId) : ∃ v', (Builtin.max_ ts ty ⟨m⟩).run P w = .ok v' w ∧ VRel f v v' := by
  unfold maxOp at he
  split at he
  · split at he
    · rename_i hk
      subst hk
      cases he
      obtain ⟨y1, m1, rfl, h1, ht⟩ := hl.uncons
      obtain ⟨y2, m2, rfl, h2, ht2⟩ := ht.uncons
      have := ht2.nil_inv
      subst this
      rw [h1.int_inv, h2.int_inv]
      exact ⟨_, rfl, .int _ _⟩
    · cases he
  · cases he

end
end Go.Cm
