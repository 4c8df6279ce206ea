/- The abstract operations are sound: append, copy. -/
import Derived.Test.YtgalmibnlkbdiaaGreatDoorCmOps2
set_option linter.unusedVariables false
set_option linter.unusedSimpArgs false
namespace Go.Cm
open Go Go.RowKit

section
variable {P : Program} {B : Nat} {w0 : World} {f : Inj} {H : Heap} {w : World}

theorem u8s_rel (s : List UInt8) : LRel f (u8s s) (s.map fun b => Value.int .u8 b.toNat) := LRel.map s _ _ (fun x _ => .int _ _)

theorem newCells_take (h : StRel P B w0 f H w) {size : Nat} {x : V} {vx : Value} (hx : VRel f x vx) {m : Nat} {cs : List V} (he : newCells size x H = some (m, cs)) :
    (Builtin.lenOf vx).run P w = .ok m w ∧ ∃ ms, (∀ k, k ≤ m → ∀ w' : World, w'.heap = w.heap → (Builtin.firstCells size k vx).run P w' = .ok ⟨ms.take (k * size)⟩ w') ∧ LRel f cs ms ∧ (∀ y ∈ ms, y.oneCell' = true) ∧ (∀ y ∈ cs, V.isCell y = true) ∧ cs.length = m * size := by
  unfold newCells at he
  split at he
  · cases he
    rw [hx.nilslice_inv]
    refine ⟨rfl, [], fun k hk w' _ => ?_, LRel.nil f, by simp, by simp, by simp⟩
    simp only [Builtin.firstCells, Sem.run_pure, List.take_nil]
  · rename_i s
    split at he
    · rename_i h1
      cases he
      subst h1
      rw [hx.str_inv]
      refine ⟨rfl, s.map fun b => Value.int .u8 b.toNat, ?_, u8s_rel s, ?_, ?_, by simp [u8s]⟩
      · intro k hk w' _
        simp only [Builtin.firstCells, Sem.run_pure]
        congr 1
        apply Array.ext'
        have := extract_bytes s 0 k
        rw [this]
        simp
      · intro y hy
        obtain ⟨b, _, rfl⟩ := List.mem_map.1 hy
        rfl
      · intro y hy
        obtain ⟨b, _, rfl⟩ := List.mem_map.1 hy
        rfl
    · cases he
  · rename_i b o n c ex
    split at he
    · rename_i cs' hcs
      cases he
      cases hb : H.cs b with
      | none => rw [hb] at hcs; cases hcs
      | some ob =>
        rw [hb] at hcs
        simp only [Option.bind_some] at hcs
        obtain ⟨ci, arr, fr, e, hc, ho⟩ := h.cells b ob hb
        obtain ⟨ys, hy, hlen, hcell, _⟩ := ho.read hcs
        obtain ⟨ci', a, c', hc', rfl, ha, hcc, _, hn, _⟩ := hx.slice_inv
        rw [hc] at hc'; cases hc'
        have hisc : ∀ y ∈ cs, V.isCell y = true := readCells_isc ho.isc hcs
        refine ⟨rfl, ys, ?_, hy, ?_, hisc, by rw [hy.len, hlen]⟩
        · intro k hk w' hw'
          by_cases h0 : k * size = 0
          · simp only [Builtin.firstCells, h0, List.take_zero]
            rfl
          · have hc0 : c' ≠ 0 := by
              intro h
              have : k = 0 := by omega
              rw [this] at h0
              simp at h0
            rcases ha with ha | ha
            · exact absurd ha hc0
            · rw [ha]
              have hks : k * size ≤ m * size := Nat.mul_le_mul_right _ hk
              have := run_loadCells_list (P := P) w' ⟨ci.g, ci.d + o, none⟩ (ys.take (k * size)) (fun j v hj => by
                rw [List.getElem?_take] at hj
                split at hj
                · have := hcell j v hj; simpa [World.cell?, hw'] using this
                · cases hj)
              rw [List.length_take, hlen, Nat.min_eq_left hks] at this
              exact this
        · intro y hy2
          obtain ⟨i, hi⟩ := List.mem_iff_getElem?.1 hy2
          have hi' : i < cs.length := by rw [hy.len]; exact (List.getElem?_eq_some_iff.1 hi).1
          exact (hy.at_ i _ y (List.getElem?_eq_getElem hi') hi).cell (hisc _ (List.getElem_mem hi'))
    · cases he
  · cases he

theorem newCells_sound (h : StRel P B w0 f H w) {size : Nat} {x : V} {vx : Value} (hx : VRel f x vx) {m : Nat} {cs : List V} (he : newCells size x H = some (m, cs)) :
    (Builtin.lenOf vx).run P w = .ok m w ∧ ∃ ms, (∀ w' : World, w'.heap = w.heap → (Builtin.firstCells size m vx).run P w' = .ok ⟨ms⟩ w') ∧ LRel f cs ms ∧ (∀ y ∈ ms, y.oneCell' = true) ∧ (∀ y ∈ cs, V.isCell y = true) ∧ cs.length = m * size := by
  obtain ⟨h1, ms, h2, h3, h4, h5, h6⟩ := newCells_take h hx he
  refine ⟨h1, ms, fun w' hw' => ?_, h3, h4, h5, h6⟩
  have := h2 m (Nat.le_refl _) w' hw'
  rwa [List.take_of_length_le (by rw [← h3.len, h6]; exact Nat.le_refl _)] at this

theorem append_head {t xt e : TypeId} {d' : TypeDesc} {i2 : TypeInfo} (hd : P.underlying t = some (.slice e)) (hx : P.underlying xt = some d') (hni : ∀ k, d' ≠ .int k) (hi : P.info? e = some i2)
    {base : Option Addr} {n c m : Nat} {vx : Value} (hl : (Builtin.lenOf vx).run P w = .ok m w) (ty : TypeId) :
    (Builtin.append_ #[t, xt] ty #[.slice base n c, vx]).run P w =
      if n + m ≤ c then (do
        let new ← Builtin.firstCells i2.size m vx
        if let some a := base then storeCells (a.add (n * i2.size)) new.toList
        pure (.slice base (n + m) c) : Sem Value).run P w
      else if Builtin.nextslicecap (n + m) c * i2.bytes > 2 ^ 48 ∨ ((n + m : Nat) : Int) > IntKind.i64.max ∧ i2.bytes = 0 then (Builtin.append_ #[t, xt] ty #[.slice base n c, vx]).run P w
      else (do
        let newCap ← choose (.appendCap (n + m) c e)
        askRoom (newCap * i2.bytes)
        let old ← Builtin.firstCells i2.size n (.slice base n c)
        let new ← Builtin.firstCells i2.size m vx
        let rest := Builtin.zeroCells (← zeroValue e).cells (newCap - (n + m))
        pure (.slice (some (← newRow e (old ++ new ++ rest))) (n + m) newCap) : Sem Value).run P w := by
  have e1 : (#[t, xt] : Array TypeId)[0]? = some t := rfl
  have e2 : (#[t, xt] : Array TypeId)[1]? = some xt := rfl
  have e3 : (#[.slice base n c, vx] : Array Value)[0]? = some (.slice base n c) := rfl
  have e4 : (#[.slice base n c, vx] : Array Value)[1]? = some vx := rfl
  have hz : (match d' with | .int _ => true | _ => false) = false := by
    cases d' <;> first | rfl | exact absurd rfl (hni _)
  by_cases h1 : n + m ≤ c
  · rw [if_pos h1]
    simp only [Builtin.append_, e1, e2, e3, e4, Sem.run_bind, run_underlying hd, run_underlying hx, Result.andThen_ok, run_sizeOf' hi, Sem.run_pure, hz, Bool.false_eq_true, if_false, hl, h1, if_true, Bool.not_false]
    rfl
  · rw [if_neg h1]
    by_cases h2 : Builtin.nextslicecap (n + m) c * i2.bytes > 2 ^ 48 ∨ ((n + m : Nat) : Int) > IntKind.i64.max ∧ i2.bytes = 0
    · rw [if_pos h2]
    · rw [if_neg h2]
      simp only [not_or] at h2
      simp only [Builtin.append_, e1, e2, e3, e4, Sem.run_bind, run_underlying hd, run_underlying hx, Result.andThen_ok, run_sizeOf' hi, Sem.run_pure, hz, Bool.false_eq_true, if_false, hl, h1, Bool.not_false, run_typeInfo' hi, false_or, h2.1, h2.2, if_true]

theorem growBy_le (newLen : Nat) : ∀ (rounds c : Nat), c < newLen → newLen ≤ 2 * c → 256 ≤ c → Builtin.growBy newLen rounds c ≤ 2 * newLen
  | 0, c, h, _, _ => by simp [Builtin.growBy]; omega
  | r + 1, c, h, h2, h3 => by
    simp only [Builtin.growBy]
    rw [if_neg (by omega)]
    by_cases h4 : c + (c + 768) / 4 < newLen
    · exact growBy_le newLen r _ h4 (by omega) (by omega)
    · have : ∀ r, Builtin.growBy newLen r (c + (c + 768) / 4) = c + (c + 768) / 4 := fun r => by
        cases r with
        | zero => rfl
        | succ r => simp only [Builtin.growBy]; rw [if_pos (by omega)]
      rw [this]
      omega

theorem nextslicecap_le {need old : Nat} (h : old < need) : Builtin.nextslicecap need old ≤ 2 * need := by
  unfold Builtin.nextslicecap
  split
  · omega
  · split
    · omega
    · exact growBy_le _ _ _ h (by omega) (by omega)

theorem zeroCells_eq (z : Array Value) (hz : 0 < z.size) (n : Nat) : Builtin.zeroCells z n = ⟨(List.replicate n z.toList).flatten⟩ := repl_cells z hz n

theorem run_choose_any (q : Question) (hq : q.forced = false) (w : World) : ∃ n w', (choose q).run P w = .ok n w' ∧ w'.heap = w.heap ∧ SameOut w w' ∧ n = q.cut (w.tape w.drawn q) := by
  refine ⟨_, { w with drawn := w.drawn + 1 }, by simp only [run_choose, hq, Bool.false_eq_true, if_false], rfl, ⟨rfl, rfl, rfl⟩, rfl⟩

theorem flatten_repl_len {α : Type} (n : Nat) (z : List α) : (List.replicate n z).flatten.length = n * z.length := by
  induction n with
  | zero => simp
  | succ n ih => simp [List.replicate_succ, ih, Nat.succ_mul, Nat.add_comm]

/-- Beyond the capacity: a new row. -/
theorem append_new (h : StRel P B w0 f H w) {t xt e : TypeId} {d' : TypeDesc} {i2 : TypeInfo} {ei : TI} (hei : tiOf P e = some ei) (hs2 : ei.size = i2.size) (hd : P.underlying t = some (.slice e)) (hx : P.underlying xt = some d') (hni : ∀ k, d' ≠ .int k) (hi : P.info? e = some i2)
    {zv : Value} (hz1 : i2.zero = some zv) (hz3 : zv.cells.size = i2.size) (hsz : i2.size ≠ 0) (hb : i2.bytes ≠ 0)
    {base : Option Addr} {n c m : Nat} {vx : Value} (hl : (Builtin.lenOf vx).run P w = .ok m w) (hgt : c < n + m) (hmax : (n + m) * i2.bytes ≤ maxBytes)
    {old cs : List V} {os ms : List Value} (ho : ∀ w' : World, w'.heap = w.heap → (Builtin.firstCells i2.size n (.slice base n c)).run P w' = .ok ⟨os⟩ w') (hn : ∀ w' : World, w'.heap = w.heap → (Builtin.firstCells i2.size m vx).run P w' = .ok ⟨ms⟩ w') (ro : LRel f old os) (rn : LRel f cs ms)
    (io : ∀ x ∈ old, V.isCell x = true) (ic : ∀ x ∈ cs, V.isCell x = true) (hlo : old.length = n * i2.size) (hlc : cs.length = m * i2.size) {k : Own} (hk : k ≠ .arg) (ty : TypeId) :
    ∃ f' v' w', (Builtin.append_ #[t, xt] ty #[.slice base n c, vx]).run P w = .ok v' w' ∧ StRel P B w0 f' (H.push ⟨old ++ cs, e, k, false⟩) w' ∧ f.le f' ∧ VRel f' (.slice H.nc 0 (n + m) (n + m) false) v' := by
  rw [append_head hd hx hni hi hl ty, if_neg (by omega : ¬ n + m ≤ c)]
  have hnb : ¬ (Builtin.nextslicecap (n + m) c * i2.bytes > 2 ^ 48 ∨ ((n + m : Nat) : Int) > IntKind.i64.max ∧ i2.bytes = 0) := by
    simp only [not_or]
    refine ⟨?_, fun h => hb h.2⟩
    have h1 := nextslicecap_le hgt
    have h2 : Builtin.nextslicecap (n + m) c * i2.bytes ≤ 2 * (n + m) * i2.bytes := Nat.mul_le_mul_right _ h1
    unfold maxBytes at hmax
    have h3 : 2 * (n + m) * i2.bytes = 2 * ((n + m) * i2.bytes) := by rw [Nat.mul_assoc]
    omega
  rw [if_neg hnb]
  obtain ⟨nc, w1, hch, hh1, hs1, hnc⟩ := run_choose_any (P := P) (.appendCap (n + m) c e) rfl w
  have hge : n + m ≤ nc := by rw [hnc]; simp only [Question.cut]; omega
  have s1 := h.sameHeap hs1 hh1
  have hpos : 0 < zv.cells.size := by omega
  obtain ⟨f', ci, w', hrun, hst, hle, hc, hd0, hcsz, hclim⟩ := push_sound s1 (ro.append rn) (fun x hx => by rcases List.mem_append.1 hx with h | h; exact io x h; exact ic x h) ((List.replicate (nc - (n + m)) zv.cells.toList).flatten) (t := e) (k := k) false (fun h => by cases h) (hk := hk) (sz := ei.size) (by rw [hei]; rfl)
  have ho1 := ho w1 hh1
  have hn1 := hn w1 hh1
  refine ⟨f', .slice (some ⟨ci.g, ci.d, none⟩) (n + m) nc, w', ?_, hst, hle, ?_⟩
  · simp only [Sem.run_bind, hch, Result.andThen_ok, run_askRoom, ho1, hn1, zeroValue, run_typeInfo' hi, hz1, Sem.run_pure, zeroCells_eq _ hpos]
    have : (⟨os⟩ ++ ⟨ms⟩ ++ ⟨(List.replicate (nc - (n + m)) zv.cells.toList).flatten⟩ : Array Value) = ⟨os ++ ms ++ (List.replicate (nc - (n + m)) zv.cells.toList).flatten⟩ := by
      apply Array.ext'
      simp
    rw [this, hrun]
    rfl
  · refine .slice _ _ _ _ _ ci _ _ hc (.inr (by simp)) hge (fun e => by cases e) (Nat.le_refl _) (fun _ => ?_)
    rw [hclim, hcsz, hd0, hs2]
    simp only [List.length_append, ← ro.len, ← rn.len, hlo, hlc, flatten_repl_len, Array.length_toList, hz3, Nat.zero_add]
    rw [← Nat.add_mul, ← Nat.add_mul]
    exact Nat.le_of_eq (by congr 1; omega)

end
end Go.Cm
