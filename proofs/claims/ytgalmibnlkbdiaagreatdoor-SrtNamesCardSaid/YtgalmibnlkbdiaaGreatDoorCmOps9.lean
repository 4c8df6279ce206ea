/- The abstract operations are sound: append, copy, conversions, type assertions. -/
import Derived.Test.YtgalmibnlkbdiaaGreatDoorCmOps8
set_option linter.unusedVariables false
set_option linter.unusedSimpArgs false
namespace Go.Cm
open Go Go.RowKit

section
variable {P : Program} {B : Nat} {w0 : World} {f : Inj} {H : Heap} {w : World}

/-- In place, at a block of the program's own whose further cells nothing else names: the block's old number dies. -/
theorem extend_sound (h : StRel P B w0 f H w) {b : Nat} {ob : Obj} (hb : H.cs b = some ob) (hk : ob.k ≠ .arg) {ci : CI} (hc : f.c b = some ci) {o n : Nat} {old cs : List V} {ms : List Value} (hold : readCells ob.l o n = some old)
    (hr : LRel f cs ms) (h1 : ∀ x ∈ ms, x.oneCell' = true) (hi : ∀ x ∈ cs, V.isCell x = true) (hlim : ci.d + o + n + ms.length ≤ ci.lim) (hfz : ob.k = .own) :
    ∃ f' w' ci', (storeCells ⟨ci.g, ci.d + o + n, none⟩ ms).run P w = .ok () w' ∧ StRel P B w0 f' ((H.put b none).push ⟨old ++ cs, ob.e, ob.k, false⟩) w' ∧ f.le f' ∧ f'.c H.nc = some ci' ∧ ci'.g = ci.g ∧ ci'.d = ci.d + o ∧ ci'.sz = ci.sz ∧ ci'.lim = ci.lim := by
  obtain ⟨ci', arr, fr, e, hc', ho⟩ := h.cells b ob hb
  rw [hc] at hc'; cases hc'
  have hfit := ho.fits
  have hal := ho.lim
  obtain ⟨ys, hy, hyl, _, hys⟩ := ho.read hold
  have hoisc := readCells_isc ho.isc hold
  have hon : o + n ≤ ob.l.length := by
    unfold readCells at hold
    split at hold
    · assumption
    · cases hold
  have hun : ∀ j, ci.d + o + n ≤ j → j < arr.length → unfr fr j := by
    exact fun j _ hj => ho.own hfz j hj
  have hst := run_storeCells_cells (P := P) ci.g (ci.d + o + n) ms 0 w
    (fun j hj => by
      have : ci.d + o + n + 0 + j < arr.length := by omega
      simp [World.cell?, ho.heap]
      omega)
    (fun j hj => unfr_frozen ho.heap (hun _ (by omega) (by omega))) h1
  obtain ⟨g1, g2, g3, g4⟩ := setCells_heap ci.g ms (ci.d + o + n) w arr e fr ho.heap (by omega)
  obtain ⟨t1, t2, t3⟩ := ho.ty hk
  subst t1
  have s1 := (h.kill b).setFree g4 t2 (h.free_kill hb hc) ho.heap g3 g2
  have hfree : Free f (H.put b none) ci.g := h.free_kill hb hc
  have := s1.name (ob := ⟨old ++ cs, ob.e, ob.k, false⟩) (ci := ⟨ci.g, ci.d + o, ci.sz, ci.lim⟩) (arr := arr.take (ci.d + o + n) ++ (ms ++ arr.drop (ci.d + o + n + ms.length))) (fr := fr) (e := ob.e)
    (by show ci.g < _; rw [g3]; exact h.inC b ci hc)
    { heap := g1
      lim := by rw [← hal]; simp; omega
      fits := by simp only [List.length_append, hy.len, hyl, hr.len]; simp; omega
      rel := by
        have hl : (old ++ cs).length = n + ms.length := by simp only [List.length_append, hy.len, hyl, hr.len]
        rw [hl]
        have : ((arr.take (ci.d + o + n) ++ (ms ++ arr.drop (ci.d + o + n + ms.length))).drop (ci.d + o)).take (n + ms.length) = ys ++ ms := by
          apply List.ext_getElem?
          intro j
          simp only [List.getElem?_take, List.getElem?_drop, spl_get arr (ci.d + o + n) ms (by omega), List.getElem?_append, hyl]
          by_cases hj : j < n
          · rw [if_pos (by omega : j < n + ms.length), if_pos (by omega : ci.d + o + j < ci.d + o + n), if_pos hj, hys]
            rw [List.getElem?_take, if_pos hj, List.getElem?_drop]
          · by_cases hj2 : j < n + ms.length
            · rw [if_pos hj2, if_neg (by omega : ¬ ci.d + o + j < ci.d + o + n), if_pos (by omega : ci.d + o + j < ci.d + o + n + ms.length), if_neg hj]
              congr 1; omega
            · rw [if_neg hj2, if_neg hj]
              exact (List.getElem?_eq_none (by omega)).symm
        rw [this]
        exact hy.append hr
      ty := fun _ => ⟨rfl, t2, t3⟩
      own := fun hf j hj => ho.own hf j (by simp at hj; omega)
      arg := fun hf => absurd hf hk
      frle := fun hh => ho.frle hh
      whole := fun hw => by cases hw
      isc := fun x hx => by
        rcases List.mem_append.1 hx with hx | hx
        · exact hoisc x hx
        · exact hi x hx } hk hfree
  exact ⟨_, _, _, by simpa using hst, this.1, this.2, fset_same _ _ _, rfl, rfl, rfl, rfl⟩

theorem appendOp_sound (h : StRel P B w0 f H w) {t xt : TypeId} {s x : V} {vs vx : Value} (hs : VRel f s vs) (hx : VRel f x vx) {v : V} {H' : Heap} (he : appendOp P t xt s x H = .val v H') (ty : TypeId) :
    ∃ f' v' w', (Builtin.append_ #[t, xt] ty #[vs, vx]).run P w = .ok v' w' ∧ StRel P B w0 f' H' w' ∧ f.le f' ∧ VRel f' v v' := by
  unfold appendOp at he
  split at he
  · rename_i ti xi ht hxt
    obtain ⟨inf, d, hinf, hd, hk, _⟩ := tiOf_spec ht
    obtain ⟨inf2, d', hinf2, hd', hk', _⟩ := tiOf_spec hxt
    split at he
    · cases he
    · rename_i _ e hkk hnint
      rw [hk] at hkk
      have := kd_slice hkk
      subst this
      have hni : ∀ k, d' ≠ .int k := fun k e => hnint k (by rw [hk', e]; rfl)
      split at he
      · cases he
      · rename_i ei hei
        obtain ⟨i2, d2, hi2, _, _, hs2, hb2, hz⟩ := tiOf_spec hei
        split at he
        · rename_i m cs z hnc hzz
          rw [hz] at hzz
          obtain ⟨zv, z1, z2, z3, z4⟩ := zeroOf_spec hzz
          rw [hs2] at hnc
          obtain ⟨hlen, ms, hfc, hrel, hone, hisc, hcl⟩ := newCells_sound h hx hnc
          split at he
          · -- nothing is appended
            rename_i hm
            subst hm
            have hcs0 : cs = [] := List.eq_nil_of_length_eq_zero (by rw [hcl]; simp)
            subst hcs0
            have := hrel.nil_inv
            subst this
            split at he
            · cases he
              rw [hs.nilslice_inv]
              refine ⟨f, .slice none 0 0, w, ?_, h, .refl f, .nilslice⟩
              rw [append_head hd hd' hni hi2 hlen ty, if_pos (by omega)]
              simp only [Sem.run_bind, hfc w rfl, Result.andThen_ok]
              rfl
            · cases he
              obtain ⟨ci, a, c', hc, rfl, ha, hcc, hex, hn, hlim⟩ := hs.slice_inv
              refine ⟨f, _, w, ?_, h, .refl f, hs⟩
              rw [append_head hd hd' hni hi2 hlen ty, if_pos (by omega)]
              simp only [Sem.run_bind, hfc w rfl, Result.andThen_ok]
              rfl
            · cases he
          · rename_i hm
            split at he
            · cases he
            · rename_i hbs
              rw [hs2, hb2] at hbs
              simp only [not_or] at hbs
              split at he
              · -- onto nil
                split at he
                · rename_i hmax
                  cases he
                  rw [hb2] at hmax
                  rw [hs.nilslice_inv]
                  have := append_new h hei hs2 hd hd' hni hi2 z1 z3 hbs.2 hbs.1 (base := none) (n := 0) (c := 0) hlen (by omega) (by simpa using hmax) (old := []) (os := []) (fun _ _ => rfl) hfc (LRel.nil f) hrel (by simp) hisc (by simp) hcl (k := .own) (by simp) ty
                  simpa using this
                · cases he
              · rename_i b o n c ex
                obtain ⟨ci, a, c', hc, rfl, ha, hcc, hex, hn, hlim⟩ := hs.slice_inv
                split at he
                · -- surely in place
                  rename_i hle
                  split at he
                  · rename_i ob hob
                    split at he
                    · rename_i hcond
                      cases he
                      rw [hs2] at hcond ⊢
                      have ha' : a = ⟨ci.g, ci.d + o, none⟩ := by rcases ha with ha | ha; omega; exact ha
                      subst ha'
                      obtain ⟨w', hw', hst, _⟩ := write_sound h hob hcond.1 hrel hone hisc (o := o + n * i2.size) (by omega) hc
                      refine ⟨f, .slice (some ⟨ci.g, ci.d + o, none⟩) (n + m) c', w', ?_, hst, .refl f, .slice _ _ _ _ _ ci _ _ hc (.inr rfl) hcc hex hle hlim⟩
                      rw [append_head hd hd' hni hi2 hlen ty, if_pos (by omega)]
                      simp only [Sem.run_bind, hfc w rfl, Result.andThen_ok, add_none, Nat.add_assoc, hw' ⟨ci.g, ci.d + (o + n * i2.size), none⟩ rfl, Sem.run_pure]
                    · cases he
                  · cases he
                · rename_i hgt
                  split at he
                  · cases he
                  · rename_i hmax
                    simp only [Decidable.not_not] at hmax
                    rw [hb2] at hmax
                    split at he
                    · cases he
                    · rename_i ob hob
                      split at he
                      · cases he
                      · rename_i old hold
                        rw [hs2] at hold
                        -- what was there
                        have hnc2 : newCells i2.size (.slice b o n c ex) H = some (n, old) := by simp only [newCells, hob, Option.bind_some, hold]
                        obtain ⟨_, os, hfo, hro, _, hio, hlo⟩ := newCells_sound h hs hnc2
                        have hnew : ∀ k : Own, k ≠ .arg → c' < n + m → ∃ f' v' w', (Builtin.append_ #[t, xt] ty #[.slice (some a) n c', vx]).run P w = .ok v' w' ∧ StRel P B w0 f' (H.push ⟨old ++ cs, e, k, false⟩) w' ∧ f.le f' ∧ VRel f' (.slice H.nc 0 (n + m) (n + m) false) v' := fun k hk hlt =>
                          append_new h hei hs2 hd hd' hni hi2 z1 z3 hbs.2 hbs.1 hlen hlt hmax hfo hfc hro hrel hio hisc hlo hcl hk ty
                        split at he
                        · rename_i hexx
                          cases he
                          have := hex hexx
                          exact hnew .own (by simp) (by omega)
                        · rename_i hexx
                          split at he
                          · rename_i hcond
                            cases he
                            obtain ⟨ci2, arr, fr, e2, hc2, ho⟩ := h.cells b ob hob
                            rw [hc] at hc2; cases hc2
                            have hka : ob.k ≠ .arg := by
                              intro e
                              rw [hcond.2] at e
                              cases e
                            by_cases hin : n + m ≤ c'
                            · have ha' : a = ⟨ci.g, ci.d + o, none⟩ := by rcases ha with ha | ha; omega; exact ha
                              subst ha'
                              have hsz : ci.sz = i2.size := by
                                have := (ho.ty hka).2.2
                                rw [hcond.1, hei] at this
                                simp only [Option.map_some, Option.some.injEq] at this
                                omega
                              have hl2 := hlim (by simpa using hexx)
                              rw [hsz] at hl2
                              have hmul : (n + m) * i2.size ≤ c' * i2.size := Nat.mul_le_mul_right _ hin
                              rw [Nat.add_mul] at hmul
                              have hml : ms.length = m * i2.size := by rw [← hrel.len, hcl]
                              obtain ⟨f', w', ci', e1, e2, e3, e4, e5, e6, e7, e8⟩ := extend_sound h hob hka hc hold hrel hone hisc (by rw [hml]; omega) hcond.2
                              rw [hcond.1] at e2
                              refine ⟨f', .slice (some ⟨ci.g, ci.d + o, none⟩) (n + m) c', w', ?_, e2, e3, ?_⟩
                              · rw [append_head hd hd' hni hi2 hlen ty, if_pos hin]
                                simp only [Sem.run_bind, hfc w rfl, Result.andThen_ok, add_none, e1, Sem.run_pure]
                              · refine .slice _ _ _ _ _ ci' _ _ e4 (.inr (by rw [e5, e6]; rfl)) hin (fun h => by cases h) (Nat.le_refl _) (fun _ => ?_)
                                rw [e6, e7, e8, hsz]
                                omega
                            · obtain ⟨f', v', w', e1, e2, e3, e4⟩ := hnew ob.k hka (by omega)
                              refine ⟨f', v', w', e1, ?_, e3, e4⟩
                              have hbn : b ≠ H.nc := fun e => by have := (h.freshC b (by omega)).1; rw [hob] at this; cases this
                              have := e2.kill b
                              have he : (H.push ⟨old ++ cs, e, ob.k, false⟩).put b none = (H.put b none).push ⟨old ++ cs, e, ob.k, false⟩ := by
                                simp only [Heap.push, Heap.put]
                                congr 1
                                funext j
                                simp only [fset]
                                by_cases h1 : j = b
                                · rw [if_pos h1, if_neg (by omega), if_pos h1]
                                · rw [if_neg h1]
                                  split <;> first | rfl | rw [if_neg h1]
                              rw [← he]
                              exact this
                          · cases he
              · cases he
        · cases he
    · cases he
  · cases he

end
end Go.Cm
