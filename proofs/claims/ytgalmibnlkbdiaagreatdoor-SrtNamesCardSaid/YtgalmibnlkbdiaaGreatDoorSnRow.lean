/- SrtNames: the row and the card. -/
import Derived.Test.YtgalmibnlkbdiaaGreatDoorSnRun
import Derived.Test.YtgalmibnlkbdiaaGreatDoorCmExt
import Derived.Test.YtgalmibnlkbdiaaGreatDoorRows
import Derived.Test.YtgalmibnlkbdiaaGreatDoorTie
import Derived.Test.YtgalmibnlkbdiaaGreatDoorCards
import Derived.WalkKit
import Derived.ProofKit
import Derived.Lay
import Derived.Shelf.Vars
import Derived.SevenTiedAt
set_option linter.unusedVariables false
namespace Go.Proofs.YtgalmibnlkbdiaaGreatDoor
open Go.ChangeShapes Go.WideShapes Go.ChangeAt Go.RowKit Go.Cm

def pows : List Int := [1, 10, 100, 1000, 10000, 100000, 1000000, 10000000, 100000000, 1000000000, 10000000000, 100000000000, 1000000000000, 10000000000000, 100000000000000, 1000000000000000, 10000000000000000, 100000000000000000, 1000000000000000000, 10000000000000000000]

theorem snh_cs (m : Int) {b : Nat} {ob : Cm.Obj} (h : ((snH m).toH Tryz.prog).cs b = some ob) : (b = 0 ∧ ob = ⟨pows.map fun z => V.int .u64 z, 0, .arg, false⟩) ∨ (b = 1 ∧ ob = ⟨[.int .i64 m], 0, .arg, false⟩) := by
  have h : (snH m).cells.get b = some ob := h
  by_cases h0 : b = 0
  · subst h0
    exact .inl ⟨rfl, (Option.some.inj h).symm⟩
  · by_cases h1 : b = 1
    · subst h1
      exact .inr ⟨rfl, (Option.some.inj h).symm⟩
    · exfalso
      obtain ⟨k, rfl⟩ : ∃ k, b = k + 2 := ⟨b - 2, by omega⟩
      have e : (snH m).cells.get (k + 2) = none := by
        rw [show (snH m).cells = .node (some ⟨pows.map fun z => V.int .u64 z, 0, .arg, false⟩) (.node (some ⟨[.int .i64 m], 0, .arg, false⟩) .nil .nil) .nil from rfl, Tr.get_node]
        show (if (k + 1) % 2 = 0 then (Tr.node (some (⟨[.int .i64 m], 0, .arg, false⟩ : Cm.Obj)) .nil .nil).get ((k + 1) / 2) else Tr.nil.get ((k + 1) / 2)) = none
        split
        · rename_i hk
          obtain ⟨i, hi⟩ : ∃ i, (k + 1) / 2 = i + 1 := ⟨(k + 1) / 2 - 1, by omega⟩
          rw [hi, Tr.get_node]
          show (if i % 2 = 0 then Tr.nil.get (i / 2) else Tr.nil.get (i / 2)) = none
          split <;> rfl
        · rfl
      rw [e] at h
      cases h

theorem gsz : Tryz.prog.globals.size = 8 := by kernel_rfl

theorem snh_base (m : Int) : Base Tryz.prog ((snH m).toH Tryz.prog) where
  glob := by rw [gsz]; exact Nat.le_refl _
  fresh := fun b hb => by
    have hb' : 8 ≤ b := hb
    cases h : ((snH m).toH Tryz.prog).cs b with
    | none => rfl
    | some ob => rcases snh_cs m h with ⟨h, _⟩ | ⟨h, _⟩ <;> omega
  arg := fun b ob h => by rcases snh_cs m h with ⟨_, rfl⟩ | ⟨_, rfl⟩ <;> exact ⟨rfl, rfl⟩
  part := fun b ob h => by rcases snh_cs m h with ⟨_, rfl⟩ | ⟨_, rfl⟩ <;> rfl
  its := fun i => rfl
  lps := fun i => rfl
  ds := fun i => rfl

theorem own : ownKnob Tryz.prog.godebug = none := by kernel_rfl
theorem gn0 : Tryz.prog.globalNamed "internal/strconv.uint64pow10" = some 0 := by kernel_rfl

theorem call (W : World) (m : Int) (h0 : ∃ e fr, W.heap[0]? = some (.cells (pows.map fun z => Value.int .u64 z).toArray e fr)) (h1 : ∃ e fr, W.heap[1]? = some (.cells #[.int .i64 m] e fr)) (hW : 8 ≤ W.heap.size) :
    Calls Tryz.prog 3 #[] W fun e w' => e = .returned (.bool true) ∧ Below W.heap.size W w' := by
  have hst : StRel Tryz.prog W.heap.size W (injInit Tryz.prog W) ((snH m).toH Tryz.prog) W := by
    refine st_init (snh_base m) gsz.symm (by rw [gsz]; exact hW) fun b ob h => ?_
    rcases snh_cs m h with ⟨rfl, rfl⟩ | ⟨rfl, rfl⟩
    · obtain ⟨e, fr, hh⟩ := h0
      exact ⟨_, e, fr, hh, by simp, LRel.ints pows, by decide⟩
    · obtain ⟨e, fr, hh⟩ := h1
      exact ⟨_, e, fr, hh, rfl, LRel.cons (.int _ _) (LRel.nil _), by simp [V.isCell]⟩
  have hc := callS_answers (fns := SnFt.get) hm SnFtOK (extM_sound SnMmTabOK SnMmO5) (sn_run m) rfl rfl (snh_base m) (⟨Nat.le_refl _, fun b ob h => ⟨ob, h, rfl⟩⟩ : Sub ((snH m).toH Tryz.prog) ((snH m).toH Tryz.prog))
  refine (calls_of_callS hc hst (LRel.nil _)).mono fun e w' ⟨v, H', f', v', he, ⟨hv, hH⟩, _, s', hr⟩ => ?_
  subst hv
  have := hr.bool_inv
  subst this
  exact ⟨he, s'.below⟩

set_option maxRecDepth 100000 in
theorem lifted (os : Os) (started : os.Started) (H : Type) (enc : TypeId × Value → H) :
    ReturnsInHanded {} Tryz.checked os 3 .any (fun w args => (Rows.srtNamesSpec.pre enc Tryz.prog Tryz.f3 [] false w args ∧ laidMetH Tryz.prog Rows.srtNamesRow.laid w) ∧ sizedMet enc Tryz.prog Tryz.f3 (OpenSpec.ofChange Rows.srtNamesSpec) false w args)
      (Rows.srtNamesSpec.post enc Tryz.prog Tryz.f3 false true false false) := by
  refine handed_and_shaped (C := Tryz.checked) (X := fun w _ => laidMetH Tryz.prog Rows.srtNamesRow.laid w) (fun _ _ _ hh h => h.of_heap hh) own started (by kernel_rfl) Tryz.func3
    (ChangeSpec.witness_shaped (enc := enc) (C := Tryz.checked) (os := os) (X := fun w _ => laidMetH Tryz.prog Rows.srtNamesRow.laid w) false (World.laidAll Tryz.prog os Rows.srtNamesRow.laid) #[] 8 (World.laidAll_os _ _ _)
      (World.shaped_of_ZipB (by kernel_rfl) (by kernel_rfl)) (by kernel_rfl) (by kernel_rfl) (by kernel_rfl)
      (by rw [MakeChecks.laidMetH_plain _ _ _ (by kernel_rfl)]; exact laidMet_laidAll _ (by kernel_rfl) (by kernel_rfl))) ?_
  intro W base args ds gs before hval0 hW _ _ hL hsh _
  have hW' := hW
  obtain ⟨p, q, hA0, hV, rfl, _, _⟩ := hW
  have hA : DataW.TrodAll enc Tryz.prog W 0 (fun _ => true) true Tryz.f3.params.toList args.toList ds p := hA0
  rw [Tryz.params3] at hA
  obtain ⟨rfl, rfl, rfl⟩ := trodAll_none hA
  obtain ⟨rfl, rfl⟩ := trodVars_none hV
  rw [MakeChecks.laidMetH_plain _ _ _ (by kernel_rfl)] at hL
  obtain ⟨m, hm⟩ := cell_of_shapedOpen_int (g := 1) (t := 3) (zero := #[.int .i64 0]) (k := .i64) hsh (by show 1 < Tryz.prog.globals.size; rw [gsz]; omega) (by kernel_rfl) rfl (by kernel_rfl) (by kernel_rfl) (by kernel_rfl)
  obtain ⟨cs1, hc1, hc2, _⟩ := hsh.1 1 #[.int .i64 0] 3 (by show 1 < Tryz.prog.globals.size; rw [gsz]; omega) (by kernel_rfl)
  have h1 : ∃ e fr, W.heap[1]? = some (.cells #[.int .i64 m] e fr) := by
    refine ⟨3, (0, 0), ?_⟩
    rw [hc1]
    obtain ⟨l⟩ := cs1
    have hl : l.length = 1 := hc2
    obtain ⟨v, rfl⟩ := List.length_eq_one_iff.1 hl
    have : some v = some (Value.int .i64 m) := by
      rw [← hm]
      simp [World.cell?, hc1]
    cases this
    rfl
  obtain ⟨⟨z7, t7⟩, hz7⟩ := Option.isSome_iff_exists.1 (show (((begin Tryz.prog (fun _ _ => 0) default).world.heap[7]?).bind Obj.row?).isSome = true by kernel_rfl)
  obtain ⟨cs7, hc7, _, _⟩ := hsh.1 7 z7 t7 (by show 7 < Tryz.prog.globals.size; rw [gsz]; omega) hz7
  have hsz : 8 ≤ W.heap.size := by
    have := (Array.getElem?_eq_some_iff.1 hc7).1
    omega
  have h0 := heap_of_tab gn0 (tabIs_of_reads (k := .u64) (zs := pows) (t := 236) (e := 104) (n := 20) gn0 (by kernel_rfl) (by kernel_rfl) (by kernel_rfl) (by kernel_rfl) (by kernel_rfl) hL (.tail _ (.tail _ (.head _))))
  refine (call W m h0 h1 hsz).mono fun e W' ⟨he, hb⟩ => ?_
  subst he
  exact ⟨_, rfl, _, _, _, [], [], [], hW', trodAll_mk1 (shut_bool Tryz.underlying4 _), trodAll_mk0, rfl, hb.frame _, fun h => by cases h⟩

theorem holds : Rows.SrtNamesSaid :=
  OpenClaim.holds_of_wide 3 Tryz.f3 rfl rfl rfl rfl rfl rfl rfl ⟨rfl, rfl, rfl, rfl, rfl⟩ rfl rfl rfl rfl rfl (by kernel_rfl) Tryz.func3 (by kernel_rfl)
    (of_decide_eq_true (by kernel_rfl)) (by unfold Func.isWrapper; first | (rw [if_pos (by decide +kernel)]; kernel_rfl) | (rw [if_neg (by decide +kernel)]; exact ⟨rfl, rfl⟩))
    (fun os started H enc _ => lifted os started H enc)

theorem srtNames_holds : Rows.SrtNamesCardSaid :=
  Claim7.holds_tied_plain_at .later [] [.data, .data, .data, .data, .pinned] true (true, "5084f97ccf86905eccf50a216c8e870a0dee58de5de64d443e5098c28af36544") true holds (fun _ h => by cases h) (by kernel_rfl) (fun _ h => by cases h) srtNames_row_tie rfl ⟨rfl, rfl⟩ (by kernel_rfl) rfl
    (fun f fn hf hfn => by
      obtain rfl : f = 3 := Option.some.inj ((show Tryz.prog.funcNamed "surtitle/surtitlelaw14.SrtNames" = some 3 by kernel_rfl).symm.trans hf) |>.symm
      obtain rfl : fn = Tryz.f3 := (Option.some.inj (Tryz.func3.symm.trans hfn)).symm
      exact ⟨by kernel_rfl, fun j t ht => by
        rw [Tryz.params3] at ht
        simp at ht⟩)
    (by kernel_rfl)
end Go.Proofs.YtgalmibnlkbdiaaGreatDoor
