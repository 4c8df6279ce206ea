/- A part of the proof. -/
import Derived.Test.YtgalmibnlkbdiaaGreatDoorSnIndex
import Derived.Test.YtgalmibnlkbdiaaGreatDoorCmExt
set_option linter.unusedVariables false
set_option linter.unusedSimpArgs false
namespace Go.Cm
open Go Go.Proofs

def snTab (g : FuncId) : Option EKd :=
  if g = 190 then some .idxByte
  else if g = 163 then some (.rd 1 [.str sLine, .str pArrow] (.int .i64 12))
  else if g = 159 then some .noEsc
  else if g = 170 then some (.mnz 5)
  else if g = 197 then some .add64
  else none

theorem e159 : EFn Tryz.prog 159 Extern.AbiNoEscape.same := .mk' Tryz.func159 (by kernel_rfl) (by kernel_rfl) (by kernel_rfl) (by kernel_rfl)
theorem e170 : EFn Tryz.prog 170 (Extern.BytealgMakeNoZero.makeNoZero #[3] #[33]) := .mk' Tryz.func170 (by kernel_rfl) (by kernel_rfl) (by kernel_rfl) (by kernel_rfl)
theorem e197 : EFn Tryz.prog 197 add64Entry := .mk' Tryz.func197 (by kernel_rfl) (by kernel_rfl) (by kernel_rfl) (by kernel_rfl)

theorem SnMmTabOK : ∀ g k, snTab g = some k → EOK Tryz.prog g k := by
  intro g k h
  unfold snTab at h
  split at h
  · rename_i hg; cases h; subst hg; exact e190
  · split at h
    · rename_i hg; cases h; subst hg; exact ⟨⟨_, _, _, s163⟩, fun m H ob h1 h2 => index_spec m H ob h1 h2⟩
    · split at h
      · rename_i hg; cases h; subst hg; exact e159
      · split at h
        · rename_i hg; cases h; subst hg; exact ⟨_, _, e170, by kernel_rfl, by kernel_rfl⟩
        · split at h
          · rename_i hg; cases h; subst hg; exact e197
          · cases h

def SnMmGl : Gl := [(0, [.int .u64 1, .int .u64 10, .int .u64 100, .int .u64 1000, .int .u64 10000, .int .u64 100000, .int .u64 1000000, .int .u64 10000000, .int .u64 100000000, .int .u64 1000000000, .int .u64 10000000000, .int .u64 100000000000, .int .u64 1000000000000, .int .u64 10000000000000, .int .u64 100000000000000, .int .u64 1000000000000000, .int .u64 10000000000000000, .int .u64 100000000000000000, .int .u64 1000000000000000000, .int .u64 10000000000000000000])]
def SnMmN : Nat := 8
theorem SnMmG1 : Tryz.prog.globals.size ≤ SnMmN := by
  have : Tryz.prog.globals.size = 8 := by kernel_rfl
  rw [this]; exact Nat.le_refl _
theorem SnMmG2 : (SnMmGl.all fun q => decide (q.1 < SnMmN) && V.flatL q.2) = true := by decide
end Go.Cm
