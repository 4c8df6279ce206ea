/- The run of SrtNames. -/
import Derived.Test.YtgalmibnlkbdiaaGreatDoorSnMm0
set_option linter.unusedVariables false
set_option linter.unusedSimpArgs false
namespace Go.Cm
open Go Go.Proofs

def snH (m : Int) : CH := { cells := .node (some ⟨[.int .u64 1, .int .u64 10, .int .u64 100, .int .u64 1000, .int .u64 10000, .int .u64 100000, .int .u64 1000000, .int .u64 10000000, .int .u64 100000000, .int .u64 1000000000, .int .u64 10000000000, .int .u64 100000000000, .int .u64 1000000000000, .int .u64 10000000000000, .int .u64 100000000000000, .int .u64 1000000000000000, .int .u64 10000000000000000, .int .u64 100000000000000000, .int .u64 1000000000000000000, .int .u64 10000000000000000000], 0, .arg, false⟩) (.node (some ⟨[.int .i64 m], 0, .arg, false⟩) .nil .nil) .nil, nc := 8, its := .nil, ni := 0, lps := .nil, nl := 0, ds := .nil, nd := 0 }

set_option maxRecDepth 1000000 in
theorem sn_run (m : Int) : answers Tryz.prog SnFt.get (extM Tryz.prog snTab SnMmGl SnMmN SnMmM5) 100000 3 [] (snH m) (.bool true) = true := by kernel_rfl
end Go.Cm
