/- A run by parts: answers (laid by a program of mine, held by the kernel). A run by parts: answers (laid by a program of mine, held by the kernel). A run by parts: answers (laid by a program of mine, held by the kernel). A run by parts: answers (laid by a program of mine, held by the kernel). A run by parts: answers (laid by a program of mine, held by the kernel). A run by parts: answers (laid by a program of mine, held by the kernel). -/
import Derived.Test.YtgalmibnlkbdiaaGreatDoorSnBase
import Derived.Test.YtgalmibnlkbdiaaGreatDoorSnFns
set_option maxRecDepth 1000000
namespace Go.Cm
open Go Go.Proofs
def SnMmL0 : Memo := [
  (199, [.agg [.bool false, .bool false, .bool false, .bool false, .int .i64 0], .int .i64 3], .int .i64 0),
  (199, [.agg [.bool false, .bool false, .bool false, .bool false, .int .i64 0], .int .i64 1], .int .i64 0),
  (199, [.agg [.bool false, .bool false, .bool false, .bool false, .int .i64 0], .int .i64 4], .int .i64 0),
  (199, [.agg [.bool false, .bool false, .bool false, .bool false, .int .i64 0], .int .i64 2], .int .i64 0),
  (199, [.agg [.bool false, .bool false, .bool false, .bool false, .int .i64 0], .int .i64 5], .int .i64 0),
  (52, [.str [72, 105, 10, 116, 104, 101, 114, 101]], .int .i64 8),
  (172, [.agg [.int .u64 0, .int .u64 1000], .agg [.int .u64 0, .int .u64 1]], .tuple [.agg [.int .u64 0, .int .u64 1000], .agg [.int .u64 0, .int .u64 0]]),
  (172, [.agg [.int .u64 0, .int .u64 2], .agg [.int .u64 0, .int .u64 1]], .tuple [.agg [.int .u64 0, .int .u64 2], .agg [.int .u64 0, .int .u64 0]]),
  (172, [.agg [.int .u64 0, .int .u64 1], .agg [.int .u64 0, .int .u64 1]], .tuple [.agg [.int .u64 0, .int .u64 1], .agg [.int .u64 0, .int .u64 0]]),
  (94, [.int .u64 5, .int .u64 1], .agg [.int .u64 0, .int .u64 5]),
  (27, [.int .i64 999, .int .i64 10], .str [57, 57, 57]),
  (171, [.agg [.int .u64 0, .int .u64 2500], .agg [.int .u64 0, .int .u64 1000]], .agg [.int .u64 0, .int .u64 500]),
  (46, [.agg [.int .i64 1, .int .i64 1000], .agg [.int .i64 1, .int .i64 1]], .int .i64 (-1)),
  (46, [.agg [.int .i64 1, .int .i64 1], .agg [.int .i64 360000, .int .i64 1]], .int .i64 (-1)),
  (36, [.str [116, 104, 101, 114, 101, 10], .str [10, 13]], .int .i64 5),
  (168, [.str [], .str [72, 105, 60, 47]], .bool false),
  (26, [.int .i64 0, .int .i64 3], .str [48, 48, 48]),
  (36, [.str [60, 105, 62, 72, 105, 60, 47, 105, 62, 10, 116, 104, 101, 114, 101, 10], .str [10, 13]], .int .i64 9),
  (168, [.str [72, 105], .str [10, 116, 104, 101]], .bool false)]
def SnMmM0 : Memo := SnMmL0 ++ []
theorem SnMmO0 : MemoOK Tryz.prog SnMmGl SnMmN SnMmM0 := memo_lay hm SnFtOK SnMmTabOK (n := 100000) SnMmG1 SnMmG2 (memo_nil _ _) (by kernel_rfl)
end Go.Cm
set_option maxRecDepth 1000000
namespace Go.Cm
open Go Go.Proofs
def SnMmL1 : Memo := [
  (139, [.agg [.bool false, .int .u64 0, .int .u64 1000, .int .u64 0, .int .u64 1000]], .tuple [.agg [.int .i64 1, .int .i64 1], .int .i64 0]),
  (195, [.agg [.bool false, .int .u64 0, .int .u64 5000, .int .u64 0, .int .u64 2], .int .i64 2], .tuple [.int .i64 2500, .int .i64 0]),
  (195, [.agg [.bool false, .int .u64 0, .int .u64 1000, .int .u64 0, .int .u64 1], .int .i64 2], .tuple [.int .i64 1000, .int .i64 0]),
  (36, [.str [48, 48, 58, 48, 48, 58, 48, 49, 44, 48, 48, 48, 32, 45, 45, 62, 32, 48, 48, 58, 48, 48, 58, 48, 50, 44, 53, 48, 48, 10, 60, 105, 62, 72, 105, 60, 47, 105, 62, 10, 116, 104, 101, 114, 101, 10], .str [10, 13]], .int .i64 29)]
def SnMmM1 : Memo := SnMmL1 ++ SnMmM0
theorem SnMmO1 : MemoOK Tryz.prog SnMmGl SnMmN SnMmM1 := memo_lay hm SnFtOK SnMmTabOK (n := 100000) SnMmG1 SnMmG2 (SnMmO0) (by kernel_rfl)
end Go.Cm
set_option maxRecDepth 1000000
namespace Go.Cm
open Go Go.Proofs
def SnMmL2 : Memo := [
  (171, [.agg [.int .u64 0, .int .u64 5], .agg [.int .u64 0, .int .u64 2]], .agg [.int .u64 0, .int .u64 1]),
  (171, [.agg [.int .u64 0, .int .u64 1], .agg [.int .u64 0, .int .u64 1000]], .agg [.int .u64 0, .int .u64 1]),
  (46, [.agg [.int .i64 5, .int .i64 2], .agg [.int .i64 360000, .int .i64 1]], .int .i64 (-1)),
  (46, [.agg [.int .i64 1, .int .i64 1], .agg [.int .i64 5, .int .i64 2]], .int .i64 (-1)),
  (139, [.agg [.bool false, .int .u64 0, .int .u64 2500, .int .u64 0, .int .u64 1]], .tuple [.agg [.int .i64 2500, .int .i64 1], .int .i64 0]),
  (139, [.agg [.bool false, .int .u64 0, .int .u64 1, .int .u64 0, .int .u64 1]], .tuple [.agg [.int .i64 1, .int .i64 1], .int .i64 0]),
  (45, [.agg [.int .i64 1000, .int .i64 1]], .bool true),
  (139, [.agg [.bool false, .int .u64 0, .int .u64 2500, .int .u64 0, .int .u64 1000]], .tuple [.agg [.int .i64 5, .int .i64 2], .int .i64 0])]
def SnMmM2 : Memo := SnMmL2 ++ SnMmM1
theorem SnMmO2 : MemoOK Tryz.prog SnMmGl SnMmN SnMmM2 := memo_lay hm SnFtOK SnMmTabOK (n := 100000) SnMmG1 SnMmG2 (SnMmO1) (by kernel_rfl)
end Go.Cm
set_option maxRecDepth 1000000
namespace Go.Cm
open Go Go.Proofs
def SnMmL3 : Memo := [
  (139, [.agg [.bool false, .int .u64 0, .int .u64 1, .int .u64 0, .int .u64 1000]], .tuple [.agg [.int .i64 1, .int .i64 1000], .int .i64 0]),
  (139, [.agg [.bool false, .int .u64 0, .int .u64 5, .int .u64 0, .int .u64 2]], .tuple [.agg [.int .i64 5, .int .i64 2], .int .i64 0]),
  (16, [.int .i64 1, .agg [.int .i64 1, .int .i64 1]], .tuple [.str [48, 48, 58, 48, 48, 58, 48, 49, 44, 48, 48, 48], .int .i64 0]),
  (81, [.int .i64 1, .str [48, 48, 58, 48, 48, 58, 48, 49, 44, 48, 48, 48]], .tuple [.agg [.int .i64 1, .int .i64 1], .int .i64 0])]
def SnMmM3 : Memo := SnMmL3 ++ SnMmM2
theorem SnMmO3 : MemoOK Tryz.prog SnMmGl SnMmN SnMmM3 := memo_lay hm SnFtOK SnMmTabOK (n := 100000) SnMmG1 SnMmG2 (SnMmO2) (by kernel_rfl)
end Go.Cm
set_option maxRecDepth 1000000
namespace Go.Cm
open Go Go.Proofs
def SnMmL4 : Memo := [
  (16, [.int .i64 1, .agg [.int .i64 5, .int .i64 2]], .tuple [.str [48, 48, 58, 48, 48, 58, 48, 50, 44, 53, 48, 48], .int .i64 0]),
  (196, [.agg [.int .i64 1000, .int .i64 1], .agg [.int .i64 1, .int .i64 1000]], .tuple [.agg [.int .i64 1, .int .i64 1], .int .i64 0]),
  (196, [.agg [.int .i64 2500, .int .i64 1], .agg [.int .i64 1, .int .i64 1000]], .tuple [.agg [.int .i64 5, .int .i64 2], .int .i64 0]),
  (81, [.int .i64 1, .str [48, 48, 58, 48, 48, 58, 48, 50, 44, 53, 48, 48]], .tuple [.agg [.int .i64 5, .int .i64 2], .int .i64 0])]
def SnMmM4 : Memo := SnMmL4 ++ SnMmM3
theorem SnMmO4 : MemoOK Tryz.prog SnMmGl SnMmN SnMmM4 := memo_lay hm SnFtOK SnMmTabOK (n := 100000) SnMmG1 SnMmG2 (SnMmO3) (by kernel_rfl)
end Go.Cm
set_option maxRecDepth 1000000
namespace Go.Cm
open Go Go.Proofs
def SnMmL5 : Memo := [
  (173, [.agg [.int .i64 1, .int .i64 1], .agg [.int .i64 1, .int .i64 1000], .int .i64 2], .tuple [.agg [.int .i64 1, .int .i64 1], .int .i64 0]),
  (173, [.agg [.int .i64 5, .int .i64 2], .agg [.int .i64 1, .int .i64 1000], .int .i64 2], .tuple [.agg [.int .i64 5, .int .i64 2], .int .i64 0])]
def SnMmM5 : Memo := SnMmL5 ++ SnMmM4
theorem SnMmO5 : MemoOK Tryz.prog SnMmGl SnMmN SnMmM5 := memo_lay hm SnFtOK SnMmTabOK (n := 100000) SnMmG1 SnMmG2 (SnMmO4) (by kernel_rfl)
end Go.Cm
