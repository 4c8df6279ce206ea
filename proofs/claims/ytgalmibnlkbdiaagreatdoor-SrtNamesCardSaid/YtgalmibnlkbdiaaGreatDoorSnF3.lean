/- Functions, their code in short (printed by a program of mine). -/
import Derived.Test.YtgalmibnlkbdiaaGreatDoorSnIndex
set_option maxRecDepth 1000000
namespace Go.Cm
open Go Go.RowKit Go.Proofs
def c148 : MC :=
  (.seq
   (.reg [
     .op (some 6) (.mv (.const (.int .i64 20)))])
  (.seq
   (.reg [
     .op (some 10) (.mv (.tmp 6)),
     .op (some 7) (.mv (.const (.int .i64 0))),
     .op (some 8) (.mv (.tmp 10))])
  (.seq
   (.block 0
    (.loop
     (.seq
      (.seq
       (.reg [
         .op (some 11) (.mv (.tmp 8)),
         .op (some 12) (.mv (.tmp 1)),
         .op (some 13) (.bin .leq (.tmp 11) (.tmp 12))])
      (.cond (.tmp 13)
       .skip
       (.exit 0)))
     (.block 1
      (.seq
       (.reg [
         .op (some 14) (.mv (.tmp 0)),
         .op (some 15) (.mv (.tmp 7)),
         .op (some 16) (.mv (.tmp 8)),
         .op (some 17) (.mv (.tmp 2)),
         .op (some 18) (.call (.func 178) [(.tmp 14), (.tmp 15), (.tmp 16), (.tmp 17)])])
      (.seq
       (.reg [
         .op (some 19) (.mv (.tmp 8)),
         .op (some 7) (.mv (.tmp 19))])
      (.reg [
        .op (some 20) (.mv (.tmp 8)),
        .op (some 21) (.mv (.tmp 6)),
        .op (some 22) (.bin .add (.tmp 20) (.tmp 21)),
        .op (some 8) (.mv (.tmp 22))])))))))
  (.seq
   (.reg [
     .op (some 23) (.mv (.tmp 0)),
     .op (some 24) (.mv (.tmp 7)),
     .op (some 25) (.mv (.tmp 1)),
     .op (some 26) (.mv (.tmp 2)),
     .op (some 27) (.call (.func 178) [(.tmp 23), (.tmp 24), (.tmp 25), (.tmp 26)])])
  (.block 2
   (.loop
    (.seq
     (.seq
      (.reg [
        .op (some 28) (.mv (.tmp 6)),
        .op (some 29) (.mv (.tmp 1)),
        .op (some 30) (.bin .lss (.tmp 28) (.tmp 29))])
     (.cond (.tmp 30)
      .skip
      (.exit 2)))
    (.block 3
     (.seq
      (.reg [
        .op (some 31) (.mv (.tmp 6)),
        .op (some 32) (.bin .mul (.const (.int .i64 2)) (.tmp 31)),
        .op (some 7) (.mv (.const (.int .i64 0))),
        .op (some 8) (.mv (.tmp 32))])
     (.seq
      (.block 4
       (.loop
        (.seq
         (.seq
          (.reg [
            .op (some 33) (.mv (.tmp 8)),
            .op (some 34) (.mv (.tmp 1)),
            .op (some 35) (.bin .leq (.tmp 33) (.tmp 34))])
         (.cond (.tmp 35)
          .skip
          (.exit 4)))
        (.block 5
         (.seq
          (.reg [
            .op (some 36) (.mv (.tmp 0)),
            .op (some 37) (.mv (.tmp 7)),
            .op (some 38) (.mv (.tmp 7)),
            .op (some 39) (.mv (.tmp 6)),
            .op (some 40) (.bin .add (.tmp 38) (.tmp 39)),
            .op (some 41) (.mv (.tmp 8)),
            .op (some 42) (.mv (.tmp 2)),
            .op (some 43) (.call (.func 179) [(.tmp 36), (.tmp 37), (.tmp 40), (.tmp 41), (.tmp 42)])])
         (.seq
          (.reg [
            .op (some 44) (.mv (.tmp 8)),
            .op (some 7) (.mv (.tmp 44))])
         (.reg [
           .op (some 45) (.mv (.tmp 8)),
           .op (some 46) (.mv (.tmp 6)),
           .op (some 47) (.bin .mul (.const (.int .i64 2)) (.tmp 46)),
           .op (some 48) (.bin .add (.tmp 45) (.tmp 47)),
           .op (some 8) (.mv (.tmp 48))])))))))
     (.seq
      (.seq
       (.reg [
         .op (some 49) (.mv (.tmp 7)),
         .op (some 50) (.mv (.tmp 6)),
         .op (some 51) (.bin .add (.tmp 49) (.tmp 50)),
         .op (some 9) (.mv (.tmp 51))])
      (.seq
       (.reg [
         .op (some 52) (.mv (.tmp 9)),
         .op (some 53) (.mv (.tmp 1)),
         .op (some 54) (.bin .lss (.tmp 52) (.tmp 53))])
      (.cond (.tmp 54)
       (.reg [
         .op (some 55) (.mv (.tmp 0)),
         .op (some 56) (.mv (.tmp 7)),
         .op (some 57) (.mv (.tmp 9)),
         .op (some 58) (.mv (.tmp 1)),
         .op (some 59) (.mv (.tmp 2)),
         .op (some 60) (.call (.func 179) [(.tmp 55), (.tmp 56), (.tmp 57), (.tmp 58), (.tmp 59)])])
       .skip)))
     (.reg [
       .op (some 61) (.mv (.tmp 6)),
       .op (some 62) (.bin .mul (.tmp 61) (.const (.int .i64 2))),
       .op (some 6) (.mv (.tmp 62))]))))))))))))
theorem s148 : FnOK Tryz.prog 148 63 [] c148 :=
  .mk' [] Tryz.func148 (by kernel_rfl) (by kernel_rfl) (by kernel_rfl)
def c150 : MC :=
  (.seq
   (.reg [
     .op (some 2) (.mv (.const (.int .i64 0)))])
  (.seq
   (.reg [
     .op (some 3) (.mv (.tmp 0)),
     .op (some 4) (.bin .mul (.tmp 3) (.const (.int .i64 78913))),
     .op (some 5) (.bin .shr (.tmp 4) (.const (.int .u64 18))),
     .op (some 2) (.mv (.tmp 5))])
  .ret))
theorem s150 : FnOK Tryz.prog 150 6 [ResultVar.tmp 2] c150 :=
  .mk' [] Tryz.func150 (by kernel_rfl) (by kernel_rfl) (by kernel_rfl)
def c151 : MC :=
  (.seq
   (.reg [
     .op (some 2) (.mv (.const (.int .i64 0)))])
  (.seq
   (.seq
    (.reg [
      .op (some 3) (.mv (.tmp 0)),
      .op (some 4) (.bin .geq (.tmp 3) (.const (.int .u64 4294967296)))])
   (.cond (.tmp 4)
    (.seq
     (.reg [
       .op (some 5) (.mv (.tmp 0)),
       .op (some 6) (.bin .shr (.tmp 5) (.const (.int .u64 32))),
       .op (some 0) (.mv (.tmp 6))])
    (.reg [
      .op (some 2) (.mv (.const (.int .i64 32)))]))
    .skip))
  (.seq
   (.seq
    (.reg [
      .op (some 7) (.mv (.tmp 0)),
      .op (some 8) (.bin .geq (.tmp 7) (.const (.int .u64 65536)))])
   (.cond (.tmp 8)
    (.seq
     (.reg [
       .op (some 9) (.mv (.tmp 0)),
       .op (some 10) (.bin .shr (.tmp 9) (.const (.int .u64 16))),
       .op (some 0) (.mv (.tmp 10))])
    (.reg [
      .op (some 11) (.mv (.tmp 2)),
      .op (some 12) (.bin .add (.tmp 11) (.const (.int .i64 16))),
      .op (some 2) (.mv (.tmp 12))]))
    .skip))
  (.seq
   (.seq
    (.reg [
      .op (some 13) (.mv (.tmp 0)),
      .op (some 14) (.bin .geq (.tmp 13) (.const (.int .u64 256)))])
   (.cond (.tmp 14)
    (.seq
     (.reg [
       .op (some 15) (.mv (.tmp 0)),
       .op (some 16) (.bin .shr (.tmp 15) (.const (.int .u64 8))),
       .op (some 0) (.mv (.tmp 16))])
    (.reg [
      .op (some 17) (.mv (.tmp 2)),
      .op (some 18) (.bin .add (.tmp 17) (.const (.int .i64 8))),
      .op (some 2) (.mv (.tmp 18))]))
    .skip))
  (.seq
   (.reg [
     .op (some 19) (.mv (.tmp 2)),
     .op (some 20) (.mv (.tmp 0)),
     .op (some 21) (.cint .u8 (.tmp 20)),
     .op (some 22) (.ixs (.const (.string ⟨⟨[0, 1, 2, 2, 3, 3, 3, 3, 4, 4, 4, 4, 4, 4, 4, 4, 5, 5, 5, 5, 5, 5, 5, 5, 5, 5, 5, 5, 5, 5, 5, 5, 6, 6, 6, 6, 6, 6, 6, 6, 6, 6, 6, 6, 6, 6, 6, 6, 6, 6, 6, 6, 6, 6, 6, 6, 6, 6, 6, 6, 6, 6, 6, 6, 7, 7, 7, 7, 7, 7, 7, 7, 7, 7, 7, 7, 7, 7, 7, 7, 7, 7, 7, 7, 7, 7, 7, 7, 7, 7, 7, 7, 7, 7, 7, 7, 7, 7, 7, 7, 7, 7, 7, 7, 7, 7, 7, 7, 7, 7, 7, 7, 7, 7, 7, 7, 7, 7, 7, 7, 7, 7, 7, 7, 7, 7, 7, 7, 8, 8, 8, 8, 8, 8, 8, 8, 8, 8, 8, 8, 8, 8, 8, 8, 8, 8, 8, 8, 8, 8, 8, 8, 8, 8, 8, 8, 8, 8, 8, 8, 8, 8, 8, 8, 8, 8, 8, 8, 8, 8, 8, 8, 8, 8, 8, 8, 8, 8, 8, 8, 8, 8, 8, 8, 8, 8, 8, 8, 8, 8, 8, 8, 8, 8, 8, 8, 8, 8, 8, 8, 8, 8, 8, 8, 8, 8, 8, 8, 8, 8, 8, 8, 8, 8, 8, 8, 8, 8, 8, 8, 8, 8, 8, 8, 8, 8, 8, 8, 8, 8, 8, 8, 8, 8, 8, 8, 8, 8, 8, 8, 8, 8, 8, 8, 8, 8, 8, 8, 8, 8, 8, 8, 8, 8, 8, 8]⟩⟩)) (.tmp 21)),
     .op (some 23) (.cint .i64 (.tmp 22)),
     .op (some 24) (.bin .add (.tmp 19) (.tmp 23)),
     .op (some 2) (.mv (.tmp 24))])
  .ret)))))
theorem s151 : FnOK Tryz.prog 151 25 [ResultVar.tmp 2] c151 :=
  .mk' [] Tryz.func151 (by kernel_rfl) (by kernel_rfl) (by kernel_rfl)
def c152 : MC :=
  (.seq
   (.reg [
     .op (some 2) (.mv (.const (.int .i64 0)))])
  (.seq
   (.seq
    (.reg [
      .op (some 3) (.mv (.tmp 0))])
   (.cond (.tmp 3)
    (.seq
     (.reg [
       .op (some 2) (.mv (.const (.int .i64 1)))])
    .ret)
    .skip))
  (.seq
   (.reg [
     .op (some 2) (.mv (.const (.int .i64 0)))])
  .ret)))
theorem s152 : FnOK Tryz.prog 152 4 [ResultVar.tmp 2] c152 :=
  .mk' [] Tryz.func152 (by kernel_rfl) (by kernel_rfl) (by kernel_rfl)
def c155 : MC :=
  (.seq
   (.reg [
     .op (some 1) (.box 36 (.tmp 0)),
     .op (some 2) (.mv (.const (.slice none 0 0)))])
  (.seq
   (.reg [
     .op (some 4) (.faddr 1 (.tmp 1)),
     .op (some 5) (.load false 1 (.tmp 4)),
     .op (some 6) (.call (.func 182) [(.tmp 5)]),
     .op (some 3) (.mv (.tmp 6))])
  (.seq
   (.reg [
     .op (some 7) (.mv (.tmp 3)),
     .op (some 8) (.call (.func 183) [(.tmp 7), (.func 184)])])
  (.seq
   (.reg [
     .op (some 9) (.mv (.tmp 3)),
     .op (some 2) (.mv (.tmp 9))])
  .ret))))
theorem s155 : FnOK Tryz.prog 155 10 [ResultVar.tmp 2] c155 :=
  .mk' [] Tryz.func155 (by kernel_rfl) (by kernel_rfl) (by kernel_rfl)
def c156 : MC :=
  (.seq
   (.reg [
     .op (some 3) (.box 108 (.tmp 1))])
  (.seq
   (.reg [
     .op (some 4) (.faddr 2 (.tmp 3)),
     .op (some 5) (.load false 1 (.tmp 4))])
  (.block 0
   (.seq
    (.reg [
      .op (some 13) (.bin .eql (.tmp 5) (.const (.int .i64 1))),
      .op (some 12) (.mv (.tmp 13))])
   (.cond (.tmp 12)
    (.reg [
      .op (some 14) (.mv (.tmp 0)),
      .op (some 15) (.nilck (.tmp 14)),
      .op (some 16) (.faddr 0 (.tmp 15)),
      .op none (.store 1 (.tmp 16) (.const (.bool true)))])
    (.seq
     (.reg [
       .op (some 18) (.bin .eql (.tmp 5) (.const (.int .i64 2))),
       .op (some 17) (.mv (.tmp 18))])
    (.cond (.tmp 17)
     (.reg [
       .op (some 19) (.mv (.tmp 0)),
       .op (some 20) (.nilck (.tmp 19)),
       .op (some 21) (.faddr 1 (.tmp 20)),
       .op none (.store 1 (.tmp 21) (.const (.bool true)))])
     (.seq
      (.reg [
        .op (some 23) (.bin .eql (.tmp 5) (.const (.int .i64 3))),
        .op (some 22) (.mv (.tmp 23))])
     (.cond (.tmp 22)
      (.reg [
        .op (some 24) (.mv (.tmp 0)),
        .op (some 25) (.nilck (.tmp 24)),
        .op (some 26) (.faddr 2 (.tmp 25)),
        .op none (.store 1 (.tmp 26) (.const (.bool true)))])
      (.seq
       (.reg [
         .op (some 28) (.bin .eql (.tmp 5) (.const (.int .i64 4))),
         .op (some 27) (.mv (.tmp 28))])
      (.cond (.tmp 27)
       (.reg [
         .op (some 29) (.mv (.tmp 0)),
         .op (some 30) (.nilck (.tmp 29)),
         .op (some 31) (.faddr 3 (.tmp 30)),
         .op none (.store 1 (.tmp 31) (.const (.bool true)))])
       (.reg [
         .op (some 6) (.mv (.tmp 0)),
         .op (some 7) (.faddr 3 (.tmp 3)),
         .op (some 8) (.load false 1 (.tmp 7)),
         .op (some 9) (.bin .add (.tmp 8) (.const (.int .i64 1))),
         .op (some 10) (.nilck (.tmp 6)),
         .op (some 11) (.faddr 4 (.tmp 10)),
         .op none (.store 1 (.tmp 11) (.tmp 9))]))))))))))))
theorem s156 : FnOK Tryz.prog 156 32 [] c156 :=
  .mk' [] Tryz.func156 (by kernel_rfl) (by kernel_rfl) (by kernel_rfl)
def c157 : MC :=
  (.seq
   (.reg [
     .op (some 6) (.load false 1 (.tmp 1)),
     .op (some 7) (.rng (.tmp 6))])
  (.block 0
   (.loop
    (.seq
     (.reg [
       .op (some 8) (.nxt (.tmp 7)),
       .op (some 9) (.ext (.tmp 8) 0)])
    (.seq
     (.cond (.tmp 9)
      .skip
      (.exit 0))
    (.block 1
     (.seq
      (.reg [
        .op (some 10) (.ext (.tmp 8) 1),
        .op (some 11) (.ext (.tmp 8) 2),
        .op (some 3) (.mv (.tmp 10)),
        .op (some 4) (.mv (.tmp 11))])
     (.seq
      (.reg [
        .op (some 5) (.mv (.const (.int .i64 1)))])
     (.seq
      (.seq
       (.reg [
         .op (some 12) (.mv (.tmp 4)),
         .op (some 13) (.bin .neq (.tmp 12) (.const (.int .i32 65533)))])
      (.cond (.tmp 13)
       (.reg [
         .op (some 14) (.mv (.tmp 4)),
         .op (some 15) (.call (.func 158) [(.tmp 14)]),
         .op (some 5) (.mv (.tmp 15))])
       (.seq
        (.reg [
          .op (some 16) (.load false 1 (.tmp 1)),
          .op (some 17) (.mv (.tmp 3)),
          .op (some 18) (.sstr (.tmp 16) (some (.tmp 17)) none),
          .op (some 19) (.call (.func 88) [(.tmp 18), (.const (.string ⟨⟨[239, 191, 189]⟩⟩))])])
       (.cond (.tmp 19)
        (.reg [
          .op (some 5) (.mv (.const (.int .i64 3)))])
        .skip))))
     (.seq
      (.reg [
        .op (some 20) (.mv (.tmp 0)),
        .op (some 21) (.mv (.tmp 3)),
        .op (some 22) (.mv (.tmp 5)),
        .op (some 23) (.mv (.tmp 4)),
        .op (some 24) (.mv (.tmp 4)),
        .op (some 25) (.bin .eql (.tmp 24) (.const (.int .i32 65533))),
        .op (some 26) (.mv (.tmp 25)),
        .gd (some 26) true (some 27) (.mv (.tmp 5)),
        .gd (some 26) true (some 28) (.bin .eql (.tmp 27) (.const (.int .i64 1))),
        .op (some 29) (.pick (.tmp 26) (.tmp 28) (.const (.bool false))),
        .op (some 30) (.build [.int .i64 0, .int .i64 0, .int .i32 0, .bool false] [(0, 1, (.tmp 21)), (1, 1, (.tmp 22)), (2, 1, (.tmp 23)), (3, 1, (.tmp 29))]),
        .op (some 31) (.call (.tmp 20) [(.tmp 30)]),
        .op (some 32) (.un .not (.tmp 31))])
     (.cond (.tmp 32)
      .ret
      .skip)))))))))))
theorem s157 : FnOK Tryz.prog 157 33 [] c157 :=
  .mk' [] Tryz.func157 (by kernel_rfl) (by kernel_rfl) (by kernel_rfl)
def c158 : MC :=
  (.seq
   (.reg [
     .op (some 2) (.mv (.const (.int .i64 0)))])
  (.seq
   (.block 0
    (.seq
     (.reg [
       .op (some 4) (.mv (.tmp 0)),
       .op (some 5) (.bin .lss (.tmp 4) (.const (.int .i32 0))),
       .op (some 3) (.mv (.tmp 5))])
    (.cond (.tmp 3)
     (.seq
      (.reg [
        .op (some 2) (.mv (.const (.int .i64 (-1))))])
     .ret)
     (.seq
      (.reg [
        .op (some 7) (.mv (.tmp 0)),
        .op (some 8) (.bin .leq (.tmp 7) (.const (.int .i32 127))),
        .op (some 6) (.mv (.tmp 8))])
     (.cond (.tmp 6)
      (.seq
       (.reg [
         .op (some 2) (.mv (.const (.int .i64 1)))])
      .ret)
      (.seq
       (.reg [
         .op (some 10) (.mv (.tmp 0)),
         .op (some 11) (.bin .leq (.tmp 10) (.const (.int .i32 2047))),
         .op (some 9) (.mv (.tmp 11))])
      (.cond (.tmp 9)
       (.seq
        (.reg [
          .op (some 2) (.mv (.const (.int .i64 2)))])
       .ret)
       (.seq
        (.reg [
          .op (some 13) (.mv (.tmp 0)),
          .op (some 14) (.bin .leq (.const (.int .i32 55296)) (.tmp 13)),
          .op (some 15) (.mv (.tmp 14)),
          .gd (some 15) true (some 16) (.mv (.tmp 0)),
          .gd (some 15) true (some 17) (.bin .leq (.tmp 16) (.const (.int .i32 57343))),
          .op (some 18) (.pick (.tmp 15) (.tmp 17) (.const (.bool false))),
          .op (some 12) (.mv (.tmp 18))])
       (.cond (.tmp 12)
        (.seq
         (.reg [
           .op (some 2) (.mv (.const (.int .i64 (-1))))])
        .ret)
        (.seq
         (.reg [
           .op (some 20) (.mv (.tmp 0)),
           .op (some 21) (.bin .leq (.tmp 20) (.const (.int .i32 65535))),
           .op (some 19) (.mv (.tmp 21))])
        (.cond (.tmp 19)
         (.seq
          (.reg [
            .op (some 2) (.mv (.const (.int .i64 3)))])
         .ret)
         (.seq
          (.reg [
            .op (some 23) (.mv (.tmp 0)),
            .op (some 24) (.bin .leq (.tmp 23) (.const (.int .i32 1114111))),
            .op (some 22) (.mv (.tmp 24))])
         (.cond (.tmp 22)
          (.seq
           (.reg [
             .op (some 2) (.mv (.const (.int .i64 4)))])
          .ret)
          .skip)))))))))))))
  (.seq
   (.reg [
     .op (some 2) (.mv (.const (.int .i64 (-1))))])
  .ret)))
theorem s158 : FnOK Tryz.prog 158 25 [ResultVar.tmp 2] c158 :=
  .mk' [] Tryz.func158 (by kernel_rfl) (by kernel_rfl) (by kernel_rfl)
def c167 : MC :=
  (.seq
   (.reg [
     .op (some 4) (.mv (.const (.string ⟨⟨[]⟩⟩))),
     .op (some 5) (.mv (.const (.bool false)))])
  (.seq
   (.seq
    (.reg [
      .op (some 6) (.mv (.tmp 0)),
      .op (some 7) (.mv (.tmp 1)),
      .op (some 8) (.call (.func 124) [(.tmp 6), (.tmp 7)]),
      .op (some 9) (.un .not (.tmp 8))])
   (.cond (.tmp 9)
    (.seq
     (.reg [
       .op (some 10) (.mv (.tmp 0)),
       .op (some 4) (.mv (.tmp 10)),
       .op (some 5) (.mv (.const (.bool false)))])
    .ret)
    .skip))
  (.seq
   (.reg [
     .op (some 11) (.mv (.tmp 0)),
     .op (some 12) (.mv (.tmp 1)),
     .op (some 13) (.lenstr (.tmp 12)),
     .op (some 14) (.sstr (.tmp 11) (some (.tmp 13)) none),
     .op (some 4) (.mv (.tmp 14)),
     .op (some 5) (.mv (.const (.bool true)))])
  .ret)))
theorem s167 : FnOK Tryz.prog 167 15 [ResultVar.tmp 4, ResultVar.tmp 5] c167 :=
  .mk' [] Tryz.func167 (by kernel_rfl) (by kernel_rfl) (by kernel_rfl)
def c168 : MC :=
  (.seq
   (.reg [
     .op (some 2) (.box 9 (.tmp 0)),
     .op (some 4) (.alloc [.bool false] 4)])
  (.seq
   (.seq
    (.reg [
      .op (some 6) (.load false 1 (.tmp 2)),
      .op (some 7) (.mv (.tmp 1)),
      .op (some 8) (.bin .add (.tmp 6) (.tmp 7)),
      .op (some 9) (.call (.func 115) [(.tmp 8)])])
   (.block 0
    (.range (.tmp 9) [10]
     (.reg [
       .op (some 5) (.alloc [.int .i64 0, .int .i64 0, .int .i32 0, .bool false] 120),
       .op none (.store 4 (.tmp 5) (.tmp 10))])
     (.block 1
      (.seq
       (.reg [
         .op (some 11) (.faddr 0 (.tmp 5)),
         .op (some 12) (.load false 1 (.tmp 11)),
         .op (some 13) (.load false 1 (.tmp 2)),
         .op (some 14) (.lenstr (.tmp 13)),
         .op (some 15) (.bin .lss (.tmp 12) (.tmp 14)),
         .op (some 16) (.mv (.tmp 15)),
         .gd (some 16) true (some 17) (.faddr 0 (.tmp 5)),
         .gd (some 16) true (some 18) (.load false 1 (.tmp 17)),
         .gd (some 16) true (some 19) (.faddr 1 (.tmp 5)),
         .gd (some 16) true (some 20) (.load false 1 (.tmp 19)),
         .gd (some 16) true (some 21) (.bin .add (.tmp 18) (.tmp 20)),
         .gd (some 16) true (some 22) (.load false 1 (.tmp 2)),
         .gd (some 16) true (some 23) (.lenstr (.tmp 22)),
         .gd (some 16) true (some 24) (.bin .gtr (.tmp 21) (.tmp 23)),
         .op (some 25) (.pick (.tmp 16) (.tmp 24) (.const (.bool false)))])
      (.cond (.tmp 25)
       (.seq
        (.reg [
          .op none (.store 1 (.tmp 4) (.const (.bool true)))])
       .ret)
       .skip))))))
  (.seq
   (.reg [
     .op none (.store 1 (.tmp 4) (.const (.bool false)))])
  .ret)))
theorem s168 : FnOK Tryz.prog 168 26 [ResultVar.cell 4 4] c168 :=
  .mk' [] Tryz.func168 (by kernel_rfl) (by kernel_rfl) (by kernel_rfl)
def c171 : MC :=
  (.seq
   (.reg [
     .op (some 2) (.box 170 (.tmp 0)),
     .op (some 3) (.box 170 (.tmp 1)),
     .op (some 4) (.alloc [.int .u64 0, .int .u64 0] 170)])
  (.seq
   (.block 0
    (.loop
     (.seq
      (.seq
       (.reg [
         .op (some 7) (.load true 2 (.tmp 3)),
         .op (some 8) (.build [.int .u64 0, .int .u64 0] []),
         .op (some 9) (.eqs true [(0, .i), (1, .i)] (.tmp 7) (.tmp 8))])
      (.cond (.tmp 9)
       .skip
       (.exit 0)))
     (.block 1
      (.seq
       (.reg [
         .op (some 11) (.load true 2 (.tmp 2)),
         .op (some 12) (.load true 2 (.tmp 3)),
         .op (some 13) (.call (.func 172) [(.tmp 11), (.tmp 12)]),
         .op (some 10) (.mv (.tmp 13)),
         .op (some 14) (.ext (.tmp 10) 0),
         .op (some 15) (.ext (.tmp 10) 1),
         .op (some 5) (.alloc [.int .u64 0, .int .u64 0] 170),
         .op (some 6) (.alloc [.int .u64 0, .int .u64 0] 170),
         .op none (.store 2 (.tmp 5) (.tmp 14)),
         .op none (.store 2 (.tmp 6) (.tmp 15))])
      (.reg [
        .op (some 16) (.load true 2 (.tmp 3)),
        .op (some 17) (.load true 2 (.tmp 6)),
        .op none (.store 2 (.tmp 2) (.tmp 16)),
        .ck false none (some 17) (.load true 2 (.tmp 6)),
        .op none (.store 2 (.tmp 3) (.tmp 17))]))))))
  (.seq
   (.reg [
     .op (some 18) (.load true 2 (.tmp 2)),
     .op none (.store 2 (.tmp 4) (.tmp 18))])
  .ret)))
theorem s171 : FnOK Tryz.prog 171 19 [ResultVar.cell 4 170] c171 :=
  .mk' [(3, [], [(0, []), (1, []), (2, [1]), (3, [])])] Tryz.func171 (by kernel_rfl) (by kernel_rfl) (by kernel_rfl)
def c172 : MC :=
  (.seq
   (.reg [
     .op (some 2) (.box 170 (.tmp 0)),
     .op (some 3) (.box 170 (.tmp 1)),
     .op (some 4) (.alloc [.int .u64 0, .int .u64 0] 170),
     .op (some 5) (.alloc [.int .u64 0, .int .u64 0] 170)])
  (.seq
   (.seq
    (.reg [
      .op (some 8) (.faddr 0 (.tmp 3)),
      .op (some 9) (.load false 1 (.tmp 8)),
      .op (some 10) (.bin .eql (.tmp 9) (.const (.int .u64 0)))])
   (.cond (.tmp 10)
    (.seq
     (.reg [
       .op (some 11) (.faddr 0 (.tmp 2)),
       .op (some 12) (.load false 1 (.tmp 11)),
       .op (some 13) (.faddr 1 (.tmp 3)),
       .op (some 14) (.load false 1 (.tmp 13)),
       .op (some 15) (.bin .quo (.tmp 12) (.tmp 14)),
       .op (some 16) (.faddr 0 (.tmp 2)),
       .op (some 17) (.load false 1 (.tmp 16)),
       .op (some 18) (.faddr 1 (.tmp 3)),
       .op (some 19) (.load false 1 (.tmp 18)),
       .op (some 20) (.bin .rem (.tmp 17) (.tmp 19)),
       .op (some 21) (.faddr 0 (.tmp 4)),
       .op none (.store 1 (.tmp 21) (.tmp 15)),
       .ck false none (some 19) (.load false 1 (.tmp 18)),
       .ck false none (some 17) (.load false 1 (.tmp 16)),
       .op (some 22) (.faddr 1 (.tmp 5)),
       .op none (.store 1 (.tmp 22) (.tmp 20))])
    (.seq
     (.reg [
       .op (some 24) (.faddr 1 (.tmp 5)),
       .op (some 25) (.load false 1 (.tmp 24)),
       .op (some 26) (.faddr 1 (.tmp 2)),
       .op (some 27) (.load false 1 (.tmp 26)),
       .op (some 28) (.faddr 1 (.tmp 3)),
       .op (some 29) (.load false 1 (.tmp 28)),
       .op (some 30) (.call (.func 193) [(.tmp 25), (.tmp 27), (.tmp 29)]),
       .op (some 23) (.mv (.tmp 30)),
       .op (some 31) (.ext (.tmp 23) 0),
       .op (some 32) (.ext (.tmp 23) 1),
       .op (some 33) (.faddr 1 (.tmp 4)),
       .op none (.store 1 (.tmp 33) (.tmp 31)),
       .op (some 34) (.faddr 1 (.tmp 5)),
       .op none (.store 1 (.tmp 34) (.tmp 32))])
    (.seq
     (.reg [
       .op (some 35) (.load true 2 (.tmp 4)),
       .op (some 36) (.load true 2 (.tmp 5)),
       .op none (.store 2 (.tmp 4) (.tmp 35)),
       .ck false none (some 36) (.load true 2 (.tmp 5)),
       .op none (.store 2 (.tmp 5) (.tmp 36))])
    .ret)))
    .skip))
  (.seq
   (.seq
    (.reg [
      .op (some 6) (.mv (.const (.int .i64 127)))])
   (.block 0
    (.loop
     (.seq
      (.seq
       (.reg [
         .op (some 37) (.mv (.tmp 6)),
         .op (some 38) (.bin .geq (.tmp 37) (.const (.int .i64 0)))])
      (.cond (.tmp 38)
       .skip
       (.exit 0)))
     (.seq
      (.block 1
       (.seq
        (.reg [
          .op (some 41) (.faddr 0 (.tmp 2)),
          .op (some 42) (.load false 1 (.tmp 41)),
          .op (some 43) (.mv (.tmp 6)),
          .op (some 44) (.bin .and (.tmp 43) (.const (.int .i64 63))),
          .op (some 45) (.bin .shr (.tmp 42) (.tmp 44)),
          .op (some 46) (.bin .and (.tmp 45) (.const (.int .u64 1))),
          .op (some 7) (.mv (.tmp 46))])
       (.seq
        (.seq
         (.reg [
           .op (some 47) (.mv (.tmp 6)),
           .op (some 48) (.bin .lss (.tmp 47) (.const (.int .i64 64)))])
        (.cond (.tmp 48)
         (.reg [
           .op (some 49) (.faddr 1 (.tmp 2)),
           .op (some 50) (.load false 1 (.tmp 49)),
           .op (some 51) (.mv (.tmp 6)),
           .op (some 52) (.bin .shr (.tmp 50) (.tmp 51)),
           .op (some 53) (.bin .and (.tmp 52) (.const (.int .u64 1))),
           .op (some 7) (.mv (.tmp 53))])
         .skip))
       (.seq
        (.reg [
          .op (some 54) (.faddr 0 (.tmp 5)),
          .op (some 55) (.load false 1 (.tmp 54)),
          .op (some 56) (.bin .shl (.tmp 55) (.const (.int .u64 1))),
          .op (some 57) (.faddr 1 (.tmp 5)),
          .op (some 58) (.load false 1 (.tmp 57)),
          .op (some 59) (.bin .shr (.tmp 58) (.const (.int .u64 63))),
          .op (some 60) (.bin .or (.tmp 56) (.tmp 59)),
          .op (some 61) (.faddr 1 (.tmp 5)),
          .op (some 62) (.load false 1 (.tmp 61)),
          .op (some 63) (.bin .shl (.tmp 62) (.const (.int .u64 1))),
          .op (some 64) (.mv (.tmp 7)),
          .op (some 65) (.bin .or (.tmp 63) (.tmp 64)),
          .op (some 66) (.build [.int .u64 0, .int .u64 0] [(0, 1, (.tmp 60)), (1, 1, (.tmp 65))]),
          .op none (.store 2 (.tmp 5) (.tmp 66))])
       (.seq
        (.reg [
          .op (some 67) (.faddr 0 (.tmp 4)),
          .op (some 68) (.load false 1 (.tmp 67)),
          .op (some 69) (.bin .shl (.tmp 68) (.const (.int .u64 1))),
          .op (some 70) (.faddr 1 (.tmp 4)),
          .op (some 71) (.load false 1 (.tmp 70)),
          .op (some 72) (.bin .shr (.tmp 71) (.const (.int .u64 63))),
          .op (some 73) (.bin .or (.tmp 69) (.tmp 72)),
          .op (some 74) (.faddr 1 (.tmp 4)),
          .op (some 75) (.load false 1 (.tmp 74)),
          .op (some 76) (.bin .shl (.tmp 75) (.const (.int .u64 1))),
          .op (some 77) (.build [.int .u64 0, .int .u64 0] [(0, 1, (.tmp 73)), (1, 1, (.tmp 76))]),
          .op none (.store 2 (.tmp 4) (.tmp 77))])
       (.seq
        (.reg [
          .op (some 78) (.load true 2 (.tmp 5)),
          .op (some 79) (.load true 2 (.tmp 3)),
          .op (some 80) (.call (.func 96) [(.tmp 78), (.tmp 79)]),
          .op (some 81) (.bin .geq (.tmp 80) (.const (.int .i64 0)))])
       (.cond (.tmp 81)
        (.seq
         (.reg [
           .op (some 82) (.load true 2 (.tmp 5)),
           .op (some 83) (.load true 2 (.tmp 3)),
           .op (some 84) (.call (.func 176) [(.tmp 82), (.tmp 83)]),
           .op none (.store 2 (.tmp 5) (.tmp 84))])
        (.reg [
          .op (some 85) (.faddr 1 (.tmp 4)),
          .op (some 86) (.load false 1 (.tmp 85)),
          .op (some 87) (.bin .or (.tmp 86) (.const (.int .u64 1))),
          .op (some 88) (.faddr 1 (.tmp 4)),
          .op none (.store 1 (.tmp 88) (.tmp 87))]))
        .skip)))))))
     (.reg [
       .op (some 39) (.mv (.tmp 6)),
       .op (some 40) (.bin .sub (.tmp 39) (.const (.int .i64 1))),
       .op (some 6) (.mv (.tmp 40))]))))))
  (.seq
   (.reg [
     .op (some 89) (.load true 2 (.tmp 4)),
     .op (some 90) (.load true 2 (.tmp 5)),
     .op none (.store 2 (.tmp 4) (.tmp 89)),
     .ck false none (some 90) (.load true 2 (.tmp 5)),
     .op none (.store 2 (.tmp 5) (.tmp 90))])
  .ret))))
theorem s172 : FnOK Tryz.prog 172 91 [ResultVar.cell 4 170, ResultVar.cell 5 170] c172 :=
  .mk' [(2, [], [(0, []), (1, []), (2, []), (3, []), (4, []), (5, []), (6, []), (7, []), (8, []), (9, []), (10, []), (11, [8, 6]), (12, []), (13, [])]), (4, [], [(0, []), (1, []), (2, [1]), (3, [])]), (16, [], [(0, []), (1, []), (2, [1]), (3, [])])] Tryz.func172 (by kernel_rfl) (by kernel_rfl) (by kernel_rfl)
def c173 : MC :=
  (.seq
   (.reg [
     .op (some 3) (.box 38 (.tmp 0)),
     .op (some 4) (.box 38 (.tmp 1)),
     .op (some 6) (.alloc [.int .i64 0, .int .i64 0] 38),
     .op (some 7) (.mv (.const (.int .i64 0)))])
  (.seq
   (.block 0
    (.seq
     (.reg [
       .op (some 11) (.load true 2 (.tmp 3)),
       .op (some 12) (.load true 2 (.tmp 4)),
       .op (some 13) (.bslice 38 2 [.int .i64 0, .int .i64 0, .int .i64 0, .int .i64 0] [(0, 2, (.tmp 11)), (2, 2, (.tmp 12))]),
       .op (some 14) (.call (.func 174) [(.tmp 13)]),
       .op (some 15) (.un .not (.tmp 14)),
       .op (some 10) (.mv (.tmp 15))])
    (.cond (.tmp 10)
     (.seq
      (.reg [
        .op (some 16) (.build [.int .i64 0, .int .i64 0] []),
        .op none (.store 2 (.tmp 6) (.tmp 16)),
        .op (some 7) (.mv (.const (.int .i64 12)))])
     .ret)
     (.seq
      (.reg [
        .op (some 18) (.faddr 0 (.tmp 4)),
        .op (some 19) (.load false 1 (.tmp 18)),
        .op (some 20) (.bin .leq (.tmp 19) (.const (.int .i64 0))),
        .op (some 17) (.mv (.tmp 20))])
     (.cond (.tmp 17)
      (.seq
       (.reg [
         .op (some 21) (.build [.int .i64 0, .int .i64 0] []),
         .op none (.store 2 (.tmp 6) (.tmp 21)),
         .op (some 7) (.mv (.const (.int .i64 11)))])
      .ret)
      .skip)))))
  (.seq
   (.reg [
     .op (some 23) (.load true 2 (.tmp 3)),
     .op (some 24) (.load true 2 (.tmp 4)),
     .op (some 25) (.call (.func 194) [(.tmp 23), (.tmp 24)]),
     .op (some 26) (.mv (.tmp 2)),
     .op (some 27) (.call (.func 195) [(.tmp 25), (.tmp 26)]),
     .op (some 22) (.mv (.tmp 27)),
     .op (some 28) (.ext (.tmp 22) 0),
     .op (some 29) (.ext (.tmp 22) 1),
     .op (some 8) (.mv (.tmp 28)),
     .op (some 9) (.mv (.tmp 29))])
  (.seq
   (.seq
    (.reg [
      .op (some 30) (.mv (.tmp 9)),
      .op (some 31) (.bin .neq (.tmp 30) (.const (.int .i64 0)))])
   (.cond (.tmp 31)
    (.seq
     (.reg [
       .op (some 32) (.build [.int .i64 0, .int .i64 0] []),
       .op (some 33) (.mv (.tmp 9)),
       .op none (.store 2 (.tmp 6) (.tmp 32)),
       .op (some 7) (.mv (.tmp 33))])
    .ret)
    .skip))
  (.seq
   (.reg [
     .op (some 34) (.mv (.tmp 8)),
     .op (some 35) (.build [.int .i64 0, .int .i64 0] [(0, 1, (.tmp 34)), (1, 1, (.const (.int .i64 1)))]),
     .op (some 36) (.load true 2 (.tmp 4)),
     .op (some 37) (.call (.func 196) [(.tmp 35), (.tmp 36)]),
     .op (some 38) (.ext (.tmp 37) 0),
     .op (some 39) (.ext (.tmp 37) 1),
     .op none (.store 2 (.tmp 6) (.tmp 38)),
     .op (some 7) (.mv (.tmp 39))])
  .ret)))))
theorem s173 : FnOK Tryz.prog 173 40 [ResultVar.cell 6 38, ResultVar.tmp 7] c173 :=
  .mk' [] Tryz.func173 (by kernel_rfl) (by kernel_rfl) (by kernel_rfl)
def c174 : MC :=
  (.seq
   (.reg [
     .op (some 2) (.mv (.const (.bool false)))])
  (.seq
   (.seq
    (.reg [
      .op (some 5) (.mv (.tmp 0)),
      .op (some 6) (.lensl (.tmp 5)),
      .op (some 7) (.mv (.const (.int .i64 0)))])
   (.block 0
    (.loop
     (.seq
      (.reg [
        .op (some 8) (.bin .lss (.tmp 7) (.tmp 6))])
     (.seq
      (.cond (.tmp 8)
       .skip
       (.exit 0))
     (.seq
      (.block 1
       (.seq
        (.reg [
          .op (some 9) (.ias 2 (.tmp 5) (.tmp 7)),
          .op (some 10) (.load true 2 (.tmp 9)),
          .op (some 4) (.alloc [.int .i64 0, .int .i64 0] 38),
          .op none (.store 2 (.tmp 4) (.tmp 10))])
       (.seq
        (.reg [
          .op (some 11) (.load true 2 (.tmp 4)),
          .op (some 12) (.call (.func 45) [(.tmp 11)]),
          .op (some 13) (.un .not (.tmp 12))])
       (.cond (.tmp 13)
        (.seq
         (.reg [
           .op (some 2) (.mv (.const (.bool false)))])
        .ret)
        .skip))))
     (.reg [
       .op (some 14) (.bin .add (.tmp 7) (.const (.int .i64 1))),
       .op (some 7) (.mv (.tmp 14))])))))))
  (.seq
   (.reg [
     .op (some 2) (.mv (.const (.bool true)))])
  .ret)))
theorem s174 : FnOK Tryz.prog 174 15 [ResultVar.tmp 2] c174 :=
  .mk' [] Tryz.func174 (by kernel_rfl) (by kernel_rfl) (by kernel_rfl)
def c175 : MC :=
  (.seq
   (.reg [
     .op (some 2) (.box 170 (.tmp 0)),
     .op (some 3) (.box 170 (.tmp 1)),
     .op (some 4) (.alloc [.int .u64 0, .int .u64 0] 170)])
  (.seq
   (.reg [
     .op (some 10) (.faddr 1 (.tmp 2)),
     .op (some 11) (.load false 1 (.tmp 10)),
     .op (some 12) (.faddr 1 (.tmp 3)),
     .op (some 13) (.load false 1 (.tmp 12)),
     .op (some 14) (.call (.func 197) [(.tmp 11), (.tmp 13), (.const (.int .u64 0))]),
     .op (some 9) (.mv (.tmp 14)),
     .op (some 15) (.ext (.tmp 9) 0),
     .op (some 16) (.ext (.tmp 9) 1),
     .op (some 5) (.mv (.tmp 15)),
     .op (some 6) (.mv (.tmp 16))])
  (.seq
   (.reg [
     .op (some 18) (.faddr 0 (.tmp 2)),
     .op (some 19) (.load false 1 (.tmp 18)),
     .op (some 20) (.faddr 0 (.tmp 3)),
     .op (some 21) (.load false 1 (.tmp 20)),
     .op (some 22) (.mv (.tmp 6)),
     .op (some 23) (.call (.func 197) [(.tmp 19), (.tmp 21), (.tmp 22)]),
     .op (some 17) (.mv (.tmp 23)),
     .op (some 24) (.ext (.tmp 17) 0),
     .op (some 25) (.ext (.tmp 17) 1),
     .op (some 7) (.mv (.tmp 24)),
     .op (some 8) (.mv (.tmp 25))])
  (.seq
   (.reg [
     .op (some 26) (.mv (.tmp 7)),
     .op (some 27) (.mv (.tmp 5)),
     .op (some 28) (.build [.int .u64 0, .int .u64 0] [(0, 1, (.tmp 26)), (1, 1, (.tmp 27))]),
     .op none (.store 2 (.tmp 4) (.tmp 28))])
  .ret))))
theorem s175 : FnOK Tryz.prog 175 29 [ResultVar.cell 4 170] c175 :=
  .mk' [] Tryz.func175 (by kernel_rfl) (by kernel_rfl) (by kernel_rfl)
def c177 : MC :=
  (.seq
   (.reg [
     .op (some 2) (.mv (.const (.slice none 0 0)))])
  (.seq
   (.reg [
     .op (some 13) (.mv (.tmp 0)),
     .op (some 14) (.lensl (.tmp 13)),
     .op (some 15) (.bin .add (.tmp 14) (.const (.int .i64 1))),
     .op (some 16) (.mkslice 4 1 [.bool false] (.tmp 15) (.tmp 15)),
     .op (some 3) (.mv (.tmp 16))])
  (.seq
   (.reg [
     .op (some 4) (.mv (.const (.slice none 0 0)))])
  (.seq
   (.seq
    (.reg [
      .op (some 5) (.mv (.const (.int .i64 1)))])
   (.block 0
    (.loop
     (.seq
      (.seq
       (.reg [
         .op (some 17) (.mv (.tmp 5)),
         .op (some 18) (.bin .leq (.tmp 17) (.const (.int .i64 5)))])
      (.cond (.tmp 18)
       .skip
       (.exit 0)))
     (.seq
      (.block 1
       (.seq
        (.reg [
          .op (some 21) (.mv (.tmp 4)),
          .op (some 22) (.lensl (.tmp 21)),
          .op (some 6) (.mv (.tmp 22))])
       (.seq
        (.seq
         (.reg [
           .op (some 7) (.mv (.const (.int .i64 0)))])
        (.block 2
         (.loop
          (.seq
           (.seq
            (.reg [
              .op (some 23) (.mv (.tmp 7)),
              .op (some 24) (.mv (.tmp 0)),
              .op (some 25) (.lensl (.tmp 24)),
              .op (some 26) (.bin .lss (.tmp 23) (.tmp 25))])
           (.cond (.tmp 26)
            .skip
            (.exit 2)))
          (.block 3
           (.seq
            (.reg [
              .op (some 27) (.mv (.tmp 0)),
              .op (some 28) (.mv (.tmp 7)),
              .op (some 29) (.ias 5 (.tmp 27) (.tmp 28)),
              .op (some 30) (.load true 5 (.tmp 29)),
              .op (some 31) (.mv (.tmp 5)),
              .op (some 32) (.call (.func 199) [(.tmp 30), (.tmp 31)]),
              .op (some 8) (.mv (.tmp 32))])
           (.seq
            (.reg [
              .op (some 33) (.mv (.tmp 7)),
              .op (some 34) (.bin .add (.tmp 33) (.const (.int .i64 1))),
              .op (some 9) (.mv (.tmp 34))])
           (.seq
            (.block 4
             (.loop
              (.seq
               (.seq
                (.reg [
                  .op (some 35) (.mv (.tmp 9)),
                  .op (some 36) (.mv (.tmp 0)),
                  .op (some 37) (.lensl (.tmp 36)),
                  .op (some 38) (.bin .lss (.tmp 35) (.tmp 37)),
                  .op (some 39) (.mv (.tmp 38)),
                  .gd (some 39) true (some 40) (.mv (.tmp 0)),
                  .gd (some 39) true (some 41) (.mv (.tmp 9)),
                  .gd (some 39) true (some 42) (.ias 5 (.tmp 40) (.tmp 41)),
                  .gd (some 39) true (some 43) (.load true 5 (.tmp 42)),
                  .gd (some 39) true (some 44) (.mv (.tmp 5)),
                  .gd (some 39) true (some 45) (.call (.func 199) [(.tmp 43), (.tmp 44)]),
                  .gd (some 39) true (some 46) (.mv (.tmp 8)),
                  .gd (some 39) true (some 47) (.bin .eql (.tmp 45) (.tmp 46)),
                  .op (some 48) (.pick (.tmp 39) (.tmp 47) (.const (.bool false))),
                  .op (some 49) (.mv (.tmp 48)),
                  .gd (some 49) true (some 50) (.mv (.tmp 3)),
                  .gd (some 49) true (some 51) (.mv (.tmp 9)),
                  .gd (some 49) true (some 52) (.ias 1 (.tmp 50) (.tmp 51)),
                  .gd (some 49) true (some 53) (.load false 1 (.tmp 52)),
                  .gd (some 49) true (some 54) (.un .not (.tmp 53)),
                  .op (some 55) (.pick (.tmp 49) (.tmp 54) (.const (.bool false)))])
               (.cond (.tmp 55)
                .skip
                (.exit 4)))
              (.block 5
               (.reg [
                 .op (some 56) (.mv (.tmp 9)),
                 .op (some 57) (.bin .add (.tmp 56) (.const (.int .i64 1))),
                 .op (some 9) (.mv (.tmp 57))])))))
           (.seq
            (.seq
             (.reg [
               .op (some 58) (.mv (.tmp 8)),
               .op (some 59) (.bin .neq (.tmp 58) (.const (.int .i64 0)))])
            (.cond (.tmp 59)
             (.seq
              (.reg [
                .op (some 60) (.mv (.tmp 7)),
                .op (some 61) (.mv (.tmp 9)),
                .op (some 62) (.mv (.tmp 5)),
                .op (some 63) (.build [.int .i64 0, .int .i64 0, .int .i64 0, .int .i64 0] [(0, 1, (.tmp 60)), (1, 1, (.tmp 61)), (2, 1, (.tmp 62))]),
                .op (some 10) (.alloc [.int .i64 0, .int .i64 0, .int .i64 0, .int .i64 0] 108),
                .op none (.store 4 (.tmp 10) (.tmp 63))])
             (.seq
              (.seq
               (.reg [
                 .op (some 64) (.mv (.tmp 5)),
                 .op (some 65) (.bin .eql (.tmp 64) (.const (.int .i64 5)))])
              (.cond (.tmp 65)
               (.reg [
                 .op (some 66) (.mv (.tmp 8)),
                 .op (some 67) (.bin .sub (.tmp 66) (.const (.int .i64 1))),
                 .op (some 68) (.faddr 3 (.tmp 10)),
                 .op none (.store 1 (.tmp 68) (.tmp 67))])
               .skip))
             (.reg [
               .op (some 69) (.mv (.tmp 4)),
               .op (some 70) (.load true 4 (.tmp 10)),
               .op (some 71) (.bslice 108 1 [.int .i64 0, .int .i64 0, .int .i64 0, .int .i64 0] [(0, 4, (.tmp 70))]),
               .op (some 72) (.app 108 4 32 (.tmp 69) (.tmp 71)),
               .op (some 4) (.mv (.tmp 72))])))
             .skip))
           (.reg [
             .op (some 73) (.mv (.tmp 9)),
             .op (some 7) (.mv (.tmp 73))]))))))))))
       (.seq
        (.reg [
          .op (some 74) (.mv (.tmp 4)),
          .op (some 75) (.mv (.tmp 6)),
          .op (some 76) (.ssl 108 4 (.tmp 74) (some (.tmp 75)) none none),
          .op (some 77) (.lensl (.tmp 76)),
          .op (some 78) (.mv (.const (.int .i64 0)))])
       (.block 6
        (.loop
         (.seq
          (.reg [
            .op (some 79) (.bin .lss (.tmp 78) (.tmp 77))])
         (.seq
          (.cond (.tmp 79)
           .skip
           (.exit 6))
         (.seq
          (.block 7
           (.seq
            (.reg [
              .op (some 80) (.ias 4 (.tmp 76) (.tmp 78)),
              .op (some 81) (.load true 4 (.tmp 80)),
              .op (some 12) (.alloc [.int .i64 0, .int .i64 0, .int .i64 0, .int .i64 0] 108),
              .op none (.store 4 (.tmp 12) (.tmp 81))])
           (.reg [
             .op (some 82) (.mv (.tmp 3)),
             .op (some 83) (.faddr 0 (.tmp 12)),
             .op (some 84) (.load false 1 (.tmp 83)),
             .op (some 85) (.mv (.tmp 3)),
             .op (some 86) (.faddr 1 (.tmp 12)),
             .op (some 87) (.load false 1 (.tmp 86)),
             .op (some 88) (.ias 1 (.tmp 82) (.tmp 84)),
             .op none (.store 1 (.tmp 88) (.const (.bool true))),
             .ck false none (some 87) (.load false 1 (.tmp 86)),
             .op (some 89) (.ias 1 (.tmp 85) (.tmp 87)),
             .op none (.store 1 (.tmp 89) (.const (.bool true)))])))
         (.reg [
           .op (some 90) (.bin .add (.tmp 78) (.const (.int .i64 1))),
           .op (some 78) (.mv (.tmp 90))]))))))))))
     (.reg [
       .op (some 19) (.mv (.tmp 5)),
       .op (some 20) (.bin .add (.tmp 19) (.const (.int .i64 1))),
       .op (some 5) (.mv (.tmp 20))]))))))
  (.seq
   (.reg [
     .op (some 91) (.mv (.tmp 4)),
     .op (some 92) (.call (.func 183) [(.tmp 91), (.func 200)])])
  (.seq
   (.reg [
     .op (some 93) (.mv (.tmp 4)),
     .op (some 2) (.mv (.tmp 93))])
  .ret))))))
theorem s177 : FnOK Tryz.prog 177 94 [ResultVar.tmp 2] c177 :=
  .mk' [(22, [], [(0, []), (1, []), (2, []), (3, []), (4, []), (5, []), (6, []), (7, [5]), (8, []), (9, [])])] Tryz.func177 (by kernel_rfl) (by kernel_rfl) (by kernel_rfl)
def c178 : MC :=
  (.seq
   (.reg [
     .op (some 10) (.mv (.tmp 1)),
     .op (some 11) (.bin .add (.tmp 10) (.const (.int .i64 1))),
     .op (some 8) (.mv (.tmp 11))])
  (.block 0
   (.loop
    (.seq
     (.seq
      (.reg [
        .op (some 12) (.mv (.tmp 8)),
        .op (some 13) (.mv (.tmp 2)),
        .op (some 14) (.bin .lss (.tmp 12) (.tmp 13))])
     (.cond (.tmp 14)
      .skip
      (.exit 0)))
    (.seq
     (.block 1
      (.seq
       (.reg [
         .op (some 17) (.mv (.tmp 8)),
         .op (some 9) (.mv (.tmp 17))])
      (.block 2
       (.loop
        (.seq
         (.seq
          (.reg [
            .op (some 18) (.mv (.tmp 9)),
            .op (some 19) (.mv (.tmp 1)),
            .op (some 20) (.bin .gtr (.tmp 18) (.tmp 19)),
            .op (some 21) (.mv (.tmp 20)),
            .gd (some 21) true (some 22) (.mv (.tmp 3)),
            .gd (some 21) true (some 23) (.mv (.tmp 0)),
            .gd (some 21) true (some 24) (.mv (.tmp 9)),
            .gd (some 21) true (some 25) (.ias 9 (.tmp 23) (.tmp 24)),
            .gd (some 21) true (some 26) (.load true 9 (.tmp 25)),
            .gd (some 21) true (some 27) (.mv (.tmp 0)),
            .gd (some 21) true (some 28) (.mv (.tmp 9)),
            .gd (some 21) true (some 29) (.bin .sub (.tmp 28) (.const (.int .i64 1))),
            .gd (some 21) true (some 30) (.ias 9 (.tmp 27) (.tmp 29)),
            .gd (some 21) true (some 31) (.load true 9 (.tmp 30)),
            .gd (some 21) true (some 32) (.call (.tmp 22) [(.tmp 26), (.tmp 31)]),
            .gd (some 21) true (some 33) (.bin .lss (.tmp 32) (.const (.int .i64 0))),
            .op (some 34) (.pick (.tmp 21) (.tmp 33) (.const (.bool false)))])
         (.cond (.tmp 34)
          .skip
          (.exit 2)))
        (.seq
         (.block 3
          (.reg [
            .op (some 37) (.mv (.tmp 0)),
            .op (some 38) (.mv (.tmp 9)),
            .op (some 39) (.mv (.tmp 0)),
            .op (some 40) (.mv (.tmp 9)),
            .op (some 41) (.bin .sub (.tmp 40) (.const (.int .i64 1))),
            .op (some 42) (.mv (.tmp 0)),
            .op (some 43) (.mv (.tmp 9)),
            .op (some 44) (.bin .sub (.tmp 43) (.const (.int .i64 1))),
            .op (some 45) (.ias 9 (.tmp 42) (.tmp 44)),
            .op (some 46) (.load true 9 (.tmp 45)),
            .op (some 47) (.mv (.tmp 0)),
            .op (some 48) (.mv (.tmp 9)),
            .op (some 49) (.ias 9 (.tmp 47) (.tmp 48)),
            .op (some 50) (.load true 9 (.tmp 49)),
            .op (some 51) (.ias 9 (.tmp 37) (.tmp 38)),
            .op none (.store 9 (.tmp 51) (.tmp 46)),
            .op (some 52) (.ias 9 (.tmp 39) (.tmp 41)),
            .op none (.store 9 (.tmp 52) (.tmp 50))]))
        (.reg [
          .op (some 35) (.mv (.tmp 9)),
          .op (some 36) (.bin .sub (.tmp 35) (.const (.int .i64 1))),
          .op (some 9) (.mv (.tmp 36))])))))))
    (.reg [
      .op (some 15) (.mv (.tmp 8)),
      .op (some 16) (.bin .add (.tmp 15) (.const (.int .i64 1))),
      .op (some 8) (.mv (.tmp 16))]))))))
theorem s178 : FnOK Tryz.prog 178 53 [] c178 :=
  .mk' [(4, [], [(0, []), (1, []), (2, []), (3, []), (4, []), (5, []), (6, []), (7, []), (8, []), (9, []), (10, []), (11, []), (12, []), (13, []), (14, []), (15, []), (16, [])]), (6, [], [(0, []), (1, []), (2, []), (3, []), (4, []), (5, []), (6, []), (7, []), (8, []), (9, []), (10, []), (11, []), (12, []), (13, []), (14, []), (15, []), (16, []), (17, [])])] Tryz.func178 (by kernel_rfl) (by kernel_rfl) (by kernel_rfl)
def c182 : MC :=
  (.seq
   (.reg [
     .op (some 2) (.mv (.const (.slice none 0 0)))])
  (.seq
   (.seq
    (.reg [
      .op (some 3) (.mv (.tmp 0)),
      .op (some 4) (.eqk false .sl (.tmp 3) (.const (.slice none 0 0)))])
   (.cond (.tmp 4)
    (.seq
     (.reg [
       .op (some 2) (.mv (.const (.slice none 0 0)))])
    .ret)
    .skip))
  (.seq
   (.reg [
     .op (some 5) (.bslice 108 0 [] []),
     .op (some 6) (.mv (.tmp 0)),
     .op (some 7) (.app 108 4 32 (.tmp 5) (.tmp 6)),
     .op (some 2) (.mv (.tmp 7))])
  .ret)))
theorem s182 : FnOK Tryz.prog 182 8 [ResultVar.tmp 2] c182 :=
  .mk' [] Tryz.func182 (by kernel_rfl) (by kernel_rfl) (by kernel_rfl)
def c183 : MC :=
  (.reg [
    .op (some 4) (.mv (.tmp 0)),
    .op (some 5) (.mv (.tmp 0)),
    .op (some 6) (.lensl (.tmp 5)),
    .op (some 7) (.mv (.tmp 1)),
    .op (some 8) (.call (.func 202) [(.tmp 4), (.tmp 6), (.tmp 7)])])
theorem s183 : FnOK Tryz.prog 183 9 [] c183 :=
  .mk' [] Tryz.func183 (by kernel_rfl) (by kernel_rfl) (by kernel_rfl)
def c193 : MC :=
  (.seq
   (.reg [
     .op (some 6) (.mv (.const (.int .u64 0))),
     .op (some 7) (.mv (.const (.int .u64 0)))])
  (.seq
   (.seq
    (.reg [
      .op (some 19) (.mv (.tmp 2)),
      .op (some 20) (.bin .eql (.tmp 19) (.const (.int .u64 0)))])
   (.cond (.tmp 20)
    (.reg [
      .op (some 21) (.load false 1 (.global 4)),
      .op none (.gen (.panic (.tmp 21)))])
    .skip))
  (.seq
   (.seq
    (.reg [
      .op (some 22) (.mv (.tmp 2)),
      .op (some 23) (.mv (.tmp 0)),
      .op (some 24) (.bin .leq (.tmp 22) (.tmp 23))])
   (.cond (.tmp 24)
    (.reg [
      .op (some 25) (.load false 1 (.global 5)),
      .op none (.gen (.panic (.tmp 25)))])
    .skip))
  (.seq
   (.seq
    (.reg [
      .op (some 26) (.mv (.tmp 0)),
      .op (some 27) (.bin .eql (.tmp 26) (.const (.int .u64 0)))])
   (.cond (.tmp 27)
    (.seq
     (.reg [
       .op (some 28) (.mv (.tmp 1)),
       .op (some 29) (.mv (.tmp 2)),
       .op (some 30) (.bin .quo (.tmp 28) (.tmp 29)),
       .op (some 31) (.mv (.tmp 1)),
       .op (some 32) (.mv (.tmp 2)),
       .op (some 33) (.bin .rem (.tmp 31) (.tmp 32)),
       .op (some 6) (.mv (.tmp 30)),
       .op (some 7) (.mv (.tmp 33))])
    .ret)
    .skip))
  (.seq
   (.reg [
     .op (some 34) (.mv (.tmp 2)),
     .op (some 35) (.call (.func 212) [(.tmp 34)]),
     .op (some 36) (.cint .u64 (.tmp 35)),
     .op (some 8) (.mv (.tmp 36))])
  (.seq
   (.reg [
     .op (some 37) (.mv (.tmp 2)),
     .op (some 38) (.mv (.tmp 8)),
     .op (some 39) (.bin .shl (.tmp 37) (.tmp 38)),
     .op (some 2) (.mv (.tmp 39))])
  (.seq
   (.reg [
     .op (some 40) (.mv (.tmp 2)),
     .op (some 41) (.bin .shr (.tmp 40) (.const (.int .u64 32))),
     .op (some 9) (.mv (.tmp 41))])
  (.seq
   (.reg [
     .op (some 42) (.mv (.tmp 2)),
     .op (some 43) (.bin .and (.tmp 42) (.const (.int .u64 4294967295))),
     .op (some 10) (.mv (.tmp 43))])
  (.seq
   (.reg [
     .op (some 44) (.mv (.tmp 0)),
     .op (some 45) (.mv (.tmp 8)),
     .op (some 46) (.bin .shl (.tmp 44) (.tmp 45)),
     .op (some 47) (.mv (.tmp 1)),
     .op (some 48) (.mv (.tmp 8)),
     .op (some 49) (.bin .sub (.const (.int .u64 64)) (.tmp 48)),
     .op (some 50) (.bin .shr (.tmp 47) (.tmp 49)),
     .op (some 51) (.bin .or (.tmp 46) (.tmp 50)),
     .op (some 11) (.mv (.tmp 51))])
  (.seq
   (.reg [
     .op (some 52) (.mv (.tmp 1)),
     .op (some 53) (.mv (.tmp 8)),
     .op (some 54) (.bin .shl (.tmp 52) (.tmp 53)),
     .op (some 12) (.mv (.tmp 54))])
  (.seq
   (.reg [
     .op (some 55) (.mv (.tmp 12)),
     .op (some 56) (.bin .shr (.tmp 55) (.const (.int .u64 32))),
     .op (some 13) (.mv (.tmp 56))])
  (.seq
   (.reg [
     .op (some 57) (.mv (.tmp 12)),
     .op (some 58) (.bin .and (.tmp 57) (.const (.int .u64 4294967295))),
     .op (some 14) (.mv (.tmp 58))])
  (.seq
   (.reg [
     .op (some 59) (.mv (.tmp 11)),
     .op (some 60) (.mv (.tmp 9)),
     .op (some 61) (.bin .quo (.tmp 59) (.tmp 60)),
     .op (some 15) (.mv (.tmp 61))])
  (.seq
   (.reg [
     .op (some 62) (.mv (.tmp 11)),
     .op (some 63) (.mv (.tmp 15)),
     .op (some 64) (.mv (.tmp 9)),
     .op (some 65) (.bin .mul (.tmp 63) (.tmp 64)),
     .op (some 66) (.bin .sub (.tmp 62) (.tmp 65)),
     .op (some 16) (.mv (.tmp 66))])
  (.seq
   (.block 0
    (.loop
     (.seq
      (.seq
       (.reg [
         .op (some 67) (.mv (.tmp 15)),
         .op (some 68) (.bin .geq (.tmp 67) (.const (.int .u64 4294967296))),
         .op (some 69) (.mv (.tmp 68)),
         .gd (some 69) false (some 70) (.mv (.tmp 15)),
         .gd (some 69) false (some 71) (.mv (.tmp 10)),
         .gd (some 69) false (some 72) (.bin .mul (.tmp 70) (.tmp 71)),
         .gd (some 69) false (some 73) (.mv (.tmp 16)),
         .gd (some 69) false (some 74) (.bin .mul (.const (.int .u64 4294967296)) (.tmp 73)),
         .gd (some 69) false (some 75) (.mv (.tmp 13)),
         .gd (some 69) false (some 76) (.bin .add (.tmp 74) (.tmp 75)),
         .gd (some 69) false (some 77) (.bin .gtr (.tmp 72) (.tmp 76)),
         .op (some 78) (.pick (.tmp 69) (.const (.bool true)) (.tmp 77))])
      (.cond (.tmp 78)
       .skip
       (.exit 0)))
     (.block 1
      (.seq
       (.reg [
         .op (some 79) (.mv (.tmp 15)),
         .op (some 80) (.bin .sub (.tmp 79) (.const (.int .u64 1))),
         .op (some 15) (.mv (.tmp 80))])
      (.seq
       (.reg [
         .op (some 81) (.mv (.tmp 16)),
         .op (some 82) (.mv (.tmp 9)),
         .op (some 83) (.bin .add (.tmp 81) (.tmp 82)),
         .op (some 16) (.mv (.tmp 83))])
      (.seq
       (.reg [
         .op (some 84) (.mv (.tmp 16)),
         .op (some 85) (.bin .geq (.tmp 84) (.const (.int .u64 4294967296)))])
      (.cond (.tmp 85)
       (.exit 0)
       .skip))))))))
  (.seq
   (.reg [
     .op (some 86) (.mv (.tmp 11)),
     .op (some 87) (.bin .mul (.tmp 86) (.const (.int .u64 4294967296))),
     .op (some 88) (.mv (.tmp 13)),
     .op (some 89) (.bin .add (.tmp 87) (.tmp 88)),
     .op (some 90) (.mv (.tmp 15)),
     .op (some 91) (.mv (.tmp 2)),
     .op (some 92) (.bin .mul (.tmp 90) (.tmp 91)),
     .op (some 93) (.bin .sub (.tmp 89) (.tmp 92)),
     .op (some 17) (.mv (.tmp 93))])
  (.seq
   (.reg [
     .op (some 94) (.mv (.tmp 17)),
     .op (some 95) (.mv (.tmp 9)),
     .op (some 96) (.bin .quo (.tmp 94) (.tmp 95)),
     .op (some 18) (.mv (.tmp 96))])
  (.seq
   (.reg [
     .op (some 97) (.mv (.tmp 17)),
     .op (some 98) (.mv (.tmp 18)),
     .op (some 99) (.mv (.tmp 9)),
     .op (some 100) (.bin .mul (.tmp 98) (.tmp 99)),
     .op (some 101) (.bin .sub (.tmp 97) (.tmp 100)),
     .op (some 16) (.mv (.tmp 101))])
  (.seq
   (.block 2
    (.loop
     (.seq
      (.seq
       (.reg [
         .op (some 102) (.mv (.tmp 18)),
         .op (some 103) (.bin .geq (.tmp 102) (.const (.int .u64 4294967296))),
         .op (some 104) (.mv (.tmp 103)),
         .gd (some 104) false (some 105) (.mv (.tmp 18)),
         .gd (some 104) false (some 106) (.mv (.tmp 10)),
         .gd (some 104) false (some 107) (.bin .mul (.tmp 105) (.tmp 106)),
         .gd (some 104) false (some 108) (.mv (.tmp 16)),
         .gd (some 104) false (some 109) (.bin .mul (.const (.int .u64 4294967296)) (.tmp 108)),
         .gd (some 104) false (some 110) (.mv (.tmp 14)),
         .gd (some 104) false (some 111) (.bin .add (.tmp 109) (.tmp 110)),
         .gd (some 104) false (some 112) (.bin .gtr (.tmp 107) (.tmp 111)),
         .op (some 113) (.pick (.tmp 104) (.const (.bool true)) (.tmp 112))])
      (.cond (.tmp 113)
       .skip
       (.exit 2)))
     (.block 3
      (.seq
       (.reg [
         .op (some 114) (.mv (.tmp 18)),
         .op (some 115) (.bin .sub (.tmp 114) (.const (.int .u64 1))),
         .op (some 18) (.mv (.tmp 115))])
      (.seq
       (.reg [
         .op (some 116) (.mv (.tmp 16)),
         .op (some 117) (.mv (.tmp 9)),
         .op (some 118) (.bin .add (.tmp 116) (.tmp 117)),
         .op (some 16) (.mv (.tmp 118))])
      (.seq
       (.reg [
         .op (some 119) (.mv (.tmp 16)),
         .op (some 120) (.bin .geq (.tmp 119) (.const (.int .u64 4294967296)))])
      (.cond (.tmp 120)
       (.exit 2)
       .skip))))))))
  (.seq
   (.reg [
     .op (some 121) (.mv (.tmp 15)),
     .op (some 122) (.bin .mul (.tmp 121) (.const (.int .u64 4294967296))),
     .op (some 123) (.mv (.tmp 18)),
     .op (some 124) (.bin .add (.tmp 122) (.tmp 123)),
     .op (some 125) (.mv (.tmp 17)),
     .op (some 126) (.bin .mul (.tmp 125) (.const (.int .u64 4294967296))),
     .op (some 127) (.mv (.tmp 14)),
     .op (some 128) (.bin .add (.tmp 126) (.tmp 127)),
     .op (some 129) (.mv (.tmp 18)),
     .op (some 130) (.mv (.tmp 2)),
     .op (some 131) (.bin .mul (.tmp 129) (.tmp 130)),
     .op (some 132) (.bin .sub (.tmp 128) (.tmp 131)),
     .op (some 133) (.mv (.tmp 8)),
     .op (some 134) (.bin .shr (.tmp 132) (.tmp 133)),
     .op (some 6) (.mv (.tmp 124)),
     .op (some 7) (.mv (.tmp 134))])
  .ret))))))))))))))))))))
theorem s193 : FnOK Tryz.prog 193 135 [ResultVar.tmp 6, ResultVar.tmp 7] c193 :=
  .mk' [(6, [], [(0, []), (1, []), (2, []), (3, []), (4, []), (5, []), (6, []), (7, [])])] Tryz.func193 (by kernel_rfl) (by kernel_rfl) (by kernel_rfl)
def c194 : MC :=
  (.seq
   (.reg [
     .op (some 2) (.box 38 (.tmp 0)),
     .op (some 3) (.box 38 (.tmp 1)),
     .op (some 4) (.alloc [.bool false, .int .u64 0, .int .u64 0, .int .u64 0, .int .u64 0] 225)])
  (.seq
   (.reg [
     .op (some 5) (.faddr 0 (.tmp 2)),
     .op (some 6) (.load false 1 (.tmp 5)),
     .op (some 7) (.bin .lss (.tmp 6) (.const (.int .i64 0))),
     .op (some 8) (.faddr 0 (.tmp 3)),
     .op (some 9) (.load false 1 (.tmp 8)),
     .op (some 10) (.bin .lss (.tmp 9) (.const (.int .i64 0))),
     .op (some 11) (.eqb true (.tmp 7) (.tmp 10)),
     .op (some 12) (.faddr 0 (.tmp 2)),
     .op (some 13) (.load false 1 (.tmp 12)),
     .op (some 15) (.faddr 1 (.tmp 3)),
     .op (some 16) (.load false 1 (.tmp 15)),
     .op (some 17) (.cint .u64 (.tmp 16)),
     .op (some 19) (.faddr 1 (.tmp 2)),
     .op (some 20) (.load false 1 (.tmp 19)),
     .op (some 21) (.cint .u64 (.tmp 20)),
     .op (some 22) (.faddr 0 (.tmp 3)),
     .op (some 23) (.load false 1 (.tmp 22)),
     .op (some 14) (.call (.func 95) [(.tmp 13)]),
     .ck false none (some 23) (.load false 1 (.tmp 22)),
     .ck false none (some 20) (.load false 1 (.tmp 19)),
     .ck false none (some 16) (.load false 1 (.tmp 15)),
     .ck false none (some 9) (.load false 1 (.tmp 8)),
     .ck false none (some 6) (.load false 1 (.tmp 5)),
     .op (some 18) (.call (.func 94) [(.tmp 14), (.tmp 17)]),
     .ck false none (some 23) (.load false 1 (.tmp 22)),
     .ck false none (some 20) (.load false 1 (.tmp 19)),
     .ck false none (some 9) (.load false 1 (.tmp 8)),
     .ck false none (some 6) (.load false 1 (.tmp 5)),
     .op (some 24) (.call (.func 95) [(.tmp 23)]),
     .ck false none (some 20) (.load false 1 (.tmp 19)),
     .ck false none (some 9) (.load false 1 (.tmp 8)),
     .ck false none (some 6) (.load false 1 (.tmp 5)),
     .op (some 25) (.call (.func 94) [(.tmp 21), (.tmp 24)]),
     .ck false none (some 9) (.load false 1 (.tmp 8)),
     .ck false none (some 6) (.load false 1 (.tmp 5)),
     .op (some 26) (.build [.bool false, .int .u64 0, .int .u64 0, .int .u64 0, .int .u64 0] [(0, 1, (.tmp 11)), (1, 2, (.tmp 18)), (3, 2, (.tmp 25))]),
     .op none (.store 5 (.tmp 4) (.tmp 26))])
  .ret))
theorem s194 : FnOK Tryz.prog 194 27 [ResultVar.cell 4 225] c194 :=
  .mk' [(1, [], [(0, []), (1, []), (2, []), (3, []), (4, []), (5, []), (6, []), (7, []), (8, []), (10, []), (11, []), (12, []), (14, []), (15, []), (16, []), (17, []), (18, []), (9, [18, 15, 11, 4, 1]), (13, [18, 15, 4, 1]), (19, [15, 4, 1]), (20, [4, 1]), (21, []), (22, [])])] Tryz.func194 (by kernel_rfl) (by kernel_rfl) (by kernel_rfl)
def c195 : MC :=
  (.seq
   (.reg [
     .op (some 2) (.box 225 (.tmp 0)),
     .op (some 4) (.mv (.const (.int .i64 0))),
     .op (some 5) (.mv (.const (.int .i64 0)))])
  (.seq
   (.reg [
     .op (some 6) (.alloc [.int .u64 0, .int .u64 0] 170)])
  (.seq
   (.reg [
     .op (some 7) (.mv (.const (.bool false)))])
  (.seq
   (.seq
    (.reg [
      .op (some 8) (.mv (.tmp 1))])
   (.block 0
    (.seq
     (.reg [
       .op (some 10) (.bin .eql (.tmp 8) (.const (.int .i64 1))),
       .op (some 9) (.mv (.tmp 10))])
    (.cond (.tmp 9)
     (.reg [
       .op (some 12) (.load true 5 (.tmp 2)),
       .op (some 13) (.call (.func 213) [(.tmp 12)]),
       .op (some 11) (.mv (.tmp 13)),
       .op (some 14) (.ext (.tmp 11) 0),
       .op (some 15) (.ext (.tmp 11) 1),
       .op none (.store 2 (.tmp 6) (.tmp 14)),
       .op (some 7) (.mv (.tmp 15))])
     (.seq
      (.reg [
        .op (some 17) (.bin .eql (.tmp 8) (.const (.int .i64 2))),
        .op (some 16) (.mv (.tmp 17))])
     (.cond (.tmp 16)
      (.reg [
        .op (some 19) (.load true 5 (.tmp 2)),
        .op (some 20) (.call (.func 214) [(.tmp 19)]),
        .op (some 21) (.call (.func 213) [(.tmp 20)]),
        .op (some 18) (.mv (.tmp 21)),
        .op (some 22) (.ext (.tmp 18) 0),
        .op (some 23) (.ext (.tmp 18) 1),
        .op none (.store 2 (.tmp 6) (.tmp 22)),
        .op (some 7) (.mv (.tmp 23))])
      (.seq
       (.reg [
         .op (some 25) (.bin .eql (.tmp 8) (.const (.int .i64 3))),
         .op (some 24) (.mv (.tmp 25))])
      (.cond (.tmp 24)
       (.seq
        (.reg [
          .op (some 26) (.faddr 0 (.tmp 2)),
          .op (some 27) (.load false 1 (.tmp 26)),
          .op (some 28) (.un .not (.tmp 27)),
          .op (some 29) (.faddr 0 (.tmp 2)),
          .op none (.store 1 (.tmp 29) (.tmp 28))])
       (.seq
        (.reg [
          .op (some 31) (.load true 5 (.tmp 2)),
          .op (some 32) (.call (.func 213) [(.tmp 31)]),
          .op (some 30) (.mv (.tmp 32)),
          .op (some 33) (.ext (.tmp 30) 0),
          .op (some 34) (.ext (.tmp 30) 1),
          .op none (.store 2 (.tmp 6) (.tmp 33)),
          .op (some 7) (.mv (.tmp 34))])
       (.reg [
         .op (some 35) (.mv (.tmp 7)),
         .op (some 36) (.un .not (.tmp 35)),
         .op (some 7) (.mv (.tmp 36))])))
       (.seq
        (.reg [
          .op (some 4) (.mv (.const (.int .i64 0))),
          .op (some 5) (.mv (.const (.int .i64 1)))])
       .ret)))))))))
  (.seq
   (.block 1
    (.seq
     (.reg [
       .op (some 38) (.load true 2 (.tmp 6)),
       .op (some 39) (.call (.func 138) [(.const (.int .u64 4611686018427387904))]),
       .ck false none (some 38) (.load true 2 (.tmp 6)),
       .op (some 40) (.call (.func 96) [(.tmp 38), (.tmp 39)]),
       .op (some 41) (.bin .gtr (.tmp 40) (.const (.int .i64 0))),
       .op (some 37) (.mv (.tmp 41))])
    (.cond (.tmp 37)
     (.seq
      (.reg [
        .op (some 4) (.mv (.const (.int .i64 0))),
        .op (some 5) (.mv (.const (.int .i64 12)))])
     .ret)
     (.seq
      (.reg [
        .op (some 43) (.mv (.tmp 7)),
        .op (some 42) (.mv (.tmp 43))])
     (.cond (.tmp 42)
      (.seq
       (.reg [
         .op (some 44) (.faddr 1 (.tmp 6)),
         .op (some 45) (.load false 1 (.tmp 44)),
         .op (some 46) (.cint .i64 (.tmp 45)),
         .op (some 47) (.un .neg (.tmp 46)),
         .op (some 4) (.mv (.tmp 47)),
         .op (some 5) (.mv (.const (.int .i64 0)))])
      .ret)
      .skip)))))
  (.seq
   (.reg [
     .op (some 48) (.faddr 1 (.tmp 6)),
     .op (some 49) (.load false 1 (.tmp 48)),
     .op (some 50) (.cint .i64 (.tmp 49)),
     .op (some 4) (.mv (.tmp 50)),
     .op (some 5) (.mv (.const (.int .i64 0)))])
  .ret))))))
theorem s195 : FnOK Tryz.prog 195 51 [ResultVar.tmp 4, ResultVar.tmp 5] c195 :=
  .mk' [(13, [], [(0, []), (1, [0]), (2, []), (3, []), (4, [])])] Tryz.func195 (by kernel_rfl) (by kernel_rfl) (by kernel_rfl)
def c196 : MC :=
  (.seq
   (.reg [
     .op (some 2) (.box 38 (.tmp 0)),
     .op (some 3) (.box 38 (.tmp 1)),
     .op (some 4) (.alloc [.int .i64 0, .int .i64 0] 38),
     .op (some 5) (.mv (.const (.int .i64 0)))])
  (.seq
   (.seq
    (.reg [
      .op (some 6) (.load true 2 (.tmp 2)),
      .op (some 7) (.load true 2 (.tmp 3)),
      .op (some 8) (.bslice 38 2 [.int .i64 0, .int .i64 0, .int .i64 0, .int .i64 0] [(0, 2, (.tmp 6)), (2, 2, (.tmp 7))]),
      .op (some 9) (.call (.func 174) [(.tmp 8)]),
      .op (some 10) (.un .not (.tmp 9))])
   (.cond (.tmp 10)
    (.seq
     (.reg [
       .op (some 11) (.build [.int .i64 0, .int .i64 0] []),
       .op none (.store 2 (.tmp 4) (.tmp 11)),
       .op (some 5) (.mv (.const (.int .i64 12)))])
    .ret)
    .skip))
  (.seq
   (.reg [
     .op (some 12) (.faddr 0 (.tmp 2)),
     .op (some 13) (.load false 1 (.tmp 12)),
     .op (some 14) (.bin .lss (.tmp 13) (.const (.int .i64 0))),
     .op (some 15) (.faddr 0 (.tmp 3)),
     .op (some 16) (.load false 1 (.tmp 15)),
     .op (some 17) (.bin .lss (.tmp 16) (.const (.int .i64 0))),
     .op (some 18) (.eqb true (.tmp 14) (.tmp 17)),
     .op (some 19) (.faddr 0 (.tmp 2)),
     .op (some 20) (.load false 1 (.tmp 19)),
     .op (some 22) (.faddr 0 (.tmp 3)),
     .op (some 23) (.load false 1 (.tmp 22)),
     .op (some 26) (.faddr 1 (.tmp 2)),
     .op (some 27) (.load false 1 (.tmp 26)),
     .op (some 28) (.cint .u64 (.tmp 27)),
     .op (some 29) (.faddr 1 (.tmp 3)),
     .op (some 30) (.load false 1 (.tmp 29)),
     .op (some 31) (.cint .u64 (.tmp 30)),
     .op (some 21) (.call (.func 95) [(.tmp 20)]),
     .ck false none (some 30) (.load false 1 (.tmp 29)),
     .ck false none (some 27) (.load false 1 (.tmp 26)),
     .ck false none (some 23) (.load false 1 (.tmp 22)),
     .ck false none (some 16) (.load false 1 (.tmp 15)),
     .ck false none (some 13) (.load false 1 (.tmp 12)),
     .op (some 24) (.call (.func 95) [(.tmp 23)]),
     .ck false none (some 30) (.load false 1 (.tmp 29)),
     .ck false none (some 27) (.load false 1 (.tmp 26)),
     .ck false none (some 16) (.load false 1 (.tmp 15)),
     .ck false none (some 13) (.load false 1 (.tmp 12)),
     .op (some 25) (.call (.func 94) [(.tmp 21), (.tmp 24)]),
     .ck false none (some 30) (.load false 1 (.tmp 29)),
     .ck false none (some 27) (.load false 1 (.tmp 26)),
     .ck false none (some 16) (.load false 1 (.tmp 15)),
     .ck false none (some 13) (.load false 1 (.tmp 12)),
     .op (some 32) (.call (.func 94) [(.tmp 28), (.tmp 31)]),
     .ck false none (some 16) (.load false 1 (.tmp 15)),
     .ck false none (some 13) (.load false 1 (.tmp 12)),
     .op (some 33) (.build [.bool false, .int .u64 0, .int .u64 0, .int .u64 0, .int .u64 0] [(0, 1, (.tmp 18)), (1, 2, (.tmp 25)), (3, 2, (.tmp 32))]),
     .op (some 34) (.call (.func 139) [(.tmp 33)]),
     .op (some 35) (.ext (.tmp 34) 0),
     .op (some 36) (.ext (.tmp 34) 1),
     .op none (.store 2 (.tmp 4) (.tmp 35)),
     .op (some 5) (.mv (.tmp 36))])
  .ret)))
theorem s196 : FnOK Tryz.prog 196 37 [ResultVar.cell 4 38, ResultVar.tmp 5] c196 :=
  .mk' [(3, [], [(0, []), (1, []), (2, []), (3, []), (4, []), (5, []), (6, []), (7, []), (8, []), (10, []), (11, []), (14, []), (15, []), (16, []), (17, []), (18, []), (19, []), (9, [18, 15, 11, 4, 1]), (12, [18, 15, 4, 1]), (13, [18, 15, 4, 1]), (20, [4, 1]), (21, []), (22, []), (23, []), (24, []), (25, []), (26, [])])] Tryz.func196 (by kernel_rfl) (by kernel_rfl) (by kernel_rfl)
def c199 : MC :=
  (.seq
   (.reg [
     .op (some 2) (.box 122 (.tmp 0)),
     .op (some 4) (.mv (.const (.int .i64 0)))])
  (.seq
   (.block 0
    (.seq
     (.seq
      (.reg [
        .op (some 6) (.mv (.tmp 1)),
        .op (some 7) (.bin .eql (.tmp 6) (.const (.int .i64 1))),
        .op (some 8) (.mv (.tmp 7)),
        .gd (some 8) true (some 9) (.faddr 0 (.tmp 2)),
        .gd (some 8) true (some 10) (.load false 1 (.tmp 9)),
        .op (some 11) (.pick (.tmp 8) (.tmp 10) (.const (.bool false))),
        .op (some 5) (.mv (.tmp 11))])
     (.cond (.tmp 5)
      .skip
      (.seq
       (.reg [
         .op (some 12) (.mv (.tmp 1)),
         .op (some 13) (.bin .eql (.tmp 12) (.const (.int .i64 2))),
         .op (some 14) (.mv (.tmp 13)),
         .gd (some 14) true (some 15) (.faddr 1 (.tmp 2)),
         .gd (some 14) true (some 16) (.load false 1 (.tmp 15)),
         .op (some 17) (.pick (.tmp 14) (.tmp 16) (.const (.bool false))),
         .op (some 5) (.mv (.tmp 17))])
      (.cond (.tmp 5)
       .skip
       (.seq
        (.reg [
          .op (some 18) (.mv (.tmp 1)),
          .op (some 19) (.bin .eql (.tmp 18) (.const (.int .i64 3))),
          .op (some 20) (.mv (.tmp 19)),
          .gd (some 20) true (some 21) (.faddr 2 (.tmp 2)),
          .gd (some 20) true (some 22) (.load false 1 (.tmp 21)),
          .op (some 23) (.pick (.tmp 20) (.tmp 22) (.const (.bool false))),
          .op (some 5) (.mv (.tmp 23))])
       (.cond (.tmp 5)
        .skip
        (.reg [
          .op (some 24) (.mv (.tmp 1)),
          .op (some 25) (.bin .eql (.tmp 24) (.const (.int .i64 4))),
          .op (some 26) (.mv (.tmp 25)),
          .gd (some 26) true (some 27) (.faddr 3 (.tmp 2)),
          .gd (some 26) true (some 28) (.load false 1 (.tmp 27)),
          .op (some 29) (.pick (.tmp 26) (.tmp 28) (.const (.bool false))),
          .op (some 5) (.mv (.tmp 29))])))))))
    (.cond (.tmp 5)
     (.seq
      (.reg [
        .op (some 4) (.mv (.const (.int .i64 1)))])
     .ret)
     (.seq
      (.reg [
        .op (some 31) (.mv (.tmp 1)),
        .op (some 32) (.bin .eql (.tmp 31) (.const (.int .i64 5))),
        .op (some 30) (.mv (.tmp 32))])
     (.cond (.tmp 30)
      (.seq
       (.reg [
         .op (some 33) (.faddr 4 (.tmp 2)),
         .op (some 34) (.load false 1 (.tmp 33)),
         .op (some 4) (.mv (.tmp 34))])
      .ret)
      .skip)))))
  (.seq
   (.reg [
     .op (some 4) (.mv (.const (.int .i64 0)))])
  .ret)))
theorem s199 : FnOK Tryz.prog 199 35 [ResultVar.tmp 4] c199 :=
  .mk' [] Tryz.func199 (by kernel_rfl) (by kernel_rfl) (by kernel_rfl)
def c202 : MC :=
  (.seq
   (.reg [
     .op (some 6) (.mv (.const (.int .i64 20)))])
  (.seq
   (.reg [
     .op (some 10) (.mv (.tmp 6)),
     .op (some 7) (.mv (.const (.int .i64 0))),
     .op (some 8) (.mv (.tmp 10))])
  (.seq
   (.block 0
    (.loop
     (.seq
      (.seq
       (.reg [
         .op (some 11) (.mv (.tmp 8)),
         .op (some 12) (.mv (.tmp 1)),
         .op (some 13) (.bin .leq (.tmp 11) (.tmp 12))])
      (.cond (.tmp 13)
       .skip
       (.exit 0)))
     (.block 1
      (.seq
       (.reg [
         .op (some 14) (.mv (.tmp 0)),
         .op (some 15) (.mv (.tmp 7)),
         .op (some 16) (.mv (.tmp 8)),
         .op (some 17) (.mv (.tmp 2)),
         .op (some 18) (.call (.func 216) [(.tmp 14), (.tmp 15), (.tmp 16), (.tmp 17)])])
      (.seq
       (.reg [
         .op (some 19) (.mv (.tmp 8)),
         .op (some 7) (.mv (.tmp 19))])
      (.reg [
        .op (some 20) (.mv (.tmp 8)),
        .op (some 21) (.mv (.tmp 6)),
        .op (some 22) (.bin .add (.tmp 20) (.tmp 21)),
        .op (some 8) (.mv (.tmp 22))])))))))
  (.seq
   (.reg [
     .op (some 23) (.mv (.tmp 0)),
     .op (some 24) (.mv (.tmp 7)),
     .op (some 25) (.mv (.tmp 1)),
     .op (some 26) (.mv (.tmp 2)),
     .op (some 27) (.call (.func 216) [(.tmp 23), (.tmp 24), (.tmp 25), (.tmp 26)])])
  (.block 2
   (.loop
    (.seq
     (.seq
      (.reg [
        .op (some 28) (.mv (.tmp 6)),
        .op (some 29) (.mv (.tmp 1)),
        .op (some 30) (.bin .lss (.tmp 28) (.tmp 29))])
     (.cond (.tmp 30)
      .skip
      (.exit 2)))
    (.block 3
     (.seq
      (.reg [
        .op (some 31) (.mv (.tmp 6)),
        .op (some 32) (.bin .mul (.const (.int .i64 2)) (.tmp 31)),
        .op (some 7) (.mv (.const (.int .i64 0))),
        .op (some 8) (.mv (.tmp 32))])
     (.seq
      (.block 4
       (.loop
        (.seq
         (.seq
          (.reg [
            .op (some 33) (.mv (.tmp 8)),
            .op (some 34) (.mv (.tmp 1)),
            .op (some 35) (.bin .leq (.tmp 33) (.tmp 34))])
         (.cond (.tmp 35)
          .skip
          (.exit 4)))
        (.block 5
         (.seq
          (.reg [
            .op (some 36) (.mv (.tmp 0)),
            .op (some 37) (.mv (.tmp 7)),
            .op (some 38) (.mv (.tmp 7)),
            .op (some 39) (.mv (.tmp 6)),
            .op (some 40) (.bin .add (.tmp 38) (.tmp 39)),
            .op (some 41) (.mv (.tmp 8)),
            .op (some 42) (.mv (.tmp 2)),
            .op (some 43) (.call (.func 217) [(.tmp 36), (.tmp 37), (.tmp 40), (.tmp 41), (.tmp 42)])])
         (.seq
          (.reg [
            .op (some 44) (.mv (.tmp 8)),
            .op (some 7) (.mv (.tmp 44))])
         (.reg [
           .op (some 45) (.mv (.tmp 8)),
           .op (some 46) (.mv (.tmp 6)),
           .op (some 47) (.bin .mul (.const (.int .i64 2)) (.tmp 46)),
           .op (some 48) (.bin .add (.tmp 45) (.tmp 47)),
           .op (some 8) (.mv (.tmp 48))])))))))
     (.seq
      (.seq
       (.reg [
         .op (some 49) (.mv (.tmp 7)),
         .op (some 50) (.mv (.tmp 6)),
         .op (some 51) (.bin .add (.tmp 49) (.tmp 50)),
         .op (some 9) (.mv (.tmp 51))])
      (.seq
       (.reg [
         .op (some 52) (.mv (.tmp 9)),
         .op (some 53) (.mv (.tmp 1)),
         .op (some 54) (.bin .lss (.tmp 52) (.tmp 53))])
      (.cond (.tmp 54)
       (.reg [
         .op (some 55) (.mv (.tmp 0)),
         .op (some 56) (.mv (.tmp 7)),
         .op (some 57) (.mv (.tmp 9)),
         .op (some 58) (.mv (.tmp 1)),
         .op (some 59) (.mv (.tmp 2)),
         .op (some 60) (.call (.func 217) [(.tmp 55), (.tmp 56), (.tmp 57), (.tmp 58), (.tmp 59)])])
       .skip)))
     (.reg [
       .op (some 61) (.mv (.tmp 6)),
       .op (some 62) (.bin .mul (.tmp 61) (.const (.int .i64 2))),
       .op (some 6) (.mv (.tmp 62))]))))))))))))
theorem s202 : FnOK Tryz.prog 202 63 [] c202 :=
  .mk' [] Tryz.func202 (by kernel_rfl) (by kernel_rfl) (by kernel_rfl)
def c213 : MC :=
  (.seq
   (.reg [
     .op (some 1) (.box 225 (.tmp 0)),
     .op (some 2) (.alloc [.int .u64 0, .int .u64 0] 170),
     .op (some 3) (.mv (.const (.bool false)))])
  (.seq
   (.reg [
     .op (some 7) (.faddr 1 (.tmp 1)),
     .op (some 8) (.load true 2 (.tmp 7)),
     .op (some 9) (.faddr 3 (.tmp 1)),
     .op (some 10) (.load true 2 (.tmp 9)),
     .op (some 11) (.call (.func 172) [(.tmp 8), (.tmp 10)]),
     .op (some 6) (.mv (.tmp 11)),
     .op (some 12) (.ext (.tmp 6) 0),
     .op (some 13) (.ext (.tmp 6) 1),
     .op (some 4) (.alloc [.int .u64 0, .int .u64 0] 170),
     .op (some 5) (.alloc [.int .u64 0, .int .u64 0] 170),
     .op none (.store 2 (.tmp 4) (.tmp 12)),
     .op none (.store 2 (.tmp 5) (.tmp 13))])
  (.seq
   (.seq
    (.reg [
      .op (some 14) (.faddr 0 (.tmp 1)),
      .op (some 15) (.load false 1 (.tmp 14)),
      .op (some 16) (.mv (.tmp 15)),
      .gd (some 16) true (some 17) (.load true 2 (.tmp 5)),
      .gd (some 16) true (some 18) (.build [.int .u64 0, .int .u64 0] []),
      .gd (some 16) true (some 19) (.eqs true [(0, .i), (1, .i)] (.tmp 17) (.tmp 18)),
      .op (some 20) (.pick (.tmp 16) (.tmp 19) (.const (.bool false)))])
   (.cond (.tmp 20)
    (.reg [
      .op (some 21) (.load true 2 (.tmp 4)),
      .op (some 22) (.call (.func 138) [(.const (.int .u64 1))]),
      .ck false none (some 21) (.load true 2 (.tmp 4)),
      .op (some 23) (.call (.func 175) [(.tmp 21), (.tmp 22)]),
      .op none (.store 2 (.tmp 4) (.tmp 23))])
    .skip))
  (.seq
   (.reg [
     .op (some 24) (.load true 2 (.tmp 4)),
     .op (some 25) (.faddr 0 (.tmp 1)),
     .op (some 26) (.load false 1 (.tmp 25)),
     .op none (.store 2 (.tmp 2) (.tmp 24)),
     .ck false none (some 26) (.load false 1 (.tmp 25)),
     .op (some 3) (.mv (.tmp 26))])
  .ret))))
theorem s213 : FnOK Tryz.prog 213 27 [ResultVar.cell 2 170, ResultVar.tmp 3] c213 :=
  .mk' [(3, [], [(0, []), (1, [0]), (2, []), (3, [])]), (4, [], [(0, []), (1, []), (2, []), (3, [2]), (4, [])])] Tryz.func213 (by kernel_rfl) (by kernel_rfl) (by kernel_rfl)
def c214 : MC :=
  (.seq
   (.reg [
     .op (some 1) (.box 225 (.tmp 0)),
     .op (some 2) (.alloc [.bool false, .int .u64 0, .int .u64 0, .int .u64 0, .int .u64 0] 225)])
  (.seq
   (.reg [
     .op (some 5) (.faddr 1 (.tmp 1)),
     .op (some 6) (.load true 2 (.tmp 5)),
     .op (some 7) (.faddr 1 (.tmp 1)),
     .op (some 8) (.load true 2 (.tmp 7)),
     .op (some 9) (.call (.func 175) [(.tmp 6), (.tmp 8)]),
     .op (some 3) (.alloc [.int .u64 0, .int .u64 0] 170),
     .op none (.store 2 (.tmp 3) (.tmp 9))])
  (.seq
   (.reg [
     .op (some 10) (.faddr 0 (.tmp 1)),
     .op (some 11) (.load false 1 (.tmp 10)),
     .op (some 12) (.load true 2 (.tmp 3)),
     .op (some 13) (.faddr 3 (.tmp 1)),
     .op (some 14) (.load true 2 (.tmp 13)),
     .nt none (some 15) (.call (.func 175) [(.tmp 12), (.tmp 14)]),
     .op (some 16) (.faddr 3 (.tmp 1)),
     .op (some 17) (.load true 2 (.tmp 16)),
     .op (some 18) (.faddr 3 (.tmp 1)),
     .op (some 19) (.load true 2 (.tmp 18)),
     .nt none (some 20) (.call (.func 175) [(.tmp 17), (.tmp 19)]),
     .op (some 21) (.build [.bool false, .int .u64 0, .int .u64 0, .int .u64 0, .int .u64 0] [(0, 1, (.tmp 11)), (1, 2, (.tmp 15)), (3, 2, (.tmp 20))]),
     .op (some 4) (.alloc [.bool false, .int .u64 0, .int .u64 0, .int .u64 0, .int .u64 0] 225),
     .ck true none (some 20) (.call (.func 175) [(.tmp 17), (.tmp 19)]),
     .ck false none (some 19) (.load true 2 (.tmp 18)),
     .ck false none (some 17) (.load true 2 (.tmp 16)),
     .ck true none (some 15) (.call (.func 175) [(.tmp 12), (.tmp 14)]),
     .ck false none (some 14) (.load true 2 (.tmp 13)),
     .ck false none (some 12) (.load true 2 (.tmp 3)),
     .ck false none (some 11) (.load false 1 (.tmp 10)),
     .op none (.store 5 (.tmp 4) (.tmp 21))])
  (.seq
   (.block 0
    (.seq
     (.reg [
       .op (some 23) (.faddr 0 (.tmp 1)),
       .op (some 24) (.load false 1 (.tmp 23)),
       .op (some 25) (.mv (.tmp 24)),
       .gd (some 25) true (some 26) (.load true 2 (.tmp 3)),
       .gd (some 25) true (some 27) (.faddr 3 (.tmp 1)),
       .gd (some 25) true (some 28) (.load true 2 (.tmp 27)),
       .gd (some 25) true (some 29) (.call (.func 96) [(.tmp 26), (.tmp 28)]),
       .gd (some 25) true (some 30) (.bin .gtr (.tmp 29) (.const (.int .i64 0))),
       .op (some 31) (.pick (.tmp 25) (.tmp 30) (.const (.bool false))),
       .op (some 22) (.mv (.tmp 31))])
    (.cond (.tmp 22)
     (.reg [
       .op (some 32) (.load true 2 (.tmp 3)),
       .op (some 33) (.faddr 3 (.tmp 1)),
       .op (some 34) (.load true 2 (.tmp 33)),
       .op (some 35) (.call (.func 176) [(.tmp 32), (.tmp 34)]),
       .op (some 36) (.faddr 1 (.tmp 4)),
       .op none (.store 2 (.tmp 36) (.tmp 35))])
     (.seq
      (.reg [
        .op (some 38) (.faddr 0 (.tmp 1)),
        .op (some 39) (.load false 1 (.tmp 38)),
        .op (some 37) (.mv (.tmp 39))])
     (.cond (.tmp 37)
      (.reg [
        .op (some 40) (.faddr 3 (.tmp 1)),
        .op (some 41) (.load true 2 (.tmp 40)),
        .op (some 42) (.load true 2 (.tmp 3)),
        .op (some 43) (.call (.func 176) [(.tmp 41), (.tmp 42)]),
        .op (some 44) (.faddr 0 (.tmp 4)),
        .op none (.store 1 (.tmp 44) (.const (.bool false))),
        .op (some 45) (.faddr 1 (.tmp 4)),
        .op none (.store 2 (.tmp 45) (.tmp 43))])
      .skip)))))
  (.seq
   (.reg [
     .op (some 46) (.load true 5 (.tmp 4)),
     .op none (.store 5 (.tmp 2) (.tmp 46))])
  .ret)))))
theorem s214 : FnOK Tryz.prog 214 47 [ResultVar.cell 2 225] c214 :=
  .mk' [(2, [5, 10], [(0, []), (1, []), (2, []), (3, []), (4, []), (5, []), (6, []), (7, []), (8, []), (9, []), (10, []), (11, []), (12, [10, 9, 7, 5, 4, 2, 1]), (13, [])])] Tryz.func214 (by kernel_rfl) (by kernel_rfl) (by kernel_rfl)
def c216 : MC :=
  (.seq
   (.reg [
     .op (some 10) (.mv (.tmp 1)),
     .op (some 11) (.bin .add (.tmp 10) (.const (.int .i64 1))),
     .op (some 8) (.mv (.tmp 11))])
  (.block 0
   (.loop
    (.seq
     (.seq
      (.reg [
        .op (some 12) (.mv (.tmp 8)),
        .op (some 13) (.mv (.tmp 2)),
        .op (some 14) (.bin .lss (.tmp 12) (.tmp 13))])
     (.cond (.tmp 14)
      .skip
      (.exit 0)))
    (.seq
     (.block 1
      (.seq
       (.reg [
         .op (some 17) (.mv (.tmp 8)),
         .op (some 9) (.mv (.tmp 17))])
      (.block 2
       (.loop
        (.seq
         (.seq
          (.reg [
            .op (some 18) (.mv (.tmp 9)),
            .op (some 19) (.mv (.tmp 1)),
            .op (some 20) (.bin .gtr (.tmp 18) (.tmp 19)),
            .op (some 21) (.mv (.tmp 20)),
            .gd (some 21) true (some 22) (.mv (.tmp 3)),
            .gd (some 21) true (some 23) (.mv (.tmp 0)),
            .gd (some 21) true (some 24) (.mv (.tmp 9)),
            .gd (some 21) true (some 25) (.ias 4 (.tmp 23) (.tmp 24)),
            .gd (some 21) true (some 26) (.load true 4 (.tmp 25)),
            .gd (some 21) true (some 27) (.mv (.tmp 0)),
            .gd (some 21) true (some 28) (.mv (.tmp 9)),
            .gd (some 21) true (some 29) (.bin .sub (.tmp 28) (.const (.int .i64 1))),
            .gd (some 21) true (some 30) (.ias 4 (.tmp 27) (.tmp 29)),
            .gd (some 21) true (some 31) (.load true 4 (.tmp 30)),
            .gd (some 21) true (some 32) (.call (.tmp 22) [(.tmp 26), (.tmp 31)]),
            .gd (some 21) true (some 33) (.bin .lss (.tmp 32) (.const (.int .i64 0))),
            .op (some 34) (.pick (.tmp 21) (.tmp 33) (.const (.bool false)))])
         (.cond (.tmp 34)
          .skip
          (.exit 2)))
        (.seq
         (.block 3
          (.reg [
            .op (some 37) (.mv (.tmp 0)),
            .op (some 38) (.mv (.tmp 9)),
            .op (some 39) (.mv (.tmp 0)),
            .op (some 40) (.mv (.tmp 9)),
            .op (some 41) (.bin .sub (.tmp 40) (.const (.int .i64 1))),
            .op (some 42) (.mv (.tmp 0)),
            .op (some 43) (.mv (.tmp 9)),
            .op (some 44) (.bin .sub (.tmp 43) (.const (.int .i64 1))),
            .op (some 45) (.ias 4 (.tmp 42) (.tmp 44)),
            .op (some 46) (.load true 4 (.tmp 45)),
            .op (some 47) (.mv (.tmp 0)),
            .op (some 48) (.mv (.tmp 9)),
            .op (some 49) (.ias 4 (.tmp 47) (.tmp 48)),
            .op (some 50) (.load true 4 (.tmp 49)),
            .op (some 51) (.ias 4 (.tmp 37) (.tmp 38)),
            .op none (.store 4 (.tmp 51) (.tmp 46)),
            .op (some 52) (.ias 4 (.tmp 39) (.tmp 41)),
            .op none (.store 4 (.tmp 52) (.tmp 50))]))
        (.reg [
          .op (some 35) (.mv (.tmp 9)),
          .op (some 36) (.bin .sub (.tmp 35) (.const (.int .i64 1))),
          .op (some 9) (.mv (.tmp 36))])))))))
    (.reg [
      .op (some 15) (.mv (.tmp 8)),
      .op (some 16) (.bin .add (.tmp 15) (.const (.int .i64 1))),
      .op (some 8) (.mv (.tmp 16))]))))))
theorem s216 : FnOK Tryz.prog 216 53 [] c216 :=
  .mk' [(4, [], [(0, []), (1, []), (2, []), (3, []), (4, []), (5, []), (6, []), (7, []), (8, []), (9, []), (10, []), (11, []), (12, []), (13, []), (14, []), (15, []), (16, [])]), (6, [], [(0, []), (1, []), (2, []), (3, []), (4, []), (5, []), (6, []), (7, []), (8, []), (9, []), (10, []), (11, []), (12, []), (13, []), (14, []), (15, []), (16, []), (17, [])])] Tryz.func216 (by kernel_rfl) (by kernel_rfl) (by kernel_rfl)
end Go.Cm
