/- Functions, their code in short (printed by a program of mine). -/
import Derived.Test.YtgalmibnlkbdiaaGreatDoorSnIndex
set_option maxRecDepth 1000000
namespace Go.Cm
open Go Go.RowKit Go.Proofs
def c3 : MC :=
  (.seq
   (.reg [
     .op (some 0) (.mv (.const (.bool false)))])
  (.seq
   (.reg [
     .op (some 1) (.mv (.const (.bool true))),
     .gd (some 1) true (some 2) (.call (.func 4) [(.const (.int .i64 42))]),
     .gd (some 1) true (some 3) (.bin .eql (.tmp 2) (.const (.string ⟨⟨[99, 111, 117, 110, 116]⟩⟩))),
     .op (some 4) (.pick (.tmp 1) (.tmp 3) (.const (.bool false))),
     .op (some 5) (.mv (.tmp 4)),
     .gd (some 5) true (some 6) (.call (.func 5) []),
     .op (some 7) (.pick (.tmp 5) (.tmp 6) (.const (.bool false))),
     .op (some 0) (.mv (.tmp 7))])
  .ret))
theorem s3 : FnOK Tryz.prog 3 8 [ResultVar.tmp 0] c3 :=
  .mk' [] Tryz.func3 (by kernel_rfl) (by kernel_rfl) (by kernel_rfl)
def c4 : MC :=
  (.seq
   (.reg [
     .op (some 2) (.mv (.const (.string ⟨⟨[]⟩⟩)))])
  (.seq
   (.block 0
    (.seq
     (.reg [
       .op (some 4) (.mv (.tmp 0)),
       .op (some 5) (.bin .eql (.tmp 4) (.const (.int .i64 0))),
       .op (some 3) (.mv (.tmp 5))])
    (.cond (.tmp 3)
     (.seq
      (.reg [
        .op (some 2) (.mv (.const (.string ⟨⟨[111, 107]⟩⟩)))])
     .ret)
     (.seq
      (.reg [
        .op (some 7) (.mv (.tmp 0)),
        .op (some 8) (.bin .lss (.tmp 7) (.const (.int .i64 11))),
        .op (some 6) (.mv (.tmp 8))])
     (.cond (.tmp 6)
      (.seq
       (.reg [
         .op (some 9) (.mv (.tmp 0)),
         .op (some 10) (.call (.func 6) [(.tmp 9)]),
         .op (some 2) (.mv (.tmp 10))])
      .ret)
      (.seq
       (.reg [
         .op (some 12) (.mv (.tmp 0)),
         .op (some 13) (.bin .lss (.tmp 12) (.const (.int .i64 21))),
         .op (some 11) (.mv (.tmp 13))])
      (.cond (.tmp 11)
       (.seq
        (.reg [
          .op (some 14) (.mv (.tmp 0)),
          .op (some 15) (.call (.func 7) [(.tmp 14)]),
          .op (some 2) (.mv (.tmp 15))])
       .ret)
       (.seq
        (.reg [
          .op (some 17) (.mv (.tmp 0)),
          .op (some 18) (.bin .lss (.tmp 17) (.const (.int .i64 31))),
          .op (some 16) (.mv (.tmp 18))])
       (.cond (.tmp 16)
        (.seq
         (.reg [
           .op (some 19) (.mv (.tmp 0)),
           .op (some 20) (.call (.func 8) [(.tmp 19)]),
           .op (some 2) (.mv (.tmp 20))])
        .ret)
        (.seq
         (.reg [
           .op (some 22) (.mv (.tmp 0)),
           .op (some 23) (.bin .lss (.tmp 22) (.const (.int .i64 41))),
           .op (some 21) (.mv (.tmp 23))])
        (.cond (.tmp 21)
         (.seq
          (.reg [
            .op (some 24) (.mv (.tmp 0)),
            .op (some 25) (.call (.func 9) [(.tmp 24)]),
            .op (some 2) (.mv (.tmp 25))])
         .ret)
         .skip)))))))))))
  (.seq
   (.reg [
     .op (some 26) (.mv (.tmp 0)),
     .op (some 27) (.call (.func 10) [(.tmp 26)]),
     .op (some 2) (.mv (.tmp 27))])
  .ret)))
theorem s4 : FnOK Tryz.prog 4 28 [ResultVar.tmp 2] c4 :=
  .mk' [] Tryz.func4 (by kernel_rfl) (by kernel_rfl) (by kernel_rfl)
def c5 : MC :=
  (.seq
   (.reg [
     .op (some 0) (.mv (.const (.bool false)))])
  (.seq
   (.reg [
     .op (some 7) (.bslice 5 48 [.int .u8 0, .int .u8 0, .int .u8 0, .int .u8 0, .int .u8 0, .int .u8 0, .int .u8 0, .int .u8 0, .int .u8 0, .int .u8 0, .int .u8 0, .int .u8 0, .int .u8 0, .int .u8 0, .int .u8 0, .int .u8 0, .int .u8 0, .int .u8 0, .int .u8 0, .int .u8 0, .int .u8 0, .int .u8 0, .int .u8 0, .int .u8 0, .int .u8 0, .int .u8 0, .int .u8 0, .int .u8 0, .int .u8 0, .int .u8 0, .int .u8 0, .int .u8 0, .int .u8 0, .int .u8 0, .int .u8 0, .int .u8 0, .int .u8 0, .int .u8 0, .int .u8 0, .int .u8 0, .int .u8 0, .int .u8 0, .int .u8 0, .int .u8 0, .int .u8 0, .int .u8 0, .int .u8 0, .int .u8 0] [(0, 1, (.const (.int .u8 49))), (1, 1, (.const (.int .u8 10))), (2, 1, (.const (.int .u8 48))), (3, 1, (.const (.int .u8 48))), (4, 1, (.const (.int .u8 58))), (5, 1, (.const (.int .u8 48))), (6, 1, (.const (.int .u8 48))), (7, 1, (.const (.int .u8 58))), (8, 1, (.const (.int .u8 48))), (9, 1, (.const (.int .u8 49))), (10, 1, (.const (.int .u8 44))), (11, 1, (.const (.int .u8 48))), (12, 1, (.const (.int .u8 48))), (13, 1, (.const (.int .u8 48))), (14, 1, (.const (.int .u8 32))), (15, 1, (.const (.int .u8 45))), (16, 1, (.const (.int .u8 45))), (17, 1, (.const (.int .u8 62))), (18, 1, (.const (.int .u8 32))), (19, 1, (.const (.int .u8 48))), (20, 1, (.const (.int .u8 48))), (21, 1, (.const (.int .u8 58))), (22, 1, (.const (.int .u8 48))), (23, 1, (.const (.int .u8 48))), (24, 1, (.const (.int .u8 58))), (25, 1, (.const (.int .u8 48))), (26, 1, (.const (.int .u8 50))), (27, 1, (.const (.int .u8 44))), (28, 1, (.const (.int .u8 53))), (29, 1, (.const (.int .u8 48))), (30, 1, (.const (.int .u8 48))), (31, 1, (.const (.int .u8 10))), (32, 1, (.const (.int .u8 60))), (33, 1, (.const (.int .u8 105))), (34, 1, (.const (.int .u8 62))), (35, 1, (.const (.int .u8 72))), (36, 1, (.const (.int .u8 105))), (37, 1, (.const (.int .u8 60))), (38, 1, (.const (.int .u8 47))), (39, 1, (.const (.int .u8 105))), (40, 1, (.const (.int .u8 62))), (41, 1, (.const (.int .u8 10))), (42, 1, (.const (.int .u8 116))), (43, 1, (.const (.int .u8 104))), (44, 1, (.const (.int .u8 101))), (45, 1, (.const (.int .u8 114))), (46, 1, (.const (.int .u8 101))), (47, 1, (.const (.int .u8 10)))]),
     .op (some 8) (.gen (.convert 33 33 (.tmp 7))),
     .op (some 9) (.call (.func 11) [(.tmp 8)]),
     .op (some 6) (.mv (.tmp 9)),
     .op (some 10) (.ext (.tmp 6) 0),
     .op (some 11) (.ext (.tmp 6) 1),
     .op (some 1) (.alloc [.nilslice] 28),
     .op (some 2) (.alloc [.int .i64 0, .int .i64 0, .int .i64 0] 30),
     .op none (.store 1 (.tmp 1) (.tmp 10)),
     .op none (.store 3 (.tmp 2) (.tmp 11))])
  (.seq
   (.seq
    (.reg [
      .op (some 12) (.load true 3 (.tmp 2)),
      .op (some 13) (.build [.int .i64 0, .int .i64 0, .int .i64 0] []),
      .op (some 14) (.eqs true [(0, .i), (1, .i), (2, .i)] (.tmp 12) (.tmp 13)),
      .op (some 15) (.mv (.tmp 14)),
      .gd (some 15) false (some 16) (.faddr 0 (.tmp 1)),
      .gd (some 15) false (some 17) (.load false 1 (.tmp 16)),
      .gd (some 15) false (some 18) (.lensl (.tmp 17)),
      .gd (some 15) false (some 19) (.bin .neq (.tmp 18) (.const (.int .i64 1))),
      .op (some 20) (.pick (.tmp 15) (.const (.bool true)) (.tmp 19)),
      .op (some 21) (.mv (.tmp 20)),
      .gd (some 21) false (some 22) (.faddr 0 (.tmp 1)),
      .gd (some 21) false (some 23) (.load false 1 (.tmp 22)),
      .gd (some 21) false (some 24) (.ias 9 (.tmp 23) (.const (.int .i64 0))),
      .gd (some 21) false (some 25) (.faddr 7 (.tmp 24)),
      .gd (some 21) false (some 26) (.faddr 0 (.tmp 25)),
      .gd (some 21) false (some 27) (.load false 1 (.tmp 26)),
      .gd (some 21) false (some 28) (.bin .neq (.tmp 27) (.const (.string ⟨⟨[72, 105, 10, 116, 104, 101, 114, 101]⟩⟩))),
      .op (some 29) (.pick (.tmp 21) (.const (.bool true)) (.tmp 28)),
      .op (some 30) (.mv (.tmp 29)),
      .gd (some 30) false (some 31) (.faddr 0 (.tmp 1)),
      .gd (some 30) false (some 32) (.load false 1 (.tmp 31)),
      .gd (some 30) false (some 33) (.ias 9 (.tmp 32) (.const (.int .i64 0))),
      .gd (some 30) false (some 34) (.faddr 7 (.tmp 33)),
      .gd (some 30) false (some 35) (.faddr 1 (.tmp 34)),
      .gd (some 30) false (some 36) (.load false 1 (.tmp 35)),
      .gd (some 30) false (some 37) (.lensl (.tmp 36)),
      .gd (some 30) false (some 38) (.bin .neq (.tmp 37) (.const (.int .i64 1))),
      .op (some 39) (.pick (.tmp 30) (.const (.bool true)) (.tmp 38)),
      .op (some 40) (.mv (.tmp 39)),
      .gd (some 40) false (some 41) (.faddr 0 (.tmp 1)),
      .gd (some 40) false (some 42) (.load false 1 (.tmp 41)),
      .gd (some 40) false (some 43) (.ias 9 (.tmp 42) (.const (.int .i64 0))),
      .gd (some 40) false (some 44) (.faddr 2 (.tmp 43)),
      .gd (some 40) false (some 45) (.load true 2 (.tmp 44)),
      .gd (some 40) false (some 46) (.build [.int .i64 0, .int .i64 0] [(0, 1, (.const (.int .i64 5))), (1, 1, (.const (.int .i64 2)))]),
      .gd (some 40) false (some 47) (.eqs true [(0, .i), (1, .i)] (.tmp 45) (.tmp 46)),
      .op (some 48) (.pick (.tmp 40) (.const (.bool true)) (.tmp 47))])
   (.cond (.tmp 48)
    (.seq
     (.reg [
       .op (some 0) (.mv (.const (.bool false)))])
    .ret)
    .skip))
  (.seq
   (.reg [
     .op (some 50) (.load true 1 (.tmp 1)),
     .op (some 51) (.call (.func 12) [(.tmp 50)]),
     .op (some 49) (.mv (.tmp 51)),
     .op (some 52) (.ext (.tmp 49) 0),
     .op (some 53) (.ext (.tmp 49) 1),
     .op (some 54) (.ext (.tmp 49) 2),
     .op (some 3) (.mv (.tmp 52)),
     .op (some 4) (.mv (.tmp 53)),
     .op (some 5) (.mv (.tmp 54))])
  (.seq
   (.reg [
     .op (some 55) (.mv (.tmp 5)),
     .op (some 56) (.eqk false (.ifc true) (.tmp 55) (.const .nilIface)),
     .op (some 57) (.mv (.tmp 56)),
     .gd (some 57) true (some 58) (.mv (.tmp 4)),
     .gd (some 57) true (some 59) (.lensl (.tmp 58)),
     .gd (some 57) true (some 60) (.bin .eql (.tmp 59) (.const (.int .i64 0))),
     .op (some 61) (.pick (.tmp 57) (.tmp 60) (.const (.bool false))),
     .op (some 62) (.mv (.tmp 61)),
     .gd (some 62) true (some 63) (.mv (.tmp 3)),
     .gd (some 62) true (some 64) (.cstr true (.tmp 63)),
     .gd (some 62) true (some 65) (.bin .eql (.tmp 64) (.const (.string ⟨⟨[49, 10, 48, 48, 58, 48, 48, 58, 48, 49, 44, 48, 48, 48, 32, 45, 45, 62, 32, 48, 48, 58, 48, 48, 58, 48, 50, 44, 53, 48, 48, 10, 60, 105, 62, 72, 105, 60, 47, 105, 62, 10, 116, 104, 101, 114, 101, 10, 10]⟩⟩))),
     .op (some 66) (.pick (.tmp 62) (.tmp 65) (.const (.bool false))),
     .op (some 0) (.mv (.tmp 66))])
  .ret)))))
theorem s5 : FnOK Tryz.prog 5 67 [ResultVar.tmp 0] c5 :=
  .mk' [] Tryz.func5 (by kernel_rfl) (by kernel_rfl) (by kernel_rfl)
def c10 : MC :=
  (.seq
   (.reg [
     .op (some 2) (.mv (.const (.string ⟨⟨[]⟩⟩)))])
  (.seq
   (.seq
    (.reg [
      .op (some 3) (.mv (.tmp 0))])
   (.block 0
    (.seq
     (.reg [
       .op (some 5) (.bin .eql (.tmp 3) (.const (.int .i64 41))),
       .op (some 4) (.mv (.tmp 5))])
    (.cond (.tmp 4)
     (.seq
      (.reg [
        .op (some 2) (.mv (.const (.string ⟨⟨[104, 101, 97, 100]⟩⟩)))])
     .ret)
     (.seq
      (.reg [
        .op (some 7) (.bin .eql (.tmp 3) (.const (.int .i64 42))),
        .op (some 6) (.mv (.tmp 7))])
     (.cond (.tmp 6)
      (.seq
       (.reg [
         .op (some 2) (.mv (.const (.string ⟨⟨[99, 111, 117, 110, 116]⟩⟩)))])
      .ret)
      (.seq
       (.reg [
         .op (some 9) (.bin .eql (.tmp 3) (.const (.int .i64 43))),
         .op (some 8) (.mv (.tmp 9))])
      (.cond (.tmp 8)
       (.seq
        (.reg [
          .op (some 2) (.mv (.const (.string ⟨⟨[108, 105, 110, 101]⟩⟩)))])
       .ret)
       (.seq
        (.reg [
          .op (some 11) (.bin .eql (.tmp 3) (.const (.int .i64 44))),
          .op (some 10) (.mv (.tmp 11))])
       (.cond (.tmp 10)
        (.seq
         (.reg [
           .op (some 2) (.mv (.const (.string ⟨⟨[101, 110, 100]⟩⟩)))])
        .ret)
        .skip))))))))))
  (.seq
   (.reg [
     .op (some 2) (.mv (.const (.string ⟨⟨[101, 114, 114, 111, 114]⟩⟩)))])
  .ret)))
theorem s10 : FnOK Tryz.prog 10 12 [ResultVar.tmp 2] c10 :=
  .mk' [] Tryz.func10 (by kernel_rfl) (by kernel_rfl) (by kernel_rfl)
def c11 : MC :=
  (.seq
   (.reg [
     .op (some 2) (.alloc [.nilslice] 28),
     .op (some 3) (.alloc [.int .i64 0, .int .i64 0, .int .i64 0] 30)])
  (.seq
   (.reg [
     .op (some 6) (.build [.nilslice, .int .i64 0, .int .i64 0, .nilslice] []),
     .op (some 7) (.box 49 (.tmp 6)),
     .op (some 4) (.mv (.tmp 7))])
  (.seq
   (.reg [
     .op (some 9) (.mv (.tmp 4)),
     .op (some 10) (.mv (.tmp 4)),
     .op (some 11) (.mv (.tmp 0)),
     .op (some 12) (.call (.func 13) [(.tmp 11)]),
     .op (some 8) (.mv (.tmp 12)),
     .op (some 13) (.ext (.tmp 8) 0),
     .op (some 14) (.ext (.tmp 8) 1),
     .op (some 15) (.nilck (.tmp 9)),
     .op (some 16) (.faddr 0 (.tmp 15)),
     .op none (.store 1 (.tmp 16) (.tmp 13)),
     .op (some 17) (.nilck (.tmp 10)),
     .op (some 18) (.faddr 1 (.tmp 17)),
     .op none (.store 1 (.tmp 18) (.tmp 14))])
  (.seq
   (.reg [
     .op (some 19) (.mv (.tmp 4)),
     .op (some 20) (.call (.func 14) [(.tmp 19)]),
     .op (some 5) (.alloc [.int .i64 0, .int .i64 0, .int .i64 0] 30),
     .op none (.store 3 (.tmp 5) (.tmp 20))])
  (.seq
   (.reg [
     .op (some 21) (.mv (.tmp 4)),
     .op (some 22) (.nilck (.tmp 21)),
     .op (some 23) (.faddr 3 (.tmp 22)),
     .op (some 24) (.load false 1 (.tmp 23)),
     .op (some 25) (.build [.nilslice] [(0, 1, (.tmp 24))]),
     .op (some 26) (.load true 3 (.tmp 5)),
     .op none (.store 1 (.tmp 2) (.tmp 25)),
     .ck false none (some 26) (.load true 3 (.tmp 5)),
     .op none (.store 3 (.tmp 3) (.tmp 26))])
  .ret)))))
theorem s11 : FnOK Tryz.prog 11 27 [ResultVar.cell 2 28, ResultVar.cell 3 30] c11 :=
  .mk' [(4, [], [(0, []), (1, []), (2, []), (3, []), (4, []), (5, []), (6, [5]), (7, [])])] Tryz.func11 (by kernel_rfl) (by kernel_rfl) (by kernel_rfl)
def c12 : MC :=
  (.seq
   (.reg [
     .op (some 1) (.box 28 (.tmp 0)),
     .op (some 2) (.mv (.const (.slice none 0 0))),
     .op (some 3) (.mv (.const (.slice none 0 0))),
     .op (some 4) (.mv (.const .nilIface))])
  (.seq
   (.reg [
     .op (some 18) (.load true 1 (.tmp 1)),
     .op (some 19) (.call (.func 15) [(.tmp 18)]),
     .op (some 17) (.mv (.tmp 19)),
     .op (some 20) (.ext (.tmp 17) 0),
     .op (some 21) (.ext (.tmp 17) 1),
     .op (some 22) (.ext (.tmp 17) 2),
     .op (some 5) (.alloc [.nilslice] 28),
     .op none (.store 1 (.tmp 5) (.tmp 20)),
     .op (some 6) (.mv (.tmp 21)),
     .op (some 7) (.mv (.tmp 22))])
  (.seq
   (.seq
    (.reg [
      .op (some 23) (.mv (.tmp 7)),
      .op (some 24) (.eqk true (.ifc true) (.tmp 23) (.const .nilIface))])
   (.cond (.tmp 24)
    (.seq
     (.reg [
       .op (some 25) (.mv (.tmp 7)),
       .op (some 2) (.mv (.const (.slice none 0 0))),
       .op (some 3) (.mv (.const (.slice none 0 0))),
       .op (some 4) (.mv (.tmp 25))])
    .ret)
    .skip))
  (.seq
   (.reg [
     .op (some 8) (.mv (.const (.slice none 0 0)))])
  (.seq
   (.seq
    (.reg [
      .op (some 26) (.faddr 0 (.tmp 5)),
      .op (some 27) (.load false 1 (.tmp 26)),
      .op (some 28) (.lensl (.tmp 27)),
      .op (some 29) (.mv (.const (.int .i64 0)))])
   (.block 0
    (.loop
     (.seq
      (.reg [
        .op (some 30) (.bin .lss (.tmp 29) (.tmp 28))])
     (.seq
      (.cond (.tmp 30)
       .skip
       (.exit 0))
     (.seq
      (.block 1
       (.seq
        (.reg [
          .op (some 31) (.mv (.tmp 29)),
          .op (some 32) (.ias 9 (.tmp 27) (.tmp 29)),
          .op (some 33) (.load true 9 (.tmp 32)),
          .op (some 10) (.alloc [.int .i64 0, .int .i64 0, .int .i64 0, .int .i64 0, .int .i64 0, .int .i64 0, .str [], .str [], .nilslice] 40),
          .op (some 9) (.mv (.tmp 31)),
          .op none (.store 9 (.tmp 10) (.tmp 33))])
       (.seq
        (.reg [
          .op (some 35) (.faddr 0 (.tmp 10)),
          .op (some 36) (.load true 2 (.tmp 35)),
          .op (some 37) (.call (.func 16) [(.const (.int .i64 1)), (.tmp 36)]),
          .op (some 34) (.mv (.tmp 37)),
          .op (some 38) (.ext (.tmp 34) 0),
          .op (some 39) (.ext (.tmp 34) 1),
          .op (some 11) (.mv (.tmp 38)),
          .op (some 12) (.mv (.tmp 39))])
       (.seq
        (.reg [
          .op (some 41) (.faddr 2 (.tmp 10)),
          .op (some 42) (.load true 2 (.tmp 41)),
          .op (some 43) (.call (.func 16) [(.const (.int .i64 1)), (.tmp 42)]),
          .op (some 40) (.mv (.tmp 43)),
          .op (some 44) (.ext (.tmp 40) 0),
          .op (some 45) (.ext (.tmp 40) 1),
          .op (some 13) (.mv (.tmp 44)),
          .op (some 14) (.mv (.tmp 45))])
       (.seq
        (.reg [
          .op (some 46) (.mv (.tmp 8)),
          .op (some 47) (.mv (.tmp 9)),
          .op (some 48) (.bin .add (.tmp 47) (.const (.int .i64 1))),
          .op (some 49) (.call (.func 17) [(.tmp 46), (.tmp 48), (.const (.int .i64 10))]),
          .op (some 8) (.mv (.tmp 49))])
       (.seq
        (.reg [
          .op (some 50) (.mv (.tmp 8)),
          .op (some 51) (.mv (.tmp 11)),
          .op (some 52) (.bin .add (.const (.string ⟨⟨[10]⟩⟩)) (.tmp 51)),
          .op (some 53) (.bin .add (.tmp 52) (.const (.string ⟨⟨[32, 45, 45, 62, 32]⟩⟩))),
          .op (some 54) (.mv (.tmp 13)),
          .op (some 55) (.bin .add (.tmp 53) (.tmp 54)),
          .op (some 56) (.bin .add (.tmp 55) (.const (.string ⟨⟨[10]⟩⟩))),
          .op (some 57) (.app 5 1 1 (.tmp 50) (.tmp 56)),
          .op (some 8) (.mv (.tmp 57))])
       (.seq
        (.seq
         (.reg [
           .op (some 59) (.faddr 7 (.tmp 10)),
           .op (some 60) (.load true 2 (.tmp 59)),
           .op (some 61) (.build [.str [], .nilslice, .str [], .int .i64 0] [(0, 2, (.tmp 60))]),
           .op (some 62) (.call (.func 18) [(.const (.int .i64 1)), (.tmp 61)]),
           .op (some 58) (.mv (.tmp 62)),
           .op (some 63) (.ext (.tmp 58) 0),
           .op (some 64) (.ext (.tmp 58) 1),
           .op (some 15) (.mv (.tmp 63)),
           .op (some 16) (.mv (.tmp 64))])
        (.seq
         (.reg [
           .op (some 65) (.mv (.tmp 15)),
           .op (some 66) (.bin .neq (.tmp 65) (.const (.string ⟨⟨[]⟩⟩)))])
        (.cond (.tmp 66)
         (.reg [
           .op (some 67) (.mv (.tmp 8)),
           .op (some 68) (.mv (.tmp 15)),
           .op (some 69) (.app 5 1 1 (.tmp 67) (.tmp 68)),
           .op (some 70) (.bslice 5 1 [.int .u8 0] [(0, 1, (.const (.int .u8 10)))]),
           .op (some 71) (.app 5 1 1 (.tmp 69) (.tmp 70)),
           .op (some 8) (.mv (.tmp 71))])
         .skip)))
       (.seq
        (.reg [
          .op (some 72) (.mv (.tmp 8)),
          .op (some 73) (.bslice 5 1 [.int .u8 0] [(0, 1, (.const (.int .u8 10)))]),
          .op (some 74) (.app 5 1 1 (.tmp 72) (.tmp 73)),
          .op (some 8) (.mv (.tmp 74))])
       (.seq
        (.reg [
          .op (some 75) (.mv (.tmp 8)),
          .op (some 76) (.lensl (.tmp 75)),
          .op (some 77) (.bin .gtr (.tmp 76) (.const (.int .i64 4194304)))])
       (.cond (.tmp 77)
        (.seq
         (.reg [
           .op (some 78) (.build [.int .i64 0, .int .i64 0] [(1, 1, (.const (.int .i64 3)))]),
           .op (some 79) (.box 63 (.tmp 78)),
           .op (some 80) (.ifc 61 (.tmp 79)),
           .op (some 2) (.mv (.const (.slice none 0 0))),
           .op (some 3) (.mv (.const (.slice none 0 0))),
           .op (some 4) (.mv (.tmp 80))])
        .ret)
        .skip))))))))))
     (.reg [
       .op (some 81) (.bin .add (.tmp 29) (.const (.int .i64 1))),
       .op (some 29) (.mv (.tmp 81))])))))))
  (.seq
   (.reg [
     .op (some 82) (.mv (.tmp 8)),
     .op (some 83) (.mv (.tmp 6)),
     .op (some 2) (.mv (.tmp 82)),
     .op (some 3) (.mv (.tmp 83)),
     .op (some 4) (.mv (.const .nilIface))])
  .ret))))))
theorem s12 : FnOK Tryz.prog 12 84 [ResultVar.tmp 2, ResultVar.tmp 3, ResultVar.tmp 4] c12 :=
  .mk' [] Tryz.func12 (by kernel_rfl) (by kernel_rfl) (by kernel_rfl)
def c13 : MC :=
  (.seq
   (.reg [
     .op (some 2) (.mv (.const (.slice none 0 0))),
     .op (some 3) (.mv (.const (.int .i64 0)))])
  (.seq
   (.seq
    (.reg [
      .op (some 11) (.mv (.tmp 0)),
      .op (some 12) (.lensl (.tmp 11)),
      .op (some 13) (.bin .leq (.tmp 12) (.const (.int .i64 4194304)))])
   (.cond (.tmp 13)
    (.seq
     (.reg [
       .op (some 4) (.alloc [.nilslice] 47)])
    (.seq
     (.seq
      (.reg [
        .op (some 14) (.mv (.tmp 0)),
        .op (some 15) (.cstr true (.tmp 14)),
        .op (some 16) (.call (.func 19) [(.tmp 15)])])
     (.block 0
      (.range (.tmp 16) [17, 18]
       (.reg [
         .op (some 6) (.mv (.tmp 18))])
       (.block 1
        (.reg [
          .op (some 19) (.load false 1 (.tmp 4)),
          .op (some 20) (.mv (.tmp 6)),
          .op (some 21) (.bslice 9 1 [.str []] [(0, 1, (.tmp 20))]),
          .op (some 22) (.app 9 1 16 (.tmp 19) (.tmp 21)),
          .op none (.store 1 (.tmp 4) (.tmp 22))])))))
    (.seq
     (.reg [
       .op (some 23) (.load false 1 (.tmp 4)),
       .op (some 2) (.mv (.tmp 23)),
       .op (some 3) (.mv (.const (.int .i64 0)))])
    .ret)))
    .skip))
  (.seq
   (.reg [
     .op (some 7) (.mv (.const (.slice none 0 0)))])
  (.seq
   (.reg [
     .op (some 8) (.mv (.const (.int .i64 0)))])
  (.seq
   (.reg [
     .op (some 9) (.mv (.const (.int .i64 0)))])
  (.block 2
   (.loop
    (.seq
     (.block 3
      (.seq
       (.reg [
         .op (some 26) (.mv (.tmp 8)),
         .op (some 10) (.mv (.tmp 26))])
      (.seq
       (.block 4
        (.loop
         (.seq
          (.seq
           (.reg [
             .op (some 27) (.mv (.tmp 10)),
             .op (some 28) (.mv (.tmp 0)),
             .op (some 29) (.lensl (.tmp 28)),
             .op (some 30) (.bin .lss (.tmp 27) (.tmp 29)),
             .op (some 31) (.mv (.tmp 30)),
             .gd (some 31) true (some 32) (.mv (.tmp 0)),
             .gd (some 31) true (some 33) (.mv (.tmp 10)),
             .gd (some 31) true (some 34) (.ias 1 (.tmp 32) (.tmp 33)),
             .gd (some 31) true (some 35) (.load false 1 (.tmp 34)),
             .gd (some 31) true (some 36) (.bin .neq (.tmp 35) (.const (.int .u8 10))),
             .op (some 37) (.pick (.tmp 31) (.tmp 36) (.const (.bool false))),
             .op (some 38) (.mv (.tmp 37)),
             .gd (some 38) true (some 39) (.mv (.tmp 0)),
             .gd (some 38) true (some 40) (.mv (.tmp 10)),
             .gd (some 38) true (some 41) (.ias 1 (.tmp 39) (.tmp 40)),
             .gd (some 38) true (some 42) (.load false 1 (.tmp 41)),
             .gd (some 38) true (some 43) (.bin .neq (.tmp 42) (.const (.int .u8 13))),
             .op (some 44) (.pick (.tmp 38) (.tmp 43) (.const (.bool false)))])
          (.cond (.tmp 44)
           .skip
           (.exit 4)))
         (.block 5
          (.reg [
            .op (some 45) (.mv (.tmp 10)),
            .op (some 46) (.bin .add (.tmp 45) (.const (.int .i64 1))),
            .op (some 10) (.mv (.tmp 46))])))))
      (.seq
       (.seq
        (.reg [
          .op (some 47) (.mv (.tmp 10)),
          .op (some 48) (.bin .geq (.tmp 47) (.const (.int .i64 4194304)))])
       (.cond (.tmp 48)
        (.seq
         (.reg [
           .op (some 49) (.mv (.tmp 7)),
           .op (some 50) (.mv (.tmp 9)),
           .op (some 51) (.bin .add (.tmp 50) (.const (.int .i64 1))),
           .op (some 2) (.mv (.tmp 49)),
           .op (some 3) (.mv (.tmp 51))])
        .ret)
        .skip))
      (.seq
       (.reg [
         .op (some 52) (.mv (.tmp 7)),
         .op (some 53) (.mv (.tmp 0)),
         .op (some 54) (.mv (.tmp 8)),
         .op (some 55) (.mv (.tmp 10)),
         .op (some 56) (.ssl 5 1 (.tmp 53) (some (.tmp 54)) (some (.tmp 55)) none),
         .op (some 57) (.cstr true (.tmp 56)),
         .op (some 58) (.bslice 9 1 [.str []] [(0, 1, (.tmp 57))]),
         .op (some 59) (.app 9 1 16 (.tmp 52) (.tmp 58)),
         .op (some 7) (.mv (.tmp 59))])
      (.seq
       (.reg [
         .op (some 60) (.mv (.tmp 10)),
         .op (some 61) (.bin .add (.tmp 60) (.const (.int .i64 1))),
         .op (some 8) (.mv (.tmp 61))])
      (.seq
       (.reg [
         .op (some 62) (.mv (.tmp 0)),
         .op (some 63) (.mv (.tmp 10)),
         .op (some 64) (.ias 1 (.tmp 62) (.tmp 63)),
         .op (some 65) (.load false 1 (.tmp 64)),
         .op (some 66) (.bin .eql (.tmp 65) (.const (.int .u8 13))),
         .op (some 67) (.mv (.tmp 66)),
         .gd (some 67) true (some 68) (.mv (.tmp 8)),
         .gd (some 67) true (some 69) (.mv (.tmp 0)),
         .gd (some 67) true (some 70) (.lensl (.tmp 69)),
         .gd (some 67) true (some 71) (.bin .lss (.tmp 68) (.tmp 70)),
         .op (some 72) (.pick (.tmp 67) (.tmp 71) (.const (.bool false))),
         .op (some 73) (.mv (.tmp 72)),
         .gd (some 73) true (some 74) (.mv (.tmp 0)),
         .gd (some 73) true (some 75) (.mv (.tmp 8)),
         .gd (some 73) true (some 76) (.ias 1 (.tmp 74) (.tmp 75)),
         .gd (some 73) true (some 77) (.load false 1 (.tmp 76)),
         .gd (some 73) true (some 78) (.bin .eql (.tmp 77) (.const (.int .u8 10))),
         .op (some 79) (.pick (.tmp 73) (.tmp 78) (.const (.bool false)))])
      (.cond (.tmp 79)
       (.seq
        (.reg [
          .op (some 80) (.mv (.tmp 8)),
          .op (some 81) (.bin .add (.tmp 80) (.const (.int .i64 1))),
          .op (some 8) (.mv (.tmp 81))])
       (.seq
        (.reg [
          .op (some 82) (.mv (.tmp 8)),
          .op (some 83) (.bin .gtr (.tmp 82) (.const (.int .i64 4194304)))])
       (.cond (.tmp 83)
        (.seq
         (.reg [
           .op (some 84) (.mv (.tmp 7)),
           .op (some 85) (.mv (.tmp 9)),
           .op (some 86) (.bin .add (.tmp 85) (.const (.int .i64 2))),
           .op (some 2) (.mv (.tmp 84)),
           .op (some 3) (.mv (.tmp 86))])
        .ret)
        .skip)))
       .skip))))))))
    (.reg [
      .op (some 24) (.mv (.tmp 9)),
      .op (some 25) (.bin .add (.tmp 24) (.const (.int .i64 1))),
      .op (some 9) (.mv (.tmp 25))])))))))))
theorem s13 : FnOK Tryz.prog 13 87 [ResultVar.tmp 2, ResultVar.tmp 3] c13 :=
  .mk' [] Tryz.func13 (by kernel_rfl) (by kernel_rfl) (by kernel_rfl)
def c14 : MC :=
  (.seq
   (.reg [
     .op (some 2) (.alloc [.int .i64 0, .int .i64 0, .int .i64 0] 30)])
  (.seq
   (.reg [
     .op (some 5) (.fnc 20 [] [(.tmp 2)]),
     .op none (.dfr (.tmp 5) [])])
  (.seq
   (.seq
    (.reg [
      .op (some 7) (.mv (.tmp 0)),
      .op (some 8) (.call (.func 21) [(.tmp 7)]),
      .op (some 6) (.mv (.tmp 8)),
      .op (some 9) (.ext (.tmp 6) 0),
      .op (some 10) (.ext (.tmp 6) 1),
      .op (some 3) (.mv (.tmp 9)),
      .op (some 4) (.mv (.tmp 10))])
   (.block 0
    (.loop
     (.seq
      (.seq
       (.reg [
         .op (some 11) (.mv (.tmp 4))])
      (.cond (.tmp 11)
       .skip
       (.exit 0)))
     (.seq
      (.block 1
       (.seq
        (.seq
         (.reg [
           .op (some 17) (.mv (.tmp 3)),
           .op (some 18) (.bin .eql (.tmp 17) (.const (.string ⟨⟨[]⟩⟩))),
           .op (some 19) (.mv (.tmp 18)),
           .gd (some 19) false (some 20) (.mv (.tmp 0)),
           .gd (some 19) false (some 21) (.nilck (.tmp 20)),
           .gd (some 19) false (some 22) (.faddr 2 (.tmp 21)),
           .gd (some 19) false (some 23) (.load false 1 (.tmp 22)),
           .gd (some 19) false (some 24) (.bin .eql (.tmp 23) (.const (.int .i64 1))),
           .gd (some 19) false (some 25) (.mv (.tmp 24)),
           .gd (some 25) true (some 26) (.mv (.tmp 3)),
           .gd (some 25) true (some 27) (.bin .eql (.tmp 26) (.const (.string ⟨⟨[239, 187, 191]⟩⟩))),
           .gd (some 19) false (some 28) (.pick (.tmp 25) (.tmp 27) (.const (.bool false))),
           .op (some 29) (.pick (.tmp 19) (.const (.bool true)) (.tmp 28))])
        (.cond (.tmp 29)
         (.exit 1)
         .skip))
       (.reg [
         .op (some 30) (.mv (.tmp 0)),
         .op (some 31) (.mv (.tmp 3)),
         .op (some 32) (.call (.func 22) [(.tmp 30), (.tmp 31)])])))
     (.reg [
       .op (some 13) (.mv (.tmp 0)),
       .op (some 14) (.call (.func 21) [(.tmp 13)]),
       .op (some 12) (.mv (.tmp 14)),
       .op (some 15) (.ext (.tmp 12) 0),
       .op (some 16) (.ext (.tmp 12) 1),
       .op (some 3) (.mv (.tmp 15)),
       .op (some 4) (.mv (.tmp 16))]))))))
  (.seq
   (.reg [
     .op (some 33) (.build [.int .i64 0, .int .i64 0, .int .i64 0] []),
     .op none (.store 3 (.tmp 2) (.tmp 33))])
  .ret))))
theorem s14 : FnOK Tryz.prog 14 34 [ResultVar.cell 2 30] c14 :=
  .mk' [] Tryz.func14 (by kernel_rfl) (by kernel_rfl) (by kernel_rfl)
def c15 : MC :=
  (.seq
   (.reg [
     .op (some 1) (.box 28 (.tmp 0)),
     .op (some 2) (.alloc [.nilslice] 28),
     .op (some 3) (.mv (.const (.slice none 0 0))),
     .op (some 4) (.mv (.const .nilIface))])
  (.seq
   (.reg [
     .op (some 5) (.load true 1 (.tmp 1)),
     .op (some 6) (.call (.func 24) []),
     .ck false none (some 5) (.load true 1 (.tmp 1)),
     .op (some 7) (.call (.func 23) [(.tmp 5), (.tmp 6)]),
     .op (some 8) (.ext (.tmp 7) 0),
     .op (some 9) (.ext (.tmp 7) 1),
     .op (some 10) (.ext (.tmp 7) 2),
     .op none (.store 1 (.tmp 2) (.tmp 8)),
     .op (some 3) (.mv (.tmp 9)),
     .op (some 4) (.mv (.tmp 10))])
  .ret))
theorem s15 : FnOK Tryz.prog 15 11 [ResultVar.cell 2 28, ResultVar.tmp 3, ResultVar.tmp 4] c15 :=
  .mk' [(1, [], [(0, []), (1, [0]), (2, []), (3, []), (4, []), (5, []), (6, []), (7, []), (8, [])])] Tryz.func15 (by kernel_rfl) (by kernel_rfl) (by kernel_rfl)
def c16 : MC :=
  (.seq
   (.reg [
     .op (some 3) (.box 38 (.tmp 1)),
     .op (some 4) (.mv (.const (.string ⟨⟨[]⟩⟩))),
     .op (some 5) (.mv (.const (.int .i64 0)))])
  (.seq
   (.reg [
     .op (some 6) (.mv (.const (.int .i64 1000))),
     .op (some 7) (.mv (.const (.string ⟨⟨[44]⟩⟩))),
     .op (some 8) (.mv (.const (.int .i64 2)))])
  (.seq
   (.seq
    (.reg [
      .op (some 12) (.mv (.tmp 0))])
   (.block 0
    (.seq
     (.reg [
       .op (some 14) (.bin .eql (.tmp 12) (.const (.int .i64 1))),
       .op (some 13) (.mv (.tmp 14))])
    (.cond (.tmp 13)
     .skip
     (.seq
      (.reg [
        .op (some 16) (.bin .eql (.tmp 12) (.const (.int .i64 2))),
        .op (some 15) (.mv (.tmp 16))])
     (.cond (.tmp 15)
      (.reg [
        .op (some 7) (.mv (.const (.string ⟨⟨[46]⟩⟩)))])
      (.seq
       (.reg [
         .op (some 18) (.bin .eql (.tmp 12) (.const (.int .i64 4))),
         .op (some 17) (.mv (.tmp 18))])
      (.cond (.tmp 17)
       (.reg [
         .op (some 6) (.mv (.const (.int .i64 100))),
         .op (some 7) (.mv (.const (.string ⟨⟨[46]⟩⟩))),
         .op (some 8) (.mv (.const (.int .i64 1)))])
       (.seq
        (.reg [
          .op (some 4) (.mv (.const (.string ⟨⟨[]⟩⟩))),
          .op (some 5) (.mv (.const (.int .i64 5)))])
       .ret)))))))))
  (.seq
   (.seq
    (.reg [
      .op (some 19) (.load true 2 (.tmp 3)),
      .op (some 20) (.call (.func 25) [(.tmp 19)]),
      .op (some 9) (.mv (.tmp 20))])
   (.seq
    (.reg [
      .op (some 21) (.mv (.tmp 9)),
      .op (some 22) (.bin .neq (.tmp 21) (.const (.int .i64 0)))])
   (.cond (.tmp 22)
    (.seq
     (.reg [
       .op (some 23) (.mv (.tmp 9)),
       .op (some 4) (.mv (.const (.string ⟨⟨[]⟩⟩))),
       .op (some 5) (.mv (.tmp 23))])
    .ret)
    .skip)))
  (.seq
   (.seq
    (.reg [
      .op (some 24) (.mv (.tmp 6)),
      .op (some 25) (.faddr 1 (.tmp 3)),
      .op (some 26) (.load false 1 (.tmp 25)),
      .op (some 27) (.bin .rem (.tmp 24) (.tmp 26)),
      .op (some 28) (.bin .neq (.tmp 27) (.const (.int .i64 0)))])
   (.cond (.tmp 28)
    (.seq
     (.reg [
       .op (some 4) (.mv (.const (.string ⟨⟨[]⟩⟩))),
       .op (some 5) (.mv (.const (.int .i64 1)))])
    .ret)
    .skip))
  (.seq
   (.reg [
     .op (some 29) (.faddr 0 (.tmp 3)),
     .op (some 30) (.load false 1 (.tmp 29)),
     .op (some 31) (.mv (.tmp 6)),
     .op (some 32) (.faddr 1 (.tmp 3)),
     .op (some 33) (.load false 1 (.tmp 32)),
     .op (some 34) (.bin .quo (.tmp 31) (.tmp 33)),
     .op (some 35) (.bin .mul (.tmp 30) (.tmp 34)),
     .op (some 10) (.mv (.tmp 35))])
  (.seq
   (.reg [
     .op (some 36) (.mv (.tmp 10)),
     .op (some 37) (.mv (.tmp 6)),
     .op (some 38) (.bin .quo (.tmp 36) (.tmp 37)),
     .op (some 11) (.mv (.tmp 38))])
  (.seq
   (.reg [
     .op (some 39) (.mv (.tmp 11)),
     .op (some 40) (.bin .quo (.tmp 39) (.const (.int .i64 3600))),
     .op (some 41) (.mv (.tmp 8)),
     .op (some 44) (.mv (.tmp 11)),
     .op (some 45) (.bin .quo (.tmp 44) (.const (.int .i64 60))),
     .op (some 46) (.bin .rem (.tmp 45) (.const (.int .i64 60))),
     .op (some 50) (.mv (.tmp 11)),
     .op (some 51) (.bin .rem (.tmp 50) (.const (.int .i64 60))),
     .op (some 54) (.mv (.tmp 7)),
     .op (some 56) (.mv (.tmp 10)),
     .op (some 57) (.mv (.tmp 6)),
     .op (some 58) (.bin .rem (.tmp 56) (.tmp 57)),
     .op (some 59) (.mv (.tmp 6)),
     .op (some 60) (.bin .sub (.tmp 59) (.const (.int .i64 1))),
     .op (some 42) (.call (.func 26) [(.tmp 40), (.tmp 41)]),
     .op (some 43) (.bin .add (.tmp 42) (.const (.string ⟨⟨[58]⟩⟩))),
     .op (some 47) (.call (.func 26) [(.tmp 46), (.const (.int .i64 2))]),
     .op (some 48) (.bin .add (.tmp 43) (.tmp 47)),
     .op (some 49) (.bin .add (.tmp 48) (.const (.string ⟨⟨[58]⟩⟩))),
     .op (some 52) (.call (.func 26) [(.tmp 51), (.const (.int .i64 2))]),
     .op (some 53) (.bin .add (.tmp 49) (.tmp 52)),
     .op (some 55) (.bin .add (.tmp 53) (.tmp 54)),
     .op (some 61) (.call (.func 27) [(.tmp 60), (.const (.int .i64 10))]),
     .op (some 62) (.lenstr (.tmp 61)),
     .op (some 63) (.call (.func 26) [(.tmp 58), (.tmp 62)]),
     .op (some 64) (.bin .add (.tmp 55) (.tmp 63)),
     .op (some 4) (.mv (.tmp 64)),
     .op (some 5) (.mv (.const (.int .i64 0)))])
  .ret))))))))
theorem s16 : FnOK Tryz.prog 16 65 [ResultVar.tmp 4, ResultVar.tmp 5] c16 :=
  .mk' [(14, [], [(0, []), (1, []), (2, []), (3, []), (4, []), (5, []), (6, []), (7, [])]), (16, [], [(0, []), (1, []), (2, []), (5, []), (6, []), (7, []), (11, []), (12, []), (15, []), (17, []), (18, []), (19, []), (20, []), (21, []), (3, []), (4, []), (8, []), (9, []), (10, []), (13, []), (14, []), (16, []), (22, []), (23, []), (24, []), (25, []), (26, []), (27, [])])] Tryz.func16 (by kernel_rfl) (by kernel_rfl) (by kernel_rfl)
def c17 : MC :=
  (.seq
   (.reg [
     .op (some 6) (.mv (.const (.slice none 0 0)))])
  (.seq
   (.reg [
     .op (some 7) (.mv (.tmp 0)),
     .op (some 8) (.mv (.tmp 1)),
     .op (some 9) (.mv (.tmp 2)),
     .op (some 10) (.call (.func 28) [(.tmp 7), (.tmp 8), (.tmp 9)]),
     .op (some 6) (.mv (.tmp 10))])
  .ret))
theorem s17 : FnOK Tryz.prog 17 11 [ResultVar.tmp 6] c17 :=
  .mk' [] Tryz.func17 (by kernel_rfl) (by kernel_rfl) (by kernel_rfl)
def c18 : MC :=
  (.seq
   (.reg [
     .op (some 3) (.box 60 (.tmp 1)),
     .op (some 4) (.mv (.const (.string ⟨⟨[]⟩⟩))),
     .op (some 5) (.mv (.const (.int .i64 0)))])
  (.seq
   (.seq
    (.reg [
      .op (some 12) (.mv (.tmp 0)),
      .op (some 13) (.bin .lss (.tmp 12) (.const (.int .i64 1))),
      .op (some 14) (.mv (.tmp 13)),
      .gd (some 14) false (some 15) (.mv (.tmp 0)),
      .gd (some 14) false (some 16) (.bin .gtr (.tmp 15) (.const (.int .i64 4))),
      .op (some 17) (.pick (.tmp 14) (.const (.bool true)) (.tmp 16))])
   (.cond (.tmp 17)
    (.seq
     (.reg [
       .op (some 4) (.mv (.const (.string ⟨⟨[]⟩⟩))),
       .op (some 5) (.mv (.const (.int .i64 5)))])
    .ret)
    .skip))
  (.seq
   (.seq
    (.reg [
      .op (some 18) (.faddr 0 (.tmp 3)),
      .op (some 19) (.load true 2 (.tmp 18)),
      .op (some 20) (.call (.func 29) [(.tmp 19)]),
      .op (some 6) (.mv (.tmp 20))])
   (.seq
    (.reg [
      .op (some 21) (.mv (.tmp 6)),
      .op (some 22) (.bin .neq (.tmp 21) (.const (.int .i64 0)))])
   (.cond (.tmp 22)
    (.seq
     (.reg [
       .op (some 23) (.mv (.tmp 6)),
       .op (some 4) (.mv (.const (.string ⟨⟨[]⟩⟩))),
       .op (some 5) (.mv (.tmp 23))])
    .ret)
    .skip)))
  (.seq
   (.seq
    (.reg [
      .op (some 24) (.faddr 2 (.tmp 3)),
      .op (some 25) (.load false 1 (.tmp 24)),
      .op (some 26) (.call (.func 30) [(.tmp 25)]),
      .op (some 27) (.un .not (.tmp 26))])
   (.cond (.tmp 27)
    (.seq
     (.reg [
       .op (some 4) (.mv (.const (.string ⟨⟨[]⟩⟩))),
       .op (some 5) (.mv (.const (.int .i64 25)))])
    .ret)
    .skip))
  (.seq
   (.seq
    (.reg [
      .op (some 28) (.faddr 3 (.tmp 3)),
      .op (some 29) (.load false 1 (.tmp 28)),
      .op (some 30) (.bin .neq (.tmp 29) (.const (.int .i64 0))),
      .op (some 31) (.mv (.tmp 30)),
      .gd (some 31) true (some 32) (.faddr 3 (.tmp 3)),
      .gd (some 31) true (some 33) (.load false 1 (.tmp 32)),
      .gd (some 31) true (some 34) (.bin .neq (.tmp 33) (.const (.int .i64 1))),
      .op (some 35) (.pick (.tmp 31) (.tmp 34) (.const (.bool false)))])
   (.cond (.tmp 35)
    (.seq
     (.reg [
       .op (some 4) (.mv (.const (.string ⟨⟨[]⟩⟩))),
       .op (some 5) (.mv (.const (.int .i64 34)))])
    .ret)
    .skip))
  (.seq
   (.reg [
     .op (some 37) (.mv (.tmp 0)),
     .op (some 38) (.faddr 0 (.tmp 3)),
     .op (some 39) (.load true 2 (.tmp 38)),
     .op (some 40) (.call (.func 31) [(.tmp 37), (.tmp 39), (.const (.bool true))]),
     .op (some 36) (.mv (.tmp 40)),
     .op (some 41) (.ext (.tmp 36) 0),
     .op (some 42) (.ext (.tmp 36) 1),
     .op (some 43) (.ext (.tmp 36) 2),
     .op (some 44) (.ext (.tmp 36) 3),
     .op (some 45) (.ext (.tmp 36) 4),
     .op (some 7) (.alloc [.str [], .nilslice] 36),
     .op none (.store 2 (.tmp 7) (.tmp 41)),
     .op (some 8) (.mv (.tmp 42)),
     .op (some 9) (.mv (.tmp 43)),
     .op (some 10) (.mv (.tmp 44)),
     .op (some 11) (.mv (.tmp 45))])
  (.seq
   (.seq
    (.reg [
      .op (some 46) (.mv (.tmp 11)),
      .op (some 47) (.bin .neq (.tmp 46) (.const (.int .i64 0))),
      .op (some 48) (.mv (.tmp 47)),
      .gd (some 48) false (some 49) (.mv (.tmp 8)),
      .gd (some 48) false (some 50) (.mv (.tmp 10)),
      .gd (some 48) false (some 51) (.bin .add (.tmp 49) (.tmp 50)),
      .gd (some 48) false (some 52) (.bin .gtr (.tmp 51) (.const (.int .i64 0))),
      .op (some 53) (.pick (.tmp 48) (.const (.bool true)) (.tmp 52)),
      .op (some 54) (.mv (.tmp 53)),
      .gd (some 54) false (some 55) (.faddr 2 (.tmp 3)),
      .gd (some 54) false (some 56) (.load false 1 (.tmp 55)),
      .gd (some 54) false (some 57) (.bin .neq (.tmp 56) (.const (.string ⟨⟨[]⟩⟩))),
      .gd (some 54) false (some 58) (.mv (.tmp 57)),
      .gd (some 58) true (some 59) (.mv (.tmp 0)),
      .gd (some 58) true (some 60) (.bin .neq (.tmp 59) (.const (.int .i64 2))),
      .gd (some 54) false (some 61) (.pick (.tmp 58) (.tmp 60) (.const (.bool false))),
      .op (some 62) (.pick (.tmp 54) (.const (.bool true)) (.tmp 61)),
      .op (some 63) (.mv (.tmp 62)),
      .gd (some 63) false (some 64) (.faddr 3 (.tmp 3)),
      .gd (some 63) false (some 65) (.load false 1 (.tmp 64)),
      .gd (some 63) false (some 66) (.bin .eql (.tmp 65) (.const (.int .i64 1))),
      .gd (some 63) false (some 67) (.mv (.tmp 66)),
      .gd (some 67) true (some 68) (.mv (.tmp 0)),
      .gd (some 67) true (some 69) (.bin .neq (.tmp 68) (.const (.int .i64 4))),
      .gd (some 63) false (some 70) (.pick (.tmp 67) (.tmp 69) (.const (.bool false))),
      .op (some 71) (.pick (.tmp 63) (.const (.bool true)) (.tmp 70))])
   (.cond (.tmp 71)
    (.seq
     (.reg [
       .op (some 4) (.mv (.const (.string ⟨⟨[]⟩⟩))),
       .op (some 5) (.mv (.const (.int .i64 24)))])
    .ret)
    .skip))
  (.seq
   (.seq
    (.reg [
      .op (some 72) (.mv (.tmp 0))])
   (.block 0
    (.seq
     (.reg [
       .op (some 74) (.bin .eql (.tmp 72) (.const (.int .i64 3))),
       .op (some 73) (.mv (.tmp 74))])
    (.cond (.tmp 73)
     (.seq
      (.reg [
        .op (some 75) (.load true 4 (.tmp 3)),
        .op (some 76) (.call (.func 32) [(.tmp 75)]),
        .op (some 4) (.mv (.tmp 76)),
        .op (some 5) (.mv (.const (.int .i64 0)))])
     .ret)
     (.seq
      (.reg [
        .op (some 78) (.bin .eql (.tmp 72) (.const (.int .i64 4))),
        .op (some 77) (.mv (.tmp 78))])
     (.cond (.tmp 77)
      (.seq
       (.reg [
         .op (some 79) (.load true 4 (.tmp 3)),
         .op (some 80) (.call (.func 33) [(.tmp 79)]),
         .op (some 4) (.mv (.tmp 80)),
         .op (some 5) (.mv (.const (.int .i64 0)))])
      .ret)
      .skip))))))
  (.seq
   (.reg [
     .op (some 81) (.mv (.tmp 0)),
     .op (some 82) (.load true 4 (.tmp 3)),
     .op (some 83) (.call (.func 34) [(.tmp 81), (.tmp 82)]),
     .op (some 4) (.mv (.tmp 83)),
     .op (some 5) (.mv (.const (.int .i64 0)))])
  .ret)))))))))
theorem s18 : FnOK Tryz.prog 18 84 [ResultVar.tmp 4, ResultVar.tmp 5] c18 :=
  .mk' [] Tryz.func18 (by kernel_rfl) (by kernel_rfl) (by kernel_rfl)
def c19 : MC :=
  (.seq
   (.reg [
     .op (some 1) (.box 9 (.tmp 0)),
     .op (some 2) (.mv (.const .nilFunc))])
  (.seq
   (.reg [
     .op (some 3) (.fnc 35 [] [(.tmp 1)]),
     .op (some 2) (.mv (.tmp 3))])
  .ret))
theorem s19 : FnOK Tryz.prog 19 4 [ResultVar.tmp 2] c19 :=
  .mk' [] Tryz.func19 (by kernel_rfl) (by kernel_rfl) (by kernel_rfl)
def c20 : MC :=
  (.seq
   (.reg [
     .op (some 4) (.recov),
     .op (some 5) (.gen (.typeAssert (.tmp 4) 20 68 true)),
     .op (some 3) (.mv (.tmp 5)),
     .op (some 6) (.ext (.tmp 3) 0),
     .op (some 7) (.ext (.tmp 3) 1),
     .op (some 1) (.alloc [.int .i64 0, .int .i64 0, .int .i64 0] 68),
     .op none (.store 3 (.tmp 1) (.tmp 6)),
     .op (some 2) (.mv (.tmp 7))])
  (.seq
   (.reg [
     .op (some 8) (.mv (.tmp 2))])
  (.cond (.tmp 8)
   (.reg [
     .op (some 9) (.faddr 0 (.tmp 1)),
     .op (some 10) (.load true 3 (.tmp 9)),
     .op none (.store 3 (.tmp 0) (.tmp 10))])
   .skip)))
theorem s20 : FnOK Tryz.prog 20 11 [] c20 :=
  .mk' [] Tryz.func20 (by kernel_rfl) (by kernel_rfl) (by kernel_rfl)
def c21 : MC :=
  (.seq
   (.reg [
     .op (some 2) (.mv (.const (.string ⟨⟨[]⟩⟩))),
     .op (some 3) (.mv (.const (.bool false)))])
  (.seq
   (.seq
    (.reg [
      .op (some 4) (.mv (.tmp 0)),
      .op (some 5) (.nilck (.tmp 4)),
      .op (some 6) (.faddr 2 (.tmp 5)),
      .op (some 7) (.load false 1 (.tmp 6)),
      .op (some 8) (.mv (.tmp 0)),
      .op (some 9) (.nilck (.tmp 8)),
      .op (some 10) (.faddr 0 (.tmp 9)),
      .op (some 11) (.load false 1 (.tmp 10)),
      .op (some 12) (.lensl (.tmp 11)),
      .op (some 13) (.bin .eql (.tmp 7) (.tmp 12))])
   (.cond (.tmp 13)
    (.seq
     (.seq
      (.reg [
        .op (some 14) (.mv (.tmp 0)),
        .op (some 15) (.nilck (.tmp 14)),
        .op (some 16) (.faddr 1 (.tmp 15)),
        .op (some 17) (.load false 1 (.tmp 16)),
        .op (some 18) (.bin .gtr (.tmp 17) (.const (.int .i64 0)))])
     (.cond (.tmp 18)
      (.reg [
        .op (some 19) (.mv (.tmp 0)),
        .op (some 20) (.mv (.tmp 0)),
        .op (some 21) (.nilck (.tmp 20)),
        .op (some 22) (.faddr 1 (.tmp 21)),
        .op (some 23) (.load false 1 (.tmp 22)),
        .op (some 24) (.call (.func 37) [(.tmp 19), (.const (.int .i64 3)), (.tmp 23), (.const (.int .i64 1))])])
      .skip))
    (.seq
     (.reg [
       .op (some 2) (.mv (.const (.string ⟨⟨[]⟩⟩))),
       .op (some 3) (.mv (.const (.bool false)))])
    .ret))
    .skip))
  (.seq
   (.reg [
     .op (some 25) (.mv (.tmp 0)),
     .op (some 26) (.nilck (.tmp 25)),
     .op (some 27) (.faddr 2 (.tmp 26)),
     .op (some 28) (.load false 1 (.tmp 27)),
     .op (some 29) (.bin .add (.tmp 28) (.const (.int .i64 1))),
     .op (some 30) (.nilck (.tmp 25)),
     .op (some 31) (.faddr 2 (.tmp 30)),
     .op none (.store 1 (.tmp 31) (.tmp 29))])
  (.seq
   (.reg [
     .op (some 32) (.mv (.tmp 0)),
     .op (some 33) (.nilck (.tmp 32)),
     .op (some 34) (.faddr 0 (.tmp 33)),
     .op (some 35) (.load false 1 (.tmp 34)),
     .op (some 36) (.mv (.tmp 0)),
     .op (some 37) (.nilck (.tmp 36)),
     .op (some 38) (.faddr 2 (.tmp 37)),
     .op (some 39) (.load false 1 (.tmp 38)),
     .op (some 40) (.bin .sub (.tmp 39) (.const (.int .i64 1))),
     .op (some 41) (.ias 1 (.tmp 35) (.tmp 40)),
     .op (some 42) (.load false 1 (.tmp 41)),
     .op (some 2) (.mv (.tmp 42)),
     .op (some 3) (.mv (.const (.bool true)))])
  .ret))))
theorem s21 : FnOK Tryz.prog 21 43 [ResultVar.tmp 2, ResultVar.tmp 3] c21 :=
  .mk' [(1, [], [(0, []), (1, []), (2, []), (3, []), (4, []), (5, []), (6, []), (7, []), (8, []), (9, [])]), (6, [], [(0, []), (1, []), (2, []), (3, []), (4, []), (5, []), (6, []), (7, []), (8, []), (9, []), (10, []), (11, []), (12, [])])] Tryz.func21 (by kernel_rfl) (by kernel_rfl) (by kernel_rfl)
def c22 : MC :=
  (.seq
   (.seq
    (.reg [
      .op (some 13) (.mv (.tmp 0)),
      .op (some 14) (.nilck (.tmp 13)),
      .op (some 15) (.faddr 2 (.tmp 14)),
      .op (some 16) (.load false 1 (.tmp 15)),
      .op (some 17) (.bin .eql (.tmp 16) (.const (.int .i64 1)))])
   (.cond (.tmp 17)
    (.reg [
      .op (some 18) (.mv (.tmp 1)),
      .op (some 19) (.call (.func 38) [(.tmp 18), (.const (.string ⟨⟨[239, 187, 191]⟩⟩))]),
      .op (some 1) (.mv (.tmp 19))])
    .skip))
  (.seq
   (.seq
    (.reg [
      .op (some 20) (.mv (.tmp 1)),
      .op (some 21) (.call (.func 39) [(.tmp 20)]),
      .op (some 22) (.un .not (.tmp 21))])
   (.cond (.tmp 22)
    (.reg [
      .op (some 23) (.mv (.tmp 0)),
      .op (some 24) (.mv (.tmp 0)),
      .op (some 25) (.nilck (.tmp 24)),
      .op (some 26) (.faddr 2 (.tmp 25)),
      .op (some 27) (.load false 1 (.tmp 26)),
      .op (some 28) (.call (.func 37) [(.tmp 23), (.const (.int .i64 42)), (.tmp 27), (.const (.int .i64 1))])])
    .skip))
  (.seq
   (.reg [
     .op (some 29) (.mv (.tmp 0)),
     .op (some 30) (.nilck (.tmp 29)),
     .op (some 31) (.faddr 2 (.tmp 30)),
     .op (some 32) (.load false 1 (.tmp 31)),
     .op (some 4) (.mv (.tmp 32))])
  (.seq
   (.reg [
     .op (some 34) (.mv (.tmp 0)),
     .op (some 35) (.call (.func 21) [(.tmp 34)]),
     .op (some 33) (.mv (.tmp 35)),
     .op (some 36) (.ext (.tmp 33) 0),
     .op (some 37) (.ext (.tmp 33) 1),
     .op (some 5) (.mv (.tmp 36)),
     .op (some 6) (.mv (.tmp 37))])
  (.seq
   (.reg [
     .op (some 38) (.mv (.tmp 6)),
     .op (some 39) (.un .not (.tmp 38)),
     .op (some 40) (.mv (.tmp 39)),
     .gd (some 40) false (some 41) (.mv (.tmp 5)),
     .gd (some 40) false (some 42) (.bin .eql (.tmp 41) (.const (.string ⟨⟨[]⟩⟩))),
     .op (some 43) (.pick (.tmp 40) (.const (.bool true)) (.tmp 42))])
  (.cond (.tmp 43)
   (.reg [
     .op (some 44) (.mv (.tmp 0)),
     .op (some 45) (.mv (.tmp 4)),
     .op (some 46) (.bin .add (.tmp 45) (.const (.int .i64 1))),
     .op (some 47) (.call (.func 37) [(.tmp 44), (.const (.int .i64 44)), (.tmp 46), (.const (.int .i64 1))])])
   (.seq
    (.reg [
      .op (some 48) (.mv (.tmp 0)),
      .op (some 49) (.mv (.tmp 5)),
      .op (some 50) (.call (.func 40) [(.tmp 48), (.tmp 49)]),
      .op (some 7) (.alloc [.int .i64 0, .int .i64 0, .int .i64 0, .int .i64 0, .int .i64 0, .int .i64 0, .str [], .str [], .nilslice] 40),
      .op none (.store 9 (.tmp 7) (.tmp 50))])
   (.seq
    (.reg [
      .op (some 8) (.mv (.const (.slice none 0 0)))])
   (.seq
    (.seq
     (.reg [
       .op (some 52) (.mv (.tmp 0)),
       .op (some 53) (.call (.func 21) [(.tmp 52)]),
       .op (some 51) (.mv (.tmp 53)),
       .op (some 54) (.ext (.tmp 51) 0),
       .op (some 55) (.ext (.tmp 51) 1),
       .op (some 9) (.mv (.tmp 54)),
       .op (some 10) (.mv (.tmp 55))])
    (.block 0
     (.loop
      (.seq
       (.seq
        (.reg [
          .op (some 56) (.mv (.tmp 10)),
          .op (some 57) (.mv (.tmp 56)),
          .gd (some 57) true (some 58) (.mv (.tmp 9)),
          .gd (some 57) true (some 59) (.bin .neq (.tmp 58) (.const (.string ⟨⟨[]⟩⟩))),
          .op (some 60) (.pick (.tmp 57) (.tmp 59) (.const (.bool false)))])
       (.cond (.tmp 60)
        .skip
        (.exit 0)))
      (.seq
       (.block 1
        (.reg [
          .op (some 66) (.mv (.tmp 8)),
          .op (some 67) (.mv (.tmp 9)),
          .op (some 68) (.bslice 9 1 [.str []] [(0, 1, (.tmp 67))]),
          .op (some 69) (.app 9 1 16 (.tmp 66) (.tmp 68)),
          .op (some 8) (.mv (.tmp 69))]))
      (.reg [
        .op (some 62) (.mv (.tmp 0)),
        .op (some 63) (.call (.func 21) [(.tmp 62)]),
        .op (some 61) (.mv (.tmp 63)),
        .op (some 64) (.ext (.tmp 61) 0),
        .op (some 65) (.ext (.tmp 61) 1),
        .op (some 9) (.mv (.tmp 64)),
        .op (some 10) (.mv (.tmp 65))]))))))
   (.seq
    (.reg [
      .op (some 71) (.mv (.tmp 8)),
      .op (some 72) (.call (.func 42) [(.tmp 71), (.const (.string ⟨⟨[10]⟩⟩))]),
      .op (some 73) (.call (.func 41) [(.const (.int .i64 1)), (.tmp 72)]),
      .op (some 70) (.mv (.tmp 73)),
      .op (some 74) (.ext (.tmp 70) 0),
      .op (some 75) (.ext (.tmp 70) 1),
      .op (some 11) (.alloc [.str [], .nilslice, .str [], .int .i64 0] 60),
      .op none (.store 4 (.tmp 11) (.tmp 74)),
      .op (some 12) (.mv (.tmp 75))])
   (.seq
    (.seq
     (.reg [
       .op (some 76) (.mv (.tmp 12)),
       .op (some 77) (.bin .neq (.tmp 76) (.const (.int .i64 0)))])
    (.cond (.tmp 77)
     (.reg [
       .op (some 78) (.mv (.tmp 0)),
       .op (some 79) (.mv (.tmp 12)),
       .op (some 80) (.mv (.tmp 4)),
       .op (some 81) (.bin .add (.tmp 80) (.const (.int .i64 2))),
       .op (some 82) (.call (.func 37) [(.tmp 78), (.tmp 79), (.tmp 81), (.const (.int .i64 1))])])
     .skip))
   (.seq
    (.reg [
      .op (some 83) (.faddr 0 (.tmp 11)),
      .op (some 84) (.load true 2 (.tmp 83)),
      .op (some 85) (.faddr 7 (.tmp 7)),
      .op none (.store 2 (.tmp 85) (.tmp 84))])
   (.reg [
     .op (some 86) (.mv (.tmp 0)),
     .op (some 87) (.mv (.tmp 0)),
     .op (some 88) (.nilck (.tmp 87)),
     .op (some 89) (.faddr 3 (.tmp 88)),
     .op (some 90) (.load false 1 (.tmp 89)),
     .op (some 91) (.load true 9 (.tmp 7)),
     .op (some 92) (.bslice 40 1 [.int .i64 0, .int .i64 0, .int .i64 0, .int .i64 0, .int .i64 0, .int .i64 0, .str [], .str [], .nilslice] [(0, 9, (.tmp 91))]),
     .ck false none (some 90) (.load false 1 (.tmp 89)),
     .op (some 93) (.app 40 9 104 (.tmp 90) (.tmp 92)),
     .op (some 94) (.nilck (.tmp 86)),
     .op (some 95) (.faddr 3 (.tmp 94)),
     .op none (.store 1 (.tmp 95) (.tmp 93))])))))))))))))
theorem s22 : FnOK Tryz.prog 22 96 [] c22 :=
  .mk' [(18, [], [(0, []), (1, []), (2, []), (3, []), (4, []), (5, []), (6, [4]), (7, []), (8, []), (9, []), (10, [])])] Tryz.func22 (by kernel_rfl) (by kernel_rfl) (by kernel_rfl)
def c23 : MC :=
  (.seq
   (.reg [
     .op (some 2) (.box 28 (.tmp 0)),
     .op (some 3) (.box 75 (.tmp 1)),
     .op (some 4) (.alloc [.nilslice] 28),
     .op (some 5) (.mv (.const (.slice none 0 0))),
     .op (some 6) (.mv (.const .nilIface))])
  (.seq
   (.seq
    (.reg [
      .op (some 18) (.load true 1 (.tmp 2)),
      .op (some 19) (.call (.func 43) [(.tmp 18)]),
      .op (some 7) (.mv (.tmp 19))])
   (.seq
    (.reg [
      .op (some 20) (.mv (.tmp 7)),
      .op (some 21) (.eqk true (.ifc true) (.tmp 20) (.const .nilIface))])
   (.cond (.tmp 21)
    (.seq
     (.reg [
       .op (some 22) (.build [.nilslice] []),
       .op (some 23) (.mv (.tmp 7)),
       .op none (.store 1 (.tmp 4) (.tmp 22)),
       .op (some 5) (.mv (.const (.slice none 0 0))),
       .op (some 6) (.mv (.tmp 23))])
    .ret)
    .skip)))
  (.seq
   (.reg [
     .op (some 24) (.faddr 1 (.tmp 3)),
     .op (some 25) (.load true 2 (.tmp 24)),
     .op (some 8) (.alloc [.int .i64 0, .int .i64 0] 38),
     .op none (.store 2 (.tmp 8) (.tmp 25))])
  (.seq
   (.block 0
    (.seq
     (.reg [
       .op (some 27) (.faddr 0 (.tmp 3)),
       .op (some 28) (.load false 1 (.tmp 27)),
       .op (some 29) (.bin .lss (.tmp 28) (.const (.int .i64 1))),
       .op (some 30) (.mv (.tmp 29)),
       .gd (some 30) false (some 31) (.faddr 0 (.tmp 3)),
       .gd (some 30) false (some 32) (.load false 1 (.tmp 31)),
       .gd (some 30) false (some 33) (.bin .gtr (.tmp 32) (.const (.int .i64 4))),
       .op (some 34) (.pick (.tmp 30) (.const (.bool true)) (.tmp 33)),
       .op (some 26) (.mv (.tmp 34))])
    (.cond (.tmp 26)
     (.seq
      (.reg [
        .op (some 35) (.build [.nilslice] []),
        .op (some 36) (.call (.func 44) [(.const (.int .i64 0)), (.const (.int .i64 5))]),
        .op none (.store 1 (.tmp 4) (.tmp 35)),
        .op (some 5) (.mv (.const (.slice none 0 0))),
        .op (some 6) (.mv (.tmp 36))])
     .ret)
     (.seq
      (.reg [
        .op (some 38) (.load true 2 (.tmp 8)),
        .op (some 39) (.call (.func 45) [(.tmp 38)]),
        .op (some 40) (.un .not (.tmp 39)),
        .op (some 41) (.mv (.tmp 40)),
        .gd (some 41) false (some 42) (.faddr 0 (.tmp 8)),
        .gd (some 41) false (some 43) (.load false 1 (.tmp 42)),
        .gd (some 41) false (some 44) (.bin .leq (.tmp 43) (.const (.int .i64 0))),
        .op (some 45) (.pick (.tmp 41) (.const (.bool true)) (.tmp 44)),
        .op (some 46) (.mv (.tmp 45)),
        .gd (some 46) false (some 47) (.load true 2 (.tmp 8)),
        .gd (some 46) false (some 48) (.build [.int .i64 0, .int .i64 0] [(0, 1, (.const (.int .i64 1))), (1, 1, (.const (.int .i64 1)))]),
        .gd (some 46) false (some 49) (.call (.func 46) [(.tmp 47), (.tmp 48)]),
        .gd (some 46) false (some 50) (.bin .gtr (.tmp 49) (.const (.int .i64 0))),
        .op (some 51) (.pick (.tmp 46) (.const (.bool true)) (.tmp 50)),
        .op (some 52) (.mv (.tmp 51)),
        .gd (some 52) false (some 53) (.faddr 1 (.tmp 8)),
        .gd (some 52) false (some 54) (.load false 1 (.tmp 53)),
        .gd (some 52) false (some 55) (.bin .gtr (.tmp 54) (.const (.int .i64 1048576))),
        .op (some 56) (.pick (.tmp 52) (.const (.bool true)) (.tmp 55)),
        .op (some 37) (.mv (.tmp 56))])
     (.cond (.tmp 37)
      (.seq
       (.reg [
         .op (some 57) (.build [.nilslice] []),
         .op (some 58) (.call (.func 44) [(.const (.int .i64 0)), (.const (.int .i64 1))]),
         .op none (.store 1 (.tmp 4) (.tmp 57)),
         .op (some 5) (.mv (.const (.slice none 0 0))),
         .op (some 6) (.mv (.tmp 58))])
      .ret)
      .skip)))))
  (.seq
   (.reg [
     .op (some 9) (.mv (.const (.slice none 0 0)))])
  (.seq
   (.reg [
     .op (some 10) (.mv (.const (.slice none 0 0)))])
  (.seq
   (.seq
    (.reg [
      .op (some 59) (.faddr 0 (.tmp 2)),
      .op (some 60) (.load false 1 (.tmp 59)),
      .op (some 61) (.lensl (.tmp 60)),
      .op (some 62) (.mv (.const (.int .i64 0)))])
   (.block 1
    (.loop
     (.seq
      (.reg [
        .op (some 63) (.bin .lss (.tmp 62) (.tmp 61))])
     (.seq
      (.cond (.tmp 63)
       .skip
       (.exit 1))
     (.seq
      (.block 2
       (.seq
        (.reg [
          .op (some 64) (.mv (.tmp 62)),
          .op (some 65) (.ias 9 (.tmp 60) (.tmp 62)),
          .op (some 66) (.load true 9 (.tmp 65)),
          .op (some 12) (.alloc [.int .i64 0, .int .i64 0, .int .i64 0, .int .i64 0, .int .i64 0, .int .i64 0, .str [], .str [], .nilslice] 40),
          .op (some 11) (.mv (.tmp 64)),
          .op none (.store 9 (.tmp 12) (.tmp 66))])
       (.seq
        (.reg [
          .op (some 68) (.load true 9 (.tmp 12)),
          .op (some 69) (.load true 7 (.tmp 3)),
          .op (some 70) (.call (.func 47) [(.tmp 68), (.tmp 69)]),
          .op (some 67) (.mv (.tmp 70)),
          .op (some 71) (.ext (.tmp 67) 0),
          .op (some 72) (.ext (.tmp 67) 1),
          .op (some 73) (.ext (.tmp 67) 2),
          .op (some 13) (.alloc [.int .i64 0, .int .i64 0, .int .i64 0, .int .i64 0, .int .i64 0, .int .i64 0, .str [], .str [], .nilslice] 40),
          .op (some 14) (.alloc [.int .i64 0, .int .i64 0, .int .i64 0, .int .i64 0, .int .i64 0, .int .i64 0, .int .i64 0, .int .i64 0] 97),
          .op none (.store 9 (.tmp 13) (.tmp 71)),
          .op none (.store 8 (.tmp 14) (.tmp 72)),
          .op (some 15) (.mv (.tmp 73))])
       (.seq
        (.seq
         (.reg [
           .op (some 74) (.mv (.tmp 15)),
           .op (some 75) (.bin .neq (.tmp 74) (.const (.int .i64 0)))])
        (.cond (.tmp 75)
         (.seq
          (.reg [
            .op (some 76) (.build [.nilslice] []),
            .op (some 77) (.mv (.tmp 11)),
            .op (some 78) (.mv (.tmp 15)),
            .op (some 79) (.call (.func 44) [(.tmp 77), (.tmp 78)]),
            .op none (.store 1 (.tmp 4) (.tmp 76)),
            .op (some 5) (.mv (.const (.slice none 0 0))),
            .op (some 6) (.mv (.tmp 79))])
         .ret)
         .skip))
       (.seq
        (.reg [
          .op (some 80) (.mv (.tmp 9)),
          .op (some 81) (.load true 9 (.tmp 13)),
          .op (some 82) (.bslice 40 1 [.int .i64 0, .int .i64 0, .int .i64 0, .int .i64 0, .int .i64 0, .int .i64 0, .str [], .str [], .nilslice] [(0, 9, (.tmp 81))]),
          .op (some 83) (.app 40 9 104 (.tmp 80) (.tmp 82)),
          .op (some 9) (.mv (.tmp 83))])
       (.seq
        (.reg [
          .op (some 84) (.load true 8 (.tmp 14)),
          .op (some 85) (.mv (.const (.int .i64 0)))])
       (.block 3
        (.loop
         (.seq
          (.reg [
            .op (some 86) (.bin .lss (.tmp 85) (.const (.int .i64 8)))])
         (.seq
          (.cond (.tmp 86)
           .skip
           (.exit 3))
         (.seq
          (.block 4
           (.seq
            (.reg [
              .op (some 87) (.mv (.tmp 85)),
              .op (some 88) (.ixa 8 1 false (.tmp 84) (.tmp 85)),
              .op (some 16) (.mv (.tmp 87)),
              .op (some 17) (.mv (.tmp 88))])
           (.seq
            (.reg [
              .op (some 89) (.mv (.tmp 17)),
              .op (some 90) (.bin .gtr (.tmp 89) (.const (.int .i64 0)))])
           (.cond (.tmp 90)
            (.reg [
              .op (some 91) (.mv (.tmp 10)),
              .op (some 92) (.mv (.tmp 11)),
              .op (some 93) (.mv (.tmp 16)),
              .op (some 94) (.mv (.tmp 17)),
              .op (some 95) (.build [.int .i64 0, .int .i64 0, .int .i64 0] [(0, 1, (.tmp 92)), (1, 1, (.tmp 93)), (2, 1, (.tmp 94))]),
              .op (some 96) (.bslice 101 1 [.int .i64 0, .int .i64 0, .int .i64 0] [(0, 3, (.tmp 95))]),
              .op (some 97) (.app 101 3 24 (.tmp 91) (.tmp 96)),
              .op (some 10) (.mv (.tmp 97))])
            .skip))))
         (.reg [
           .op (some 98) (.bin .add (.tmp 85) (.const (.int .i64 1))),
           .op (some 85) (.mv (.tmp 98))]))))))))))))
     (.reg [
       .op (some 99) (.bin .add (.tmp 62) (.const (.int .i64 1))),
       .op (some 62) (.mv (.tmp 99))])))))))
  (.seq
   (.reg [
     .op (some 100) (.mv (.tmp 9)),
     .op (some 101) (.call (.func 48) [(.tmp 100)]),
     .op (some 102) (.build [.nilslice] [(0, 1, (.tmp 101))]),
     .op (some 103) (.mv (.tmp 10)),
     .op none (.store 1 (.tmp 4) (.tmp 102)),
     .op (some 5) (.mv (.tmp 103)),
     .op (some 6) (.mv (.const .nilIface))])
  .ret))))))))
theorem s23 : FnOK Tryz.prog 23 104 [ResultVar.cell 4 28, ResultVar.tmp 5, ResultVar.tmp 6] c23 :=
  .mk' [] Tryz.func23 (by kernel_rfl) (by kernel_rfl) (by kernel_rfl)
def c24 : MC :=
  (.seq
   (.reg [
     .op (some 0) (.alloc [.int .i64 0, .int .i64 0, .int .i64 0, .bool false, .bool false, .bool false, .bool false] 75)])
  (.seq
   (.reg [
     .op (some 1) (.build [.int .i64 0, .int .i64 0] [(0, 1, (.const (.int .i64 1))), (1, 1, (.const (.int .i64 1000)))]),
     .op (some 2) (.build [.int .i64 0, .int .i64 0, .int .i64 0, .bool false, .bool false, .bool false, .bool false] [(0, 1, (.const (.int .i64 1))), (1, 2, (.tmp 1))]),
     .op none (.store 7 (.tmp 0) (.tmp 2))])
  .ret))
theorem s24 : FnOK Tryz.prog 24 3 [ResultVar.cell 0 75] c24 :=
  .mk' [] Tryz.func24 (by kernel_rfl) (by kernel_rfl) (by kernel_rfl)
def c25 : MC :=
  (.seq
   (.reg [
     .op (some 1) (.box 38 (.tmp 0)),
     .op (some 2) (.mv (.const (.int .i64 0)))])
  (.seq
   (.block 0
    (.seq
     (.reg [
       .op (some 4) (.load true 2 (.tmp 1)),
       .op (some 5) (.call (.func 45) [(.tmp 4)]),
       .op (some 6) (.un .not (.tmp 5)),
       .op (some 7) (.mv (.tmp 6)),
       .gd (some 7) false (some 8) (.faddr 1 (.tmp 1)),
       .gd (some 7) false (some 9) (.load false 1 (.tmp 8)),
       .gd (some 7) false (some 10) (.bin .gtr (.tmp 9) (.const (.int .i64 1048576))),
       .op (some 11) (.pick (.tmp 7) (.const (.bool true)) (.tmp 10)),
       .op (some 3) (.mv (.tmp 11))])
    (.cond (.tmp 3)
     (.seq
      (.reg [
        .op (some 2) (.mv (.const (.int .i64 12)))])
     .ret)
     (.seq
      (.reg [
        .op (some 13) (.faddr 0 (.tmp 1)),
        .op (some 14) (.load false 1 (.tmp 13)),
        .op (some 15) (.bin .lss (.tmp 14) (.const (.int .i64 0))),
        .op (some 16) (.mv (.tmp 15)),
        .gd (some 16) false (some 17) (.load true 2 (.tmp 1)),
        .gd (some 16) false (some 18) (.build [.int .i64 0, .int .i64 0] [(0, 1, (.const (.int .i64 360000))), (1, 1, (.const (.int .i64 1)))]),
        .gd (some 16) false (some 19) (.call (.func 46) [(.tmp 17), (.tmp 18)]),
        .gd (some 16) false (some 20) (.bin .gtr (.tmp 19) (.const (.int .i64 0))),
        .op (some 21) (.pick (.tmp 16) (.const (.bool true)) (.tmp 20)),
        .op (some 12) (.mv (.tmp 21))])
     (.cond (.tmp 12)
      (.seq
       (.reg [
         .op (some 2) (.mv (.const (.int .i64 31)))])
      .ret)
      .skip)))))
  (.seq
   (.reg [
     .op (some 2) (.mv (.const (.int .i64 0)))])
  .ret)))
theorem s25 : FnOK Tryz.prog 25 22 [ResultVar.tmp 2] c25 :=
  .mk' [] Tryz.func25 (by kernel_rfl) (by kernel_rfl) (by kernel_rfl)
def c26 : MC :=
  (.seq
   (.reg [
     .op (some 4) (.mv (.const (.string ⟨⟨[]⟩⟩)))])
  (.seq
   (.reg [
     .op (some 6) (.mv (.tmp 0)),
     .op (some 7) (.call (.func 27) [(.tmp 6), (.const (.int .i64 10))]),
     .op (some 5) (.mv (.tmp 7))])
  (.seq
   (.reg [
     .op (some 8) (.mv (.tmp 1)),
     .op (some 9) (.mv (.tmp 5)),
     .op (some 10) (.lenstr (.tmp 9)),
     .op (some 11) (.bin .sub (.tmp 8) (.tmp 10)),
     .op (some 12) (.mx (.const (.int .i64 0)) (.tmp 11)),
     .op (some 13) (.call (.func 49) [(.const (.string ⟨⟨[48]⟩⟩)), (.tmp 12)]),
     .op (some 14) (.mv (.tmp 5)),
     .op (some 15) (.bin .add (.tmp 13) (.tmp 14)),
     .op (some 4) (.mv (.tmp 15))])
  .ret)))
theorem s26 : FnOK Tryz.prog 26 16 [ResultVar.tmp 4] c26 :=
  .mk' [] Tryz.func26 (by kernel_rfl) (by kernel_rfl) (by kernel_rfl)
def c27 : MC :=
  (.seq
   (.reg [
     .op (some 4) (.mv (.const (.string ⟨⟨[]⟩⟩)))])
  (.seq
   (.reg [
     .op (some 5) (.mv (.tmp 0)),
     .op (some 6) (.mv (.tmp 1)),
     .op (some 7) (.call (.func 50) [(.tmp 5), (.tmp 6)]),
     .op (some 4) (.mv (.tmp 7))])
  .ret))
theorem s27 : FnOK Tryz.prog 27 8 [ResultVar.tmp 4] c27 :=
  .mk' [] Tryz.func27 (by kernel_rfl) (by kernel_rfl) (by kernel_rfl)
def c28 : MC :=
  (.seq
   (.reg [
     .op (some 6) (.mv (.const (.slice none 0 0)))])
  (.seq
   (.reg [
     .op (some 8) (.mv (.tmp 1)),
     .op (some 9) (.cint .u64 (.tmp 8)),
     .op (some 7) (.mv (.tmp 9))])
  (.seq
   (.seq
    (.reg [
      .op (some 10) (.mv (.tmp 1)),
      .op (some 11) (.bin .lss (.tmp 10) (.const (.int .i64 0)))])
   (.cond (.tmp 11)
    (.seq
     (.reg [
       .op (some 12) (.mv (.tmp 0)),
       .op (some 13) (.bslice 5 1 [.int .u8 0] [(0, 1, (.const (.int .u8 45)))]),
       .op (some 14) (.app 5 1 1 (.tmp 12) (.tmp 13)),
       .op (some 0) (.mv (.tmp 14))])
    (.reg [
      .op (some 15) (.mv (.tmp 7)),
      .op (some 16) (.un .neg (.tmp 15)),
      .op (some 7) (.mv (.tmp 16))]))
    .skip))
  (.seq
   (.reg [
     .op (some 17) (.mv (.tmp 0)),
     .op (some 18) (.mv (.tmp 7)),
     .op (some 19) (.mv (.tmp 2)),
     .op (some 20) (.call (.func 51) [(.tmp 17), (.tmp 18), (.tmp 19)]),
     .op (some 6) (.mv (.tmp 20))])
  .ret))))
theorem s28 : FnOK Tryz.prog 28 21 [ResultVar.tmp 6] c28 :=
  .mk' [] Tryz.func28 (by kernel_rfl) (by kernel_rfl) (by kernel_rfl)
def c29 : MC :=
  (.seq
   (.reg [
     .op (some 1) (.box 36 (.tmp 0)),
     .op (some 2) (.mv (.const (.int .i64 0)))])
  (.seq
   (.block 0
    (.seq
     (.reg [
       .op (some 7) (.faddr 0 (.tmp 1)),
       .op (some 8) (.load false 1 (.tmp 7)),
       .op (some 9) (.lenstr (.tmp 8)),
       .op (some 10) (.bin .gtr (.tmp 9) (.const (.int .i64 4096))),
       .op (some 6) (.mv (.tmp 10))])
    (.cond (.tmp 6)
     (.seq
      (.reg [
        .op (some 2) (.mv (.const (.int .i64 3)))])
     .ret)
     (.seq
      (.reg [
        .op (some 12) (.faddr 1 (.tmp 1)),
        .op (some 13) (.load false 1 (.tmp 12)),
        .op (some 14) (.lensl (.tmp 13)),
        .op (some 15) (.bin .gtr (.tmp 14) (.const (.int .i64 256))),
        .op (some 11) (.mv (.tmp 15))])
     (.cond (.tmp 11)
      (.seq
       (.reg [
         .op (some 2) (.mv (.const (.int .i64 2)))])
      .ret)
      .skip)))))
  (.seq
   (.reg [
     .op (some 16) (.faddr 0 (.tmp 1)),
     .op (some 17) (.load false 1 (.tmp 16)),
     .op (some 18) (.call (.func 52) [(.tmp 17)]),
     .op (some 3) (.mv (.tmp 18))])
  (.seq
   (.seq
    (.reg [
      .op (some 19) (.faddr 1 (.tmp 1)),
      .op (some 20) (.load false 1 (.tmp 19)),
      .op (some 21) (.lensl (.tmp 20)),
      .op (some 22) (.mv (.const (.int .i64 0)))])
   (.block 1
    (.loop
     (.seq
      (.reg [
        .op (some 23) (.bin .lss (.tmp 22) (.tmp 21))])
     (.seq
      (.cond (.tmp 23)
       .skip
       (.exit 1))
     (.seq
      (.block 2
       (.seq
        (.reg [
          .op (some 24) (.mv (.tmp 22)),
          .op (some 25) (.ias 4 (.tmp 20) (.tmp 22)),
          .op (some 26) (.load true 4 (.tmp 25)),
          .op (some 5) (.alloc [.int .i64 0, .int .i64 0, .int .i64 0, .int .i64 0] 108),
          .op (some 4) (.mv (.tmp 24)),
          .op none (.store 4 (.tmp 5) (.tmp 26))])
       (.seq
        (.reg [
          .op (some 27) (.load true 4 (.tmp 5)),
          .op (some 28) (.mv (.tmp 3)),
          .op (some 29) (.call (.func 53) [(.tmp 27), (.tmp 28)]),
          .op (some 30) (.un .not (.tmp 29)),
          .op (some 31) (.mv (.tmp 30)),
          .gd (some 31) false (some 32) (.faddr 1 (.tmp 1)),
          .gd (some 31) false (some 33) (.load false 1 (.tmp 32)),
          .gd (some 31) false (some 34) (.mv (.tmp 4)),
          .gd (some 31) false (some 35) (.ssl 108 4 (.tmp 33) none (some (.tmp 34)) none),
          .gd (some 31) false (some 36) (.fnc 55 [] [(.tmp 5)]),
          .gd (some 31) false (some 37) (.call (.func 54) [(.tmp 35), (.tmp 36)]),
          .op (some 38) (.pick (.tmp 31) (.const (.bool true)) (.tmp 37))])
       (.cond (.tmp 38)
        (.seq
         (.reg [
           .op (some 2) (.mv (.const (.int .i64 23)))])
        .ret)
        .skip))))
     (.reg [
       .op (some 39) (.bin .add (.tmp 22) (.const (.int .i64 1))),
       .op (some 22) (.mv (.tmp 39))])))))))
  (.seq
   (.reg [
     .op (some 2) (.mv (.const (.int .i64 0)))])
  .ret)))))
theorem s29 : FnOK Tryz.prog 29 40 [ResultVar.tmp 2] c29 :=
  .mk' [] Tryz.func29 (by kernel_rfl) (by kernel_rfl) (by kernel_rfl)
def c30 : MC :=
  (.seq
   (.reg [
     .op (some 2) (.mv (.const (.bool false)))])
  (.seq
   (.seq
    (.reg [
      .op (some 3) (.mv (.tmp 0)),
      .op (some 4) (.lenstr (.tmp 3)),
      .op (some 5) (.bin .gtr (.tmp 4) (.const (.int .i64 64)))])
   (.cond (.tmp 5)
    (.seq
     (.reg [
       .op (some 2) (.mv (.const (.bool false)))])
    .ret)
    .skip))
  (.seq
   (.reg [
     .op (some 6) (.mv (.tmp 0)),
     .op (some 7) (.call (.func 57) [(.tmp 6), (.func 58)]),
     .op (some 8) (.bin .lss (.tmp 7) (.const (.int .i64 0))),
     .op (some 2) (.mv (.tmp 8))])
  .ret)))
theorem s30 : FnOK Tryz.prog 30 9 [ResultVar.tmp 2] c30 :=
  .mk' [] Tryz.func30 (by kernel_rfl) (by kernel_rfl) (by kernel_rfl)
def c31 : MC :=
  (.seq
   (.reg [
     .op (some 3) (.box 3 (.tmp 0)),
     .op (some 4) (.box 36 (.tmp 1)),
     .op (some 5) (.box 4 (.tmp 2)),
     .op (some 6) (.alloc [.str [], .nilslice] 36),
     .op (some 7) (.alloc [.int .i64 0] 3),
     .op (some 8) (.alloc [.int .i64 0] 3),
     .op (some 9) (.mv (.const (.int .i64 0))),
     .op (some 10) (.mv (.const (.int .i64 0)))])
  (.seq
   (.seq
    (.reg [
      .op (some 23) (.load false 1 (.tmp 3)),
      .op (some 24) (.bin .lss (.tmp 23) (.const (.int .i64 1))),
      .op (some 25) (.mv (.tmp 24)),
      .gd (some 25) false (some 26) (.load false 1 (.tmp 3)),
      .gd (some 25) false (some 27) (.bin .gtr (.tmp 26) (.const (.int .i64 4))),
      .op (some 28) (.pick (.tmp 25) (.const (.bool true)) (.tmp 27))])
   (.cond (.tmp 28)
    (.seq
     (.reg [
       .op (some 29) (.load true 2 (.tmp 6)),
       .op none (.store 2 (.tmp 6) (.tmp 29)),
       .op none (.store 1 (.tmp 7) (.const (.int .i64 0))),
       .op none (.store 1 (.tmp 8) (.const (.int .i64 0))),
       .op (some 9) (.mv (.const (.int .i64 0))),
       .op (some 10) (.mv (.const (.int .i64 5)))])
    .ret)
    .skip))
  (.seq
   (.seq
    (.reg [
      .op (some 30) (.load true 2 (.tmp 4)),
      .op (some 31) (.call (.func 29) [(.tmp 30)]),
      .op (some 10) (.mv (.tmp 31))])
   (.seq
    (.reg [
      .op (some 32) (.mv (.tmp 10)),
      .op (some 33) (.bin .neq (.tmp 32) (.const (.int .i64 0)))])
   (.cond (.tmp 33)
    (.seq
     (.reg [
       .op (some 34) (.load true 2 (.tmp 6)),
       .op (some 35) (.mv (.tmp 10)),
       .op none (.store 2 (.tmp 6) (.tmp 34)),
       .op none (.store 1 (.tmp 7) (.const (.int .i64 0))),
       .op none (.store 1 (.tmp 8) (.const (.int .i64 0))),
       .op (some 9) (.mv (.const (.int .i64 0))),
       .op (some 10) (.mv (.tmp 35))])
    .ret)
    .skip)))
  (.seq
   (.reg [
     .op (some 11) (.alloc [.nilslice] 115)])
  (.seq
   (.reg [
     .op (some 12) (.alloc [.int .i64 0] 3),
     .op none (.store 1 (.tmp 12) (.const (.int .i64 0)))])
  (.seq
   (.seq
    (.reg [
      .op (some 36) (.load true 2 (.tmp 4)),
      .op (some 37) (.call (.func 59) [(.tmp 36)])])
   (.block 0
    (.range (.tmp 37) [38, 39]
     (.seq
      (.reg [
        .op (some 13) (.alloc [.int .i64 0, .int .i64 0, .int .i32 0, .bool false] 120),
        .op none (.store 4 (.tmp 13) (.tmp 38))])
     (.reg [
       .op (some 14) (.alloc [.bool false, .bool false, .bool false, .bool false, .int .i64 0] 122),
       .op none (.store 5 (.tmp 14) (.tmp 39))]))
     (.block 1
      (.seq
       (.reg [
         .op (some 40) (.faddr 0 (.tmp 4)),
         .op (some 41) (.load false 1 (.tmp 40)),
         .op (some 42) (.faddr 0 (.tmp 13)),
         .op (some 43) (.load false 1 (.tmp 42)),
         .op (some 44) (.faddr 0 (.tmp 13)),
         .op (some 45) (.load false 1 (.tmp 44)),
         .op (some 46) (.faddr 1 (.tmp 13)),
         .op (some 47) (.load false 1 (.tmp 46)),
         .op (some 48) (.bin .add (.tmp 45) (.tmp 47)),
         .op (some 49) (.sstr (.tmp 41) (some (.tmp 43)) (some (.tmp 48))),
         .op (some 50) (.load true 5 (.tmp 14)),
         .op (some 51) (.build [.str [], .bool false, .bool false, .bool false, .bool false, .int .i64 0] [(0, 1, (.tmp 49)), (1, 5, (.tmp 50))]),
         .op (some 15) (.alloc [.str [], .bool false, .bool false, .bool false, .bool false, .int .i64 0] 124),
         .ck false none (some 50) (.load true 5 (.tmp 14)),
         .ck false none (some 49) (.sstr (.tmp 41) (some (.tmp 43)) (some (.tmp 48))),
         .ck false none (some 47) (.load false 1 (.tmp 46)),
         .ck false none (some 45) (.load false 1 (.tmp 44)),
         .ck false none (some 43) (.load false 1 (.tmp 42)),
         .ck false none (some 41) (.load false 1 (.tmp 40)),
         .op none (.store 6 (.tmp 15) (.tmp 51))])
      (.seq
       (.seq
        (.reg [
          .op (some 53) (.load false 1 (.tmp 3)),
          .op (some 54) (.faddr 2 (.tmp 13)),
          .op (some 55) (.load false 1 (.tmp 54)),
          .op (some 56) (.call (.func 60) [(.tmp 53), (.tmp 55)]),
          .op (some 52) (.mv (.tmp 56)),
          .op (some 57) (.ext (.tmp 52) 0),
          .op (some 58) (.ext (.tmp 52) 1),
          .op (some 16) (.mv (.tmp 57)),
          .op (some 17) (.mv (.tmp 58))])
       (.seq
        (.reg [
          .op (some 59) (.mv (.tmp 17)),
          .op (some 60) (.un .not (.tmp 59))])
       (.cond (.tmp 60)
        (.seq
         (.reg [
           .op (some 61) (.mv (.tmp 16)),
           .op (some 62) (.faddr 0 (.tmp 15)),
           .op none (.store 1 (.tmp 62) (.tmp 61))])
        (.reg [
          .op (some 63) (.load false 1 (.tmp 7)),
          .op (some 64) (.bin .add (.tmp 63) (.const (.int .i64 1))),
          .op none (.store 1 (.tmp 7) (.tmp 64))]))
        .skip)))
      (.seq
       (.seq
        (.reg [
          .op (some 65) (.faddr 0 (.tmp 15)),
          .op (some 66) (.load false 1 (.tmp 65)),
          .op (some 67) (.bin .eql (.tmp 66) (.const (.string ⟨⟨[10]⟩⟩))),
          .op (some 68) (.mv (.tmp 67)),
          .gd (some 68) true (some 69) (.load false 1 (.tmp 5)),
          .gd (some 68) true (some 70) (.un .not (.tmp 69)),
          .op (some 71) (.pick (.tmp 68) (.tmp 70) (.const (.bool false))),
          .op (some 72) (.mv (.tmp 71)),
          .gd (some 72) true (some 73) (.load false 1 (.tmp 11)),
          .gd (some 72) true (some 74) (.lensl (.tmp 73)),
          .gd (some 72) true (some 75) (.bin .eql (.tmp 74) (.const (.int .i64 0))),
          .gd (some 72) true (some 76) (.mv (.tmp 75)),
          .gd (some 76) false (some 77) (.load false 1 (.tmp 11)),
          .gd (some 76) false (some 78) (.load false 1 (.tmp 11)),
          .gd (some 76) false (some 79) (.lensl (.tmp 78)),
          .gd (some 76) false (some 80) (.bin .sub (.tmp 79) (.const (.int .i64 1))),
          .gd (some 76) false (some 81) (.ias 6 (.tmp 77) (.tmp 80)),
          .gd (some 76) false (some 82) (.faddr 0 (.tmp 81)),
          .gd (some 76) false (some 83) (.load false 1 (.tmp 82)),
          .gd (some 76) false (some 84) (.bin .eql (.tmp 83) (.const (.string ⟨⟨[10]⟩⟩))),
          .gd (some 72) true (some 85) (.pick (.tmp 76) (.const (.bool true)) (.tmp 84)),
          .op (some 86) (.pick (.tmp 72) (.tmp 85) (.const (.bool false)))])
       (.cond (.tmp 86)
        (.seq
         (.reg [
           .op (some 87) (.load false 1 (.tmp 8)),
           .op (some 88) (.bin .add (.tmp 87) (.const (.int .i64 1))),
           .op none (.store 1 (.tmp 8) (.tmp 88))])
        (.exit 1))
        .skip))
      (.seq
       (.reg [
         .op (some 89) (.load false 1 (.tmp 11)),
         .op (some 90) (.load true 6 (.tmp 15)),
         .op (some 91) (.bslice 124 1 [.str [], .bool false, .bool false, .bool false, .bool false, .int .i64 0] [(0, 6, (.tmp 90))]),
         .op (some 92) (.app 124 6 32 (.tmp 89) (.tmp 91)),
         .op none (.store 1 (.tmp 11) (.tmp 92))])
      (.reg [
        .op (some 93) (.load false 1 (.tmp 12)),
        .op (some 94) (.bin .add (.tmp 93) (.const (.int .i64 1))),
        .op none (.store 1 (.tmp 12) (.tmp 94))])))))))))
  (.seq
   (.seq
    (.reg [
      .op (some 95) (.load false 1 (.tmp 12)),
      .op (some 96) (.bin .gtr (.tmp 95) (.const (.int .i64 0))),
      .op (some 97) (.mv (.tmp 96)),
      .gd (some 97) true (some 98) (.load false 1 (.tmp 5)),
      .gd (some 97) true (some 99) (.un .not (.tmp 98)),
      .op (some 100) (.pick (.tmp 97) (.tmp 99) (.const (.bool false))),
      .op (some 101) (.mv (.tmp 100)),
      .gd (some 101) true (some 102) (.load false 1 (.tmp 11)),
      .gd (some 101) true (some 103) (.load false 1 (.tmp 12)),
      .gd (some 101) true (some 104) (.bin .sub (.tmp 103) (.const (.int .i64 1))),
      .gd (some 101) true (some 105) (.ias 6 (.tmp 102) (.tmp 104)),
      .gd (some 101) true (some 106) (.faddr 0 (.tmp 105)),
      .gd (some 101) true (some 107) (.load false 1 (.tmp 106)),
      .gd (some 101) true (some 108) (.bin .eql (.tmp 107) (.const (.string ⟨⟨[10]⟩⟩))),
      .op (some 109) (.pick (.tmp 101) (.tmp 108) (.const (.bool false)))])
   (.cond (.tmp 109)
    (.seq
     (.reg [
       .op (some 110) (.load false 1 (.tmp 11)),
       .op (some 111) (.load false 1 (.tmp 12)),
       .op (some 112) (.bin .sub (.tmp 111) (.const (.int .i64 1))),
       .op (some 113) (.ssl 124 6 (.tmp 110) none (some (.tmp 112)) none),
       .op none (.store 1 (.tmp 11) (.tmp 113))])
    (.reg [
      .op (some 114) (.load false 1 (.tmp 8)),
      .op (some 115) (.bin .add (.tmp 114) (.const (.int .i64 1))),
      .op none (.store 1 (.tmp 8) (.tmp 115))]))
    .skip))
  (.seq
   (.seq
    (.reg [
      .op (some 116) (.load false 1 (.tmp 11)),
      .op (some 117) (.call (.func 61) [(.tmp 116)]),
      .op (some 118) (.lensl (.tmp 117)),
      .op (some 119) (.mv (.const (.int .i64 0)))])
   (.block 2
    (.loop
     (.seq
      (.reg [
        .op (some 120) (.bin .lss (.tmp 119) (.tmp 118))])
     (.seq
      (.cond (.tmp 120)
       .skip
       (.exit 2))
     (.seq
      (.block 3
       (.seq
        (.reg [
          .op (some 121) (.ias 1 (.tmp 117) (.tmp 119)),
          .op (some 122) (.load false 1 (.tmp 121)),
          .op (some 19) (.mv (.tmp 122))])
       (.seq
        (.reg [
          .op (some 123) (.mv (.tmp 19)),
          .op (some 124) (.call (.func 62) [(.tmp 123)]),
          .op (some 20) (.alloc [.bool false, .bool false, .bool false, .bool false, .int .i64 0] 122),
          .op none (.store 5 (.tmp 20) (.tmp 124))])
       (.seq
        (.reg [
          .op (some 125) (.mv (.tmp 19)),
          .op (some 126) (.lensl (.tmp 125)),
          .op (some 127) (.mv (.const (.int .i64 0)))])
       (.block 4
        (.loop
         (.seq
          (.reg [
            .op (some 128) (.bin .lss (.tmp 127) (.tmp 126))])
         (.seq
          (.cond (.tmp 128)
           .skip
           (.exit 4))
         (.seq
          (.block 5
           (.seq
            (.reg [
              .op (some 129) (.mv (.tmp 127)),
              .op (some 21) (.mv (.tmp 129))])
           (.seq
            (.reg [
              .op (some 130) (.mv (.tmp 19)),
              .op (some 131) (.mv (.tmp 21)),
              .op (some 132) (.ias 6 (.tmp 130) (.tmp 131)),
              .op (some 133) (.faddr 1 (.tmp 132)),
              .op (some 134) (.load true 5 (.tmp 133)),
              .op (some 22) (.alloc [.bool false, .bool false, .bool false, .bool false, .int .i64 0] 122),
              .op none (.store 5 (.tmp 22) (.tmp 134))])
           (.seq
            (.seq
             (.reg [
               .op (some 135) (.load false 1 (.tmp 3))])
            (.block 6
             (.seq
              (.reg [
                .op (some 137) (.bin .eql (.tmp 135) (.const (.int .i64 2))),
                .op (some 136) (.mv (.tmp 137))])
             (.cond (.tmp 136)
              (.reg [
                .op (some 138) (.faddr 3 (.tmp 22)),
                .op none (.store 1 (.tmp 138) (.const (.bool false)))])
              (.seq
               (.reg [
                 .op (some 140) (.bin .eql (.tmp 135) (.const (.int .i64 3))),
                 .op (some 139) (.mv (.tmp 140))])
              (.cond (.tmp 139)
               (.reg [
                 .op (some 141) (.load true 5 (.tmp 20)),
                 .op none (.store 5 (.tmp 22) (.tmp 141))])
               .skip))))))
           (.seq
            (.reg [
              .op (some 142) (.load true 5 (.tmp 22)),
              .op (some 143) (.mv (.tmp 19)),
              .op (some 144) (.mv (.tmp 21)),
              .op (some 145) (.ias 6 (.tmp 143) (.tmp 144)),
              .op (some 146) (.faddr 1 (.tmp 145)),
              .op (some 147) (.load true 5 (.tmp 146)),
              .op (some 148) (.eqs true [(0, .b), (1, .b), (2, .b), (3, .b), (4, .i)] (.tmp 142) (.tmp 147))])
           (.cond (.tmp 148)
            (.seq
             (.reg [
               .op (some 149) (.mv (.tmp 9)),
               .op (some 150) (.bin .add (.tmp 149) (.const (.int .i64 1))),
               .op (some 9) (.mv (.tmp 150))])
            (.reg [
              .op (some 151) (.mv (.tmp 19)),
              .op (some 152) (.mv (.tmp 21)),
              .op (some 153) (.load true 5 (.tmp 22)),
              .op (some 154) (.ias 6 (.tmp 151) (.tmp 152)),
              .op (some 155) (.faddr 1 (.tmp 154)),
              .op none (.store 5 (.tmp 155) (.tmp 153))]))
            .skip))))))
         (.reg [
           .op (some 156) (.bin .add (.tmp 127) (.const (.int .i64 1))),
           .op (some 127) (.mv (.tmp 156))]))))))))))
     (.reg [
       .op (some 157) (.bin .add (.tmp 119) (.const (.int .i64 1))),
       .op (some 119) (.mv (.tmp 157))])))))))
  (.seq
   (.seq
    (.reg [
      .op (some 159) (.load false 1 (.tmp 11)),
      .op (some 160) (.call (.func 63) [(.tmp 159)]),
      .op (some 158) (.mv (.tmp 160)),
      .op (some 161) (.ext (.tmp 158) 0),
      .op (some 162) (.ext (.tmp 158) 1),
      .op none (.store 2 (.tmp 6) (.tmp 161)),
      .op (some 10) (.mv (.tmp 162))])
   (.seq
    (.reg [
      .op (some 163) (.mv (.tmp 10)),
      .op (some 164) (.bin .neq (.tmp 163) (.const (.int .i64 0)))])
   (.cond (.tmp 164)
    (.seq
     (.reg [
       .op (some 165) (.build [.str [], .nilslice] []),
       .op (some 166) (.mv (.tmp 10)),
       .op none (.store 2 (.tmp 6) (.tmp 165)),
       .op none (.store 1 (.tmp 7) (.const (.int .i64 0))),
       .op none (.store 1 (.tmp 8) (.const (.int .i64 0))),
       .op (some 9) (.mv (.const (.int .i64 0))),
       .op (some 10) (.mv (.tmp 166))])
    .ret)
    .skip)))
  (.seq
   (.reg [
     .op (some 167) (.load true 2 (.tmp 6)),
     .op (some 168) (.load false 1 (.tmp 7)),
     .op (some 169) (.load false 1 (.tmp 8)),
     .op (some 170) (.mv (.tmp 9)),
     .op none (.store 2 (.tmp 6) (.tmp 167)),
     .ck false none (some 169) (.load false 1 (.tmp 8)),
     .ck false none (some 168) (.load false 1 (.tmp 7)),
     .op none (.store 1 (.tmp 7) (.tmp 168)),
     .ck false none (some 169) (.load false 1 (.tmp 8)),
     .op none (.store 1 (.tmp 8) (.tmp 169)),
     .op (some 9) (.mv (.tmp 170)),
     .op (some 10) (.mv (.const (.int .i64 0)))])
  .ret))))))))))
theorem s31 : FnOK Tryz.prog 31 171 [ResultVar.cell 6 36, ResultVar.cell 7 3, ResultVar.cell 8 3, ResultVar.tmp 9, ResultVar.tmp 10] c31 :=
  .mk' [(11, [], [(0, []), (1, []), (2, []), (3, []), (4, []), (5, []), (6, []), (7, []), (8, []), (9, []), (10, []), (11, []), (12, [10, 9, 7, 5, 3, 1]), (13, [])]), (36, [], [(0, []), (1, []), (2, []), (3, []), (4, []), (5, []), (6, [])]), (44, [], [(0, []), (1, []), (2, []), (3, []), (4, [2, 1]), (5, [2]), (6, []), (7, []), (8, [])])] Tryz.func31 (by kernel_rfl) (by kernel_rfl) (by kernel_rfl)
def c34 : MC :=
  (.seq
   (.reg [
     .op (some 2) (.box 3 (.tmp 0)),
     .op (some 3) (.box 60 (.tmp 1)),
     .op (some 4) (.mv (.const (.string ⟨⟨[]⟩⟩)))])
  (.seq
   (.reg [
     .op (some 5) (.alloc [.nilptr, .nilslice] 133)])
  (.seq
   (.seq
    (.reg [
      .op (some 10) (.faddr 2 (.tmp 3)),
      .op (some 11) (.load false 1 (.tmp 10)),
      .op (some 12) (.bin .neq (.tmp 11) (.const (.string ⟨⟨[]⟩⟩)))])
   (.cond (.tmp 12)
    (.reg [
      .op (some 13) (.load false 1 (.tmp 2)),
      .op (some 14) (.faddr 2 (.tmp 3)),
      .op (some 15) (.load false 1 (.tmp 14)),
      .op (some 16) (.call (.func 71) [(.tmp 13), (.tmp 15)]),
      .op (some 17) (.bin .add (.const (.string ⟨⟨[60, 118, 32]⟩⟩)) (.tmp 16)),
      .op (some 18) (.bin .add (.tmp 17) (.const (.string ⟨⟨[62]⟩⟩))),
      .op (some 19) (.call (.func 67) [(.tmp 5), (.tmp 18)])])
    .skip))
  (.seq
   (.reg [
     .op (some 20) (.fnc 72 [] [(.tmp 5), (.tmp 2)]),
     .op (some 6) (.mv (.tmp 20))])
  (.seq
   (.reg [
     .op (some 7) (.alloc [.bool false, .bool false, .bool false, .bool false, .int .i64 0] 122)])
  (.seq
   (.seq
    (.reg [
      .op (some 21) (.faddr 0 (.tmp 3)),
      .op (some 22) (.load true 2 (.tmp 21)),
      .op (some 23) (.call (.func 64) [(.tmp 22)]),
      .op (some 24) (.lensl (.tmp 23)),
      .op (some 25) (.mv (.const (.int .i64 0)))])
   (.block 0
    (.loop
     (.seq
      (.reg [
        .op (some 26) (.bin .lss (.tmp 25) (.tmp 24))])
     (.seq
      (.cond (.tmp 26)
       .skip
       (.exit 0))
     (.seq
      (.block 1
       (.seq
        (.reg [
          .op (some 27) (.ias 6 (.tmp 23) (.tmp 25)),
          .op (some 28) (.load true 6 (.tmp 27)),
          .op (some 9) (.alloc [.str [], .bool false, .bool false, .bool false, .bool false, .int .i64 0] 124),
          .op none (.store 6 (.tmp 9) (.tmp 28))])
       (.seq
        (.reg [
          .op (some 29) (.mv (.tmp 6)),
          .op (some 30) (.load true 5 (.tmp 7)),
          .op (some 31) (.faddr 1 (.tmp 9)),
          .op (some 32) (.load true 5 (.tmp 31)),
          .op (some 33) (.call (.tmp 29) [(.tmp 30), (.tmp 32)])])
       (.seq
        (.reg [
          .op (some 34) (.faddr 1 (.tmp 9)),
          .op (some 35) (.load true 5 (.tmp 34)),
          .op none (.store 5 (.tmp 7) (.tmp 35))])
       (.reg [
         .op (some 36) (.load false 1 (.tmp 2)),
         .op (some 37) (.faddr 0 (.tmp 9)),
         .op (some 38) (.load false 1 (.tmp 37)),
         .op (some 39) (.call (.func 71) [(.tmp 36), (.tmp 38)]),
         .op (some 40) (.call (.func 67) [(.tmp 5), (.tmp 39)])])))))
     (.reg [
       .op (some 41) (.bin .add (.tmp 25) (.const (.int .i64 1))),
       .op (some 25) (.mv (.tmp 41))])))))))
  (.seq
   (.reg [
     .op (some 42) (.mv (.tmp 6)),
     .op (some 43) (.load true 5 (.tmp 7)),
     .op (some 44) (.build [.bool false, .bool false, .bool false, .bool false, .int .i64 0] []),
     .op (some 45) (.call (.tmp 42) [(.tmp 43), (.tmp 44)])])
  (.seq
   (.reg [
     .op (some 46) (.call (.func 69) [(.tmp 5)]),
     .op (some 4) (.mv (.tmp 46))])
  .ret))))))))
theorem s34 : FnOK Tryz.prog 34 47 [ResultVar.tmp 4] c34 :=
  .mk' [] Tryz.func34 (by kernel_rfl) (by kernel_rfl) (by kernel_rfl)
def c35 : MC :=
  (.seq
   (.reg [
     .op (some 3) (.mv (.const (.int .i64 0)))])
  (.block 0
   (.loop
    (.seq
     (.seq
      (.reg [
        .op (some 6) (.mv (.tmp 3)),
        .op (some 7) (.load false 1 (.tmp 1)),
        .op (some 8) (.lenstr (.tmp 7)),
        .op (some 9) (.bin .lss (.tmp 6) (.tmp 8))])
     (.cond (.tmp 9)
      .skip
      (.exit 0)))
    (.block 1
     (.seq
      (.reg [
        .op (some 10) (.load false 1 (.tmp 1)),
        .op (some 11) (.mv (.tmp 3)),
        .op (some 12) (.sstr (.tmp 10) (some (.tmp 11)) none),
        .op (some 13) (.call (.func 36) [(.tmp 12), (.const (.string ⟨⟨[10, 13]⟩⟩))]),
        .op (some 4) (.mv (.tmp 13))])
     (.seq
      (.seq
       (.reg [
         .op (some 14) (.mv (.tmp 4)),
         .op (some 15) (.bin .lss (.tmp 14) (.const (.int .i64 0)))])
      (.cond (.tmp 15)
       (.seq
        (.reg [
          .op (some 16) (.mv (.tmp 0)),
          .op (some 17) (.mv (.tmp 3)),
          .op (some 18) (.load false 1 (.tmp 1)),
          .op (some 19) (.mv (.tmp 3)),
          .op (some 20) (.sstr (.tmp 18) (some (.tmp 19)) none),
          .op (some 21) (.call (.tmp 16) [(.tmp 17), (.tmp 20)])])
       .ret)
       .skip))
     (.seq
      (.reg [
        .op (some 22) (.mv (.tmp 3)),
        .op (some 23) (.mv (.tmp 4)),
        .op (some 24) (.bin .add (.tmp 22) (.tmp 23)),
        .op (some 5) (.mv (.tmp 24))])
     (.seq
      (.seq
       (.reg [
         .op (some 25) (.mv (.tmp 0)),
         .op (some 26) (.mv (.tmp 3)),
         .op (some 27) (.load false 1 (.tmp 1)),
         .op (some 28) (.mv (.tmp 3)),
         .op (some 29) (.mv (.tmp 5)),
         .op (some 30) (.sstr (.tmp 27) (some (.tmp 28)) (some (.tmp 29))),
         .op (some 31) (.call (.tmp 25) [(.tmp 26), (.tmp 30)]),
         .op (some 32) (.un .not (.tmp 31))])
      (.cond (.tmp 32)
       .ret
       .skip))
     (.seq
      (.reg [
        .op (some 33) (.mv (.tmp 5)),
        .op (some 34) (.bin .add (.tmp 33) (.const (.int .i64 1))),
        .op (some 3) (.mv (.tmp 34))])
     (.seq
      (.reg [
        .op (some 35) (.load false 1 (.tmp 1)),
        .op (some 36) (.mv (.tmp 5)),
        .op (some 37) (.ixs (.tmp 35) (.tmp 36)),
        .op (some 38) (.bin .eql (.tmp 37) (.const (.int .u8 13))),
        .op (some 39) (.mv (.tmp 38)),
        .gd (some 39) true (some 40) (.mv (.tmp 3)),
        .gd (some 39) true (some 41) (.load false 1 (.tmp 1)),
        .gd (some 39) true (some 42) (.lenstr (.tmp 41)),
        .gd (some 39) true (some 43) (.bin .lss (.tmp 40) (.tmp 42)),
        .op (some 44) (.pick (.tmp 39) (.tmp 43) (.const (.bool false))),
        .op (some 45) (.mv (.tmp 44)),
        .gd (some 45) true (some 46) (.load false 1 (.tmp 1)),
        .gd (some 45) true (some 47) (.mv (.tmp 3)),
        .gd (some 45) true (some 48) (.ixs (.tmp 46) (.tmp 47)),
        .gd (some 45) true (some 49) (.bin .eql (.tmp 48) (.const (.int .u8 10))),
        .op (some 50) (.pick (.tmp 45) (.tmp 49) (.const (.bool false)))])
     (.cond (.tmp 50)
      (.reg [
        .op (some 51) (.mv (.tmp 3)),
        .op (some 52) (.bin .add (.tmp 51) (.const (.int .i64 1))),
        .op (some 3) (.mv (.tmp 52))])
      .skip))))))))))))
theorem s35 : FnOK Tryz.prog 35 53 [] c35 :=
  .mk' [] Tryz.func35 (by kernel_rfl) (by kernel_rfl) (by kernel_rfl)
def c36 : MC :=
  (.seq
   (.reg [
     .op (some 4) (.mv (.const (.int .i64 0)))])
  (.seq
   (.seq
    (.reg [
      .op (some 11) (.mv (.tmp 1)),
      .op (some 12) (.bin .eql (.tmp 11) (.const (.string ⟨⟨[]⟩⟩)))])
   (.cond (.tmp 12)
    (.seq
     (.reg [
       .op (some 4) (.mv (.const (.int .i64 (-1))))])
    .ret)
    .skip))
  (.seq
   (.seq
    (.reg [
      .op (some 13) (.mv (.tmp 1)),
      .op (some 14) (.lenstr (.tmp 13)),
      .op (some 15) (.bin .eql (.tmp 14) (.const (.int .i64 1)))])
   (.cond (.tmp 15)
    (.seq
     (.reg [
       .op (some 16) (.mv (.tmp 1)),
       .op (some 17) (.ixs (.tmp 16) (.const (.int .i64 0))),
       .op (some 18) (.cint .i32 (.tmp 17)),
       .op (some 5) (.mv (.tmp 18))])
    (.seq
     (.seq
      (.reg [
        .op (some 19) (.mv (.tmp 5)),
        .op (some 20) (.bin .geq (.tmp 19) (.const (.int .i32 128)))])
     (.cond (.tmp 20)
      (.reg [
        .op (some 5) (.mv (.const (.int .i32 65533)))])
      .skip))
    (.seq
     (.reg [
       .op (some 21) (.mv (.tmp 0)),
       .op (some 22) (.mv (.tmp 5)),
       .op (some 23) (.call (.func 75) [(.tmp 21), (.tmp 22)]),
       .op (some 4) (.mv (.tmp 23))])
    .ret)))
    .skip))
  (.seq
   (.seq
    (.reg [
      .op (some 24) (.mv (.tmp 0)),
      .op (some 25) (.lenstr (.tmp 24)),
      .op (some 26) (.call (.func 76) [(.tmp 25)])])
   (.cond (.tmp 26)
    (.seq
     (.reg [
       .op (some 28) (.mv (.tmp 1)),
       .op (some 29) (.call (.func 77) [(.tmp 28)]),
       .op (some 27) (.mv (.tmp 29)),
       .op (some 30) (.ext (.tmp 27) 0),
       .op (some 31) (.ext (.tmp 27) 1),
       .op (some 6) (.alloc [.bool false, .bool false, .bool false, .bool false, .bool false, .bool false, .bool false, .bool false, .bool false, .bool false, .bool false, .bool false, .bool false, .bool false, .bool false, .bool false, .bool false, .bool false, .bool false, .bool false, .bool false, .bool false, .bool false, .bool false, .bool false, .bool false, .bool false, .bool false, .bool false, .bool false, .bool false, .bool false, .bool false, .bool false, .bool false, .bool false, .bool false, .bool false, .bool false, .bool false, .bool false, .bool false, .bool false, .bool false, .bool false, .bool false, .bool false, .bool false, .bool false, .bool false, .bool false, .bool false, .bool false, .bool false, .bool false, .bool false, .bool false, .bool false, .bool false, .bool false, .bool false, .bool false, .bool false, .bool false, .bool false, .bool false, .bool false, .bool false, .bool false, .bool false, .bool false, .bool false, .bool false, .bool false, .bool false, .bool false, .bool false, .bool false, .bool false, .bool false, .bool false, .bool false, .bool false, .bool false, .bool false, .bool false, .bool false, .bool false, .bool false, .bool false, .bool false, .bool false, .bool false, .bool false, .bool false, .bool false, .bool false, .bool false, .bool false, .bool false, .bool false, .bool false, .bool false, .bool false, .bool false, .bool false, .bool false, .bool false, .bool false, .bool false, .bool false, .bool false, .bool false, .bool false, .bool false, .bool false, .bool false, .bool false, .bool false, .bool false, .bool false, .bool false, .bool false, .bool false, .bool false, .bool false, .bool false, .bool false, .bool false, .bool false, .bool false, .bool false, .bool false, .bool false, .bool false, .bool false, .bool false, .bool false, .bool false, .bool false, .bool false, .bool false, .bool false, .bool false, .bool false, .bool false, .bool false, .bool false, .bool false, .bool false, .bool false, .bool false, .bool false, .bool false, .bool false, .bool false, .bool false, .bool false, .bool false, .bool false, .bool false, .bool false, .bool false, .bool false, .bool false, .bool false, .bool false, .bool false, .bool false, .bool false, .bool false, .bool false, .bool false, .bool false, .bool false, .bool false, .bool false, .bool false, .bool false, .bool false, .bool false, .bool false, .bool false, .bool false, .bool false, .bool false, .bool false, .bool false, .bool false, .bool false, .bool false, .bool false, .bool false, .bool false, .bool false, .bool false, .bool false, .bool false, .bool false, .bool false, .bool false, .bool false, .bool false, .bool false, .bool false, .bool false, .bool false, .bool false, .bool false, .bool false, .bool false, .bool false, .bool false, .bool false, .bool false, .bool false, .bool false, .bool false, .bool false, .bool false, .bool false, .bool false, .bool false, .bool false, .bool false, .bool false, .bool false, .bool false, .bool false, .bool false, .bool false, .bool false, .bool false, .bool false, .bool false, .bool false, .bool false, .bool false, .bool false, .bool false, .bool false, .bool false, .bool false, .bool false, .bool false, .bool false, .bool false, .bool false, .bool false, .bool false, .bool false, .bool false, .bool false, .bool false, .bool false, .bool false] 147),
       .op none (.store 256 (.tmp 6) (.tmp 30)),
       .op (some 7) (.mv (.tmp 31))])
    (.seq
     (.reg [
       .op (some 32) (.mv (.tmp 7))])
    (.cond (.tmp 32)
     (.seq
      (.seq
       (.reg [
         .op (some 8) (.mv (.const (.int .i64 0)))])
      (.block 0
       (.loop
        (.seq
         (.seq
          (.reg [
            .op (some 33) (.mv (.tmp 8)),
            .op (some 34) (.mv (.tmp 0)),
            .op (some 35) (.lenstr (.tmp 34)),
            .op (some 36) (.bin .lss (.tmp 33) (.tmp 35))])
         (.cond (.tmp 36)
          .skip
          (.exit 0)))
        (.seq
         (.block 1
          (.seq
           (.reg [
             .op (some 39) (.mv (.tmp 0)),
             .op (some 40) (.mv (.tmp 8)),
             .op (some 41) (.ixs (.tmp 39) (.tmp 40)),
             .op (some 42) (.call (.func 78) [(.tmp 6), (.tmp 41)])])
          (.cond (.tmp 42)
           (.seq
            (.reg [
              .op (some 43) (.mv (.tmp 8)),
              .op (some 4) (.mv (.tmp 43))])
           .ret)
           .skip)))
        (.reg [
          .op (some 37) (.mv (.tmp 8)),
          .op (some 38) (.bin .add (.tmp 37) (.const (.int .i64 1))),
          .op (some 8) (.mv (.tmp 38))]))))))
     (.seq
      (.reg [
        .op (some 4) (.mv (.const (.int .i64 (-1))))])
     .ret))
     .skip)))
    .skip))
  (.seq
   (.seq
    (.reg [
      .op (some 44) (.mv (.tmp 0)),
      .op (some 45) (.rng (.tmp 44))])
   (.block 2
    (.loop
     (.seq
      (.reg [
        .op (some 46) (.nxt (.tmp 45)),
        .op (some 47) (.ext (.tmp 46) 0)])
     (.seq
      (.cond (.tmp 47)
       .skip
       (.exit 2))
     (.block 3
      (.seq
       (.reg [
         .op (some 48) (.ext (.tmp 46) 1),
         .op (some 49) (.ext (.tmp 46) 2),
         .op (some 9) (.mv (.tmp 48)),
         .op (some 10) (.mv (.tmp 49))])
      (.seq
       (.reg [
         .op (some 50) (.mv (.tmp 1)),
         .op (some 51) (.mv (.tmp 10)),
         .op (some 52) (.call (.func 75) [(.tmp 50), (.tmp 51)]),
         .op (some 53) (.bin .geq (.tmp 52) (.const (.int .i64 0)))])
      (.cond (.tmp 53)
       (.seq
        (.reg [
          .op (some 54) (.mv (.tmp 9)),
          .op (some 4) (.mv (.tmp 54))])
       .ret)
       .skip)))))))))
  (.seq
   (.reg [
     .op (some 4) (.mv (.const (.int .i64 (-1))))])
  .ret))))))
theorem s36 : FnOK Tryz.prog 36 55 [ResultVar.tmp 4] c36 :=
  .mk' [] Tryz.func36 (by kernel_rfl) (by kernel_rfl) (by kernel_rfl)
def c38 : MC :=
  (.seq
   (.reg [
     .op (some 4) (.mv (.const (.string ⟨⟨[]⟩⟩)))])
  (.seq
   (.reg [
     .op (some 5) (.mv (.tmp 0)),
     .op (some 6) (.mv (.tmp 1)),
     .op (some 7) (.call (.func 79) [(.tmp 5), (.tmp 6)]),
     .op (some 4) (.mv (.tmp 7))])
  .ret))
theorem s38 : FnOK Tryz.prog 38 8 [ResultVar.tmp 4] c38 :=
  .mk' [] Tryz.func38 (by kernel_rfl) (by kernel_rfl) (by kernel_rfl)
def c39 : MC :=
  (.seq
   (.reg [
     .op (some 2) (.mv (.const (.bool false)))])
  (.seq
   (.seq
    (.reg [
      .op (some 5) (.mv (.tmp 0)),
      .op (some 6) (.bin .eql (.tmp 5) (.const (.string ⟨⟨[]⟩⟩))),
      .op (some 7) (.mv (.tmp 6)),
      .gd (some 7) false (some 8) (.mv (.tmp 0)),
      .gd (some 7) false (some 9) (.lenstr (.tmp 8)),
      .gd (some 7) false (some 10) (.bin .gtr (.tmp 9) (.const (.int .i64 9))),
      .op (some 11) (.pick (.tmp 7) (.const (.bool true)) (.tmp 10))])
   (.cond (.tmp 11)
    (.seq
     (.reg [
       .op (some 2) (.mv (.const (.bool false)))])
    .ret)
    .skip))
  (.seq
   (.seq
    (.reg [
      .op (some 12) (.mv (.tmp 0)),
      .op (some 13) (.rng (.tmp 12))])
   (.block 0
    (.loop
     (.seq
      (.reg [
        .op (some 14) (.nxt (.tmp 13)),
        .op (some 15) (.ext (.tmp 14) 0)])
     (.seq
      (.cond (.tmp 15)
       .skip
       (.exit 0))
     (.block 1
      (.seq
       (.reg [
         .op (some 16) (.ext (.tmp 14) 2),
         .op (some 4) (.mv (.tmp 16))])
      (.seq
       (.reg [
         .op (some 17) (.mv (.tmp 4)),
         .op (some 18) (.bin .lss (.tmp 17) (.const (.int .i32 48))),
         .op (some 19) (.mv (.tmp 18)),
         .gd (some 19) false (some 20) (.mv (.tmp 4)),
         .gd (some 19) false (some 21) (.bin .gtr (.tmp 20) (.const (.int .i32 57))),
         .op (some 22) (.pick (.tmp 19) (.const (.bool true)) (.tmp 21))])
      (.cond (.tmp 22)
       (.seq
        (.reg [
          .op (some 2) (.mv (.const (.bool false)))])
       .ret)
       .skip)))))))))
  (.seq
   (.reg [
     .op (some 2) (.mv (.const (.bool true)))])
  .ret))))
theorem s39 : FnOK Tryz.prog 39 23 [ResultVar.tmp 2] c39 :=
  .mk' [] Tryz.func39 (by kernel_rfl) (by kernel_rfl) (by kernel_rfl)
def c40 : MC :=
  (.seq
   (.reg [
     .op (some 4) (.alloc [.int .i64 0, .int .i64 0, .int .i64 0, .int .i64 0, .int .i64 0, .int .i64 0, .str [], .str [], .nilslice] 40)])
  (.seq
   (.reg [
     .op (some 16) (.mv (.tmp 1)),
     .op (some 17) (.call (.func 80) [(.tmp 16), (.const (.string ⟨⟨[32, 45, 45, 62, 32]⟩⟩))]),
     .op (some 15) (.mv (.tmp 17)),
     .op (some 18) (.ext (.tmp 15) 0),
     .op (some 19) (.ext (.tmp 15) 1),
     .op (some 20) (.ext (.tmp 15) 2),
     .op (some 5) (.mv (.tmp 18)),
     .op (some 6) (.mv (.tmp 19)),
     .op (some 7) (.mv (.tmp 20))])
  (.seq
   (.seq
    (.reg [
      .op (some 21) (.mv (.tmp 7)),
      .op (some 22) (.un .not (.tmp 21))])
   (.cond (.tmp 22)
    (.reg [
      .op (some 23) (.mv (.tmp 0)),
      .op (some 24) (.mv (.tmp 0)),
      .op (some 25) (.nilck (.tmp 24)),
      .op (some 26) (.faddr 2 (.tmp 25)),
      .op (some 27) (.load false 1 (.tmp 26)),
      .op (some 28) (.call (.func 37) [(.tmp 23), (.const (.int .i64 43)), (.tmp 27), (.const (.int .i64 1))])])
    .skip))
  (.seq
   (.reg [
     .op (some 30) (.mv (.tmp 5)),
     .op (some 31) (.call (.func 81) [(.const (.int .i64 1)), (.tmp 30)]),
     .op (some 29) (.mv (.tmp 31)),
     .op (some 32) (.ext (.tmp 29) 0),
     .op (some 33) (.ext (.tmp 29) 1),
     .op (some 8) (.alloc [.int .i64 0, .int .i64 0] 38),
     .op none (.store 2 (.tmp 8) (.tmp 32)),
     .op (some 9) (.mv (.tmp 33))])
  (.seq
   (.seq
    (.reg [
      .op (some 34) (.mv (.tmp 9)),
      .op (some 35) (.bin .neq (.tmp 34) (.const (.int .i64 0)))])
   (.cond (.tmp 35)
    (.reg [
      .op (some 36) (.mv (.tmp 0)),
      .op (some 37) (.mv (.tmp 0)),
      .op (some 38) (.nilck (.tmp 37)),
      .op (some 39) (.faddr 2 (.tmp 38)),
      .op (some 40) (.load false 1 (.tmp 39)),
      .op (some 41) (.call (.func 37) [(.tmp 36), (.const (.int .i64 31)), (.tmp 40), (.const (.int .i64 1))])])
    .skip))
  (.seq
   (.reg [
     .op (some 43) (.mv (.tmp 6)),
     .op (some 44) (.call (.func 80) [(.tmp 43), (.const (.string ⟨⟨[32]⟩⟩))]),
     .op (some 42) (.mv (.tmp 44)),
     .op (some 45) (.ext (.tmp 42) 0),
     .op (some 46) (.ext (.tmp 42) 1),
     .op (some 47) (.ext (.tmp 42) 2),
     .op (some 10) (.mv (.tmp 45)),
     .op (some 11) (.mv (.tmp 46)),
     .op (some 12) (.mv (.tmp 47))])
  (.seq
   (.reg [
     .op (some 49) (.mv (.tmp 10)),
     .op (some 50) (.call (.func 81) [(.const (.int .i64 1)), (.tmp 49)]),
     .op (some 48) (.mv (.tmp 50)),
     .op (some 51) (.ext (.tmp 48) 0),
     .op (some 52) (.ext (.tmp 48) 1),
     .op (some 13) (.alloc [.int .i64 0, .int .i64 0] 38),
     .op none (.store 2 (.tmp 13) (.tmp 51)),
     .op (some 9) (.mv (.tmp 52))])
  (.seq
   (.seq
    (.reg [
      .op (some 53) (.mv (.tmp 9)),
      .op (some 54) (.bin .neq (.tmp 53) (.const (.int .i64 0)))])
   (.cond (.tmp 54)
    (.reg [
      .op (some 55) (.mv (.tmp 0)),
      .op (some 56) (.mv (.tmp 0)),
      .op (some 57) (.nilck (.tmp 56)),
      .op (some 58) (.faddr 2 (.tmp 57)),
      .op (some 59) (.load false 1 (.tmp 58)),
      .op (some 60) (.mv (.tmp 5)),
      .op (some 61) (.call (.func 52) [(.tmp 60)]),
      .ck false none (some 59) (.load false 1 (.tmp 58)),
      .op (some 62) (.bin .add (.tmp 61) (.const (.int .i64 6))),
      .op (some 63) (.call (.func 37) [(.tmp 55), (.const (.int .i64 31)), (.tmp 59), (.tmp 62)])])
    .skip))
  (.seq
   (.reg [
     .op (some 64) (.load true 2 (.tmp 8)),
     .op (some 65) (.load true 2 (.tmp 13)),
     .op (some 66) (.build [.int .i64 0, .int .i64 0, .int .i64 0, .int .i64 0, .int .i64 0, .int .i64 0, .str [], .str [], .nilslice] [(0, 2, (.tmp 64)), (2, 2, (.tmp 65))]),
     .op (some 14) (.alloc [.int .i64 0, .int .i64 0, .int .i64 0, .int .i64 0, .int .i64 0, .int .i64 0, .str [], .str [], .nilslice] 40),
     .op none (.store 9 (.tmp 14) (.tmp 66))])
  (.seq
   (.block 0
    (.seq
     (.reg [
       .op (some 68) (.load true 2 (.tmp 8)),
       .op (some 69) (.load true 2 (.tmp 13)),
       .op (some 70) (.call (.func 46) [(.tmp 68), (.tmp 69)]),
       .op (some 71) (.bin .geq (.tmp 70) (.const (.int .i64 0))),
       .op (some 67) (.mv (.tmp 71))])
    (.cond (.tmp 67)
     (.reg [
       .op (some 72) (.mv (.tmp 0)),
       .op (some 73) (.mv (.tmp 0)),
       .op (some 74) (.nilck (.tmp 73)),
       .op (some 75) (.faddr 2 (.tmp 74)),
       .op (some 76) (.load false 1 (.tmp 75)),
       .op (some 77) (.call (.func 37) [(.tmp 72), (.const (.int .i64 32)), (.tmp 76), (.const (.int .i64 1))])])
     (.seq
      (.reg [
        .op (some 79) (.mv (.tmp 0)),
        .op (some 80) (.nilck (.tmp 79)),
        .op (some 81) (.faddr 3 (.tmp 80)),
        .op (some 82) (.load false 1 (.tmp 81)),
        .op (some 83) (.lensl (.tmp 82)),
        .op (some 84) (.bin .gtr (.tmp 83) (.const (.int .i64 0))),
        .op (some 85) (.mv (.tmp 84)),
        .gd (some 85) true (some 86) (.mv (.tmp 0)),
        .gd (some 85) true (some 87) (.nilck (.tmp 86)),
        .gd (some 85) true (some 88) (.faddr 3 (.tmp 87)),
        .gd (some 85) true (some 89) (.load false 1 (.tmp 88)),
        .gd (some 85) true (some 90) (.mv (.tmp 0)),
        .gd (some 85) true (some 91) (.nilck (.tmp 90)),
        .gd (some 85) true (some 92) (.faddr 3 (.tmp 91)),
        .gd (some 85) true (some 93) (.load false 1 (.tmp 92)),
        .gd (some 85) true (some 94) (.lensl (.tmp 93)),
        .gd (some 85) true (some 95) (.bin .sub (.tmp 94) (.const (.int .i64 1))),
        .gd (some 85) true (some 96) (.ias 9 (.tmp 89) (.tmp 95)),
        .gd (some 85) true (some 97) (.load true 9 (.tmp 96)),
        .gd (some 85) true (some 98) (.load true 9 (.tmp 14)),
        .gd (some 85) true (some 99) (.call (.func 82) [(.tmp 97), (.tmp 98)]),
        .gd (some 85) true (some 100) (.bin .gtr (.tmp 99) (.const (.int .i64 0))),
        .op (some 101) (.pick (.tmp 85) (.tmp 100) (.const (.bool false))),
        .op (some 78) (.mv (.tmp 101))])
     (.cond (.tmp 78)
      (.reg [
        .op (some 102) (.mv (.tmp 0)),
        .op (some 103) (.mv (.tmp 0)),
        .op (some 104) (.nilck (.tmp 103)),
        .op (some 105) (.faddr 2 (.tmp 104)),
        .op (some 106) (.load false 1 (.tmp 105)),
        .op (some 107) (.call (.func 37) [(.tmp 102), (.const (.int .i64 33)), (.tmp 106), (.const (.int .i64 1))])])
      (.seq
       (.reg [
         .op (some 109) (.mv (.tmp 0)),
         .op (some 110) (.nilck (.tmp 109)),
         .op (some 111) (.faddr 3 (.tmp 110)),
         .op (some 112) (.load false 1 (.tmp 111)),
         .op (some 113) (.lensl (.tmp 112)),
         .op (some 114) (.bin .eql (.tmp 113) (.const (.int .i64 4096))),
         .op (some 108) (.mv (.tmp 114))])
      (.cond (.tmp 108)
       (.reg [
         .op (some 115) (.mv (.tmp 0)),
         .op (some 116) (.mv (.tmp 0)),
         .op (some 117) (.nilck (.tmp 116)),
         .op (some 118) (.faddr 2 (.tmp 117)),
         .op (some 119) (.load false 1 (.tmp 118)),
         .op (some 120) (.call (.func 37) [(.tmp 115), (.const (.int .i64 2)), (.tmp 119), (.const (.int .i64 1))])])
       .skip)))))))
  (.seq
   (.reg [
     .op (some 121) (.load true 9 (.tmp 14)),
     .op none (.store 9 (.tmp 4) (.tmp 121))])
  .ret)))))))))))
theorem s40 : FnOK Tryz.prog 40 122 [ResultVar.cell 4 40] c40 :=
  .mk' [(10, [], [(0, []), (1, []), (2, []), (3, []), (4, []), (5, []), (6, [4]), (7, []), (8, [])]), (14, [], [(0, []), (1, []), (2, []), (3, []), (4, []), (5, []), (6, []), (7, []), (8, []), (9, []), (10, []), (11, []), (12, []), (13, []), (14, []), (15, []), (16, []), (17, []), (18, []), (19, []), (20, []), (21, []), (22, []), (23, [])])] Tryz.func40 (by kernel_rfl) (by kernel_rfl) (by kernel_rfl)
end Go.Cm
